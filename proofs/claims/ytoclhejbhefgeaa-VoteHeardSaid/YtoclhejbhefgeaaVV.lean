/- The value level: the library's sort and compact of ints, from the shelf. -/
import Derived.Test.YtoclhejbhefgeaaVU
import Derived.Shelf.Sort.Plain
import Derived.Shelf.Slices.In.SortNone
import Derived.Shelf.Slices.CompactI
import Derived.Sort.OwnSortedInts
set_option linter.unusedVariables false
set_option linter.unusedSimpArgs false
namespace Go.Proofs.VL
open Go Go.Shelf Go.Sort

variable {P : Program} {ρ : Go.Shelf.Ren}

def iints (l : List Int) : List (List D) := l.map fun x => [dint x]
theorem iints_flat (l : List Int) : (iints l).flatten = l.map dint := by
  unfold iints
  induction l with
  | nil => rfl
  | cons x r ih => simp [ih]
theorem iints_len (l : List Int) : (iints l).length = l.length := by simp [iints]
theorem ints_of_cells {C : Ctx} {w : World} {S : Nat → Prop} {ι : Hist} {l : List Int} {xs : List Value} (h : CellsR C w S ι ((iints l).flatten.map CV.d) xs) : xs = l.map (Value.int .i64) := by
  rw [iints_flat, List.map_map] at h
  apply List.ext_getElem?
  intro i
  by_cases hi : i < l.length
  · obtain ⟨v, hv, hc⟩ := h.2 i (cint l[i]) (by simp [hi])
    rw [hv, List.getElem?_map, List.getElem?_eq_getElem hi]
    simp [(cvr_v hc).1]
  · have h1 := h.1
    simp at h1
    rw [List.getElem?_eq_none (by omega), List.getElem?_eq_none (by simp; omega)]
theorem cells_of_ints {C : Ctx} {w : World} {S : Nat → Prop} {ι : Hist} (l : List Int) (j : Nat) (x : D) (h : (iints l).flatten[j]? = some x) : ∃ u, (l.map (Value.int .i64))[j]? = some u ∧ Rd w S x u := by
  rw [iints_flat, List.getElem?_map] at h
  cases hl : l[j]? with
  | none => simp [hl] at h
  | some y =>
    simp [hl] at h
    subst h
    exact ⟨.int .i64 y, by simp [hl], .v rfl⟩

/-- slices.Sort at []int: the row is sorted in place. -/
theorem sort_calls (L : Lays.n189 P ρ) (he : Enters P (ρ.f 189)) {e : TypeId} (l : List Int) (hl : l.length < 4611686018427387904) :
    VCalls P (ρ.f 189) [.c (.own 0 l.length)] [(0, .sl e 1 (iints l))] (.tup []) [(0, .sl e 1 (iints (l.mergeSort fun x y => decide (x ≤ y))))] := by
  refine ⟨he, fun w S Bw ι nx vs => ?_⟩
  intro C hI htm
  obtain ⟨S1, k1, _, _, _⟩ := coe_sound (R := { r := [(0, 0)] }) (nx' := 64) (st' := [(0, .sl e 1 (iints l))]) (Ren.ok_spec rfl) hI (by simp [coeS, coeRow, own?, coeRo, coeR, sget])
  have hι : ∀ n, Ren.h { r := [(0, 0)] } ι 0 n = ι 0 n := fun n => Ren.get (nx' := 64) (Ren.ok_spec rfl) (by simp) n
  have hst : ∀ out w w', C.Fr out w → Ext C.My w w' → C.Fr out w' := fun _ _ _ _ _ => trivial
  have keep : ∀ t n v, sget [(0, Row.sl e 1 (iints l))] t ≠ none → sget [(0, Row.sl e 1 (iints (l.mergeSort fun x y => decide (x ≤ y))))] t ≠ none → ι t n = some v → Ren.h { r := [(0, 0)] } ι t n = some v := by
    intro t n v h _ hv
    have : t = 0 := by
      simp only [sget] at h
      split at h
      · rename_i h0; exact h0.symm
      · exact absurd rfl h
    subst this
    rw [hι]; exact hv
  have hsz : vs.size = 1 := htm.1
  have h0 := htm.2 0 _ rfl
  obtain ⟨hv, A, c, hva⟩ := cvr_own (tvr_c h0)
  have hvs : vs = #[.slice A l.length c] := by
    apply Array.ext
    · simpa using hsz
    · intro i h1 h2
      have : i = 0 := by simp at h2; exact h2
      subst this
      simp only [List.getElem_toArray, List.getElem_cons_zero]
      rw [← hva, Array.getD_eq_getD_getElem?, Array.getElem?_eq_getElem h1]
      rfl
  subst hvs
  obtain ⟨v0, xs, q1, q2, q3, q4, q5⟩ := sl_row (k1.row 0 _ rfl)
  rw [iints_len, hι, hv, hva] at q1
  injection q1 with q1
  subst q1
  have hxs := ints_of_cells q4
  subst hxs
  have hml : (l.mergeSort fun x y => decide (x ≤ y)).length = l.length := List.length_mergeSort ..
  rcases q2.2 with ⟨hnil, hn0⟩ | ⟨g, cap, cur, hsl, hg0, hh, hle, hcap, hcs, htake⟩
  · rw [iints_len] at hn0
    have hln : l = [] := List.eq_nil_of_length_eq_zero hn0
    subst hln
    refine (Any.slices_Sort_int_none L A c w).mono fun e' w' hr => ?_
    obtain ⟨rfl, rfl⟩ := hr
    refine ⟨_, _, S1, rfl, Ext.refl _ _, ?_, .tup rfl fun i x hx => by simp at hx, keep⟩
    rw [List.mergeSort_nil]
    exact StI.unlent (C := C) { C with Bw := fun _ => False } rfl rfl (fun b h => h) trivial k1 rfl
  · injection hsl with hA _ hc
    subst hA; subst hc
    rw [iints_len] at hle htake
    rw [Nat.mul_one] at htake
    have hblk : g < w.heap.size := (Array.getElem?_eq_some_iff.1 hh).1
    have hH := holds_of_blockI (ss := l) hh htake
    refine (Any.slices_Sort_int L g 0 c l w hH hblk hl).mono fun e' w' hr => ?_
    obtain ⟨rfl, n, os, rfl⟩ := hr
    have hcur : curBlk ι 0 (.sl e 1 (iints l)) = some g := by
      simp only [curBlk, iints_len, hv, hva, Option.bind_some, blkOf]
    have hgr := grownBy_sortedI (w := w) (g := g) (n := n) (os := os) (l.mergeSort fun x y => decide (x ≤ y)).toArray
    have hMy : C.My g := .inr ⟨0, _, rfl, hcur⟩
    have hx := Ext.of_grown (My := C.My) hgr (fun b hb => by injection hb with hb; exact hb ▸ hMy)
    have hcur1 : curBlk (Ren.h { r := [(0, 0)] } ι) 0 (.sl e 1 (iints l)) = some g := by
      simp only [curBlk, hι]; simpa [curBlk] using hcur
    obtain ⟨_, hnS, hnB⟩ := k1.mine 0 _ g rfl hcur1
    have hset1 : hset (Ren.h { r := [(0, 0)] } ι) 0 l.length (.slice (some ⟨g, 0, none⟩) l.length c) = Ren.h { r := [(0, 0)] } ι := funext fun t => funext fun m => by
      unfold hset
      split
      · rename_i q
        obtain ⟨rfl, rfl⟩ := q
        rw [hι, hv, hva]
      · rfl
    have hone : ∀ t' r', t' ≠ 0 → sget [(0, Row.sl e 1 (iints l))] t' = some r' → False := by
      intro t' r' hne hr
      simp only [sget] at hr
      split at hr
      · rename_i h; exact hne h.symm
      · cases hr
    obtain ⟨p1, _⟩ := StI.put (t := 0) (n := l.length) (v := .slice (some ⟨g, 0, none⟩) l.length c) (r := .sl e 1 (iints (l.mergeSort fun x y => decide (x ≤ y)))) (g := some g) (nx' := 64) hst k1 hx (fun b hb hne => hgr.block b hb hne) (.inr (by rw [hι, hv, hva]))
      (by
        rw [hset1]
        refine .sl (v := .slice (some ⟨g, 0, none⟩) l.length c) (xs := (l.mergeSort fun x y => decide (x ≤ y)).map (Value.int .i64)) (by rw [iints_len, hml, hι, hv, hva]) ?_ (fun x hx => by obtain ⟨y, _, rfl⟩ := List.mem_map.1 hx; rfl) (fun j x hx => cells_of_ints (C := C) (ι := ι) _ j x hx) (fun m hm => by
          have := q5 m hm
          rw [iints_len] at this ⊢
          rw [hml]; exact this)
        rw [iints_len, hml]
        exact ownsRow_sortedI hml (Nat.zero_le _) hh hle hcap (by simpa using hcs))
      (fun b hb _ => by
        injection hb with hb
        subst hb
        exact ⟨hnS, hnB, fun t' r' hne hr _ => hone t' r' hne hr⟩)
      (fun b hb => by
        rw [hset1] at hb
        have : b = g := by
          simp only [curBlk, iints_len, hml, hι, hv, hva, Option.bind_some, blkOf, Option.some.injEq] at hb
          exact hb.symm
        subst this
        exact ⟨hMy, hnS, hnB, fun t' r' hne hr _ => hone t' r' hne hr⟩) (Nat.le_refl _) (by omega)
    rw [hset1] at p1
    exact ⟨_, _, S1, rfl, hx, StI.unlent (C := C) { C with Bw := fun _ => False } rfl rfl (fun b h => h) trivial p1 rfl, .tup rfl fun i x hx => by simp at hx, keep⟩

theorem compact_le (l : List Int) : (Lib.compact l).length ≤ l.length := by
  unfold Lib.compact Lib.compactUpTo
  rw [List.length_map]
  exact Nat.le_trans (List.length_filter_le _ _) (by simp)
/-- slices.Compact at []int: what is left stands in the same memory, under another name. -/
theorem compact_calls (L : Lays2.n20 P ρ) (he : Enters P (ρ.f 20)) {e : TypeId} (l : List Int) (hl : l.length ≤ 9223372036854775807) :
    VCalls P (ρ.f 20) [.c (.own 0 l.length)] [(0, .sl e 1 (iints l))] (.c (.own 1 (Lib.compact l).length)) [(1, .sl e 1 (iints (Lib.compact l)))] := by
  refine ⟨he, fun w S Bw ι nx vs => ?_⟩
  intro C hI htm
  let ι0 : Hist := fun _ _ => none
  have hι : ∀ t n, ι0 t n = none := fun _ _ => rfl
  have k1 : StI C [] 64 [] w ι0 S := ⟨trivial, fun t r hr => by simp [sget] at hr, fun t t' r r' b hr => by simp [sget] at hr, fun t r b hr => by simp [sget] at hr, hI.dat, hI.s0, hI.bw, fun t n v h => (by cases h), hI.my⟩
  have hst : ∀ out w w', C.Fr out w → Ext C.My w w' → C.Fr out w' := fun _ _ _ _ _ => trivial
  have keep : ∀ (r : Row) (ι' : Hist) (t n : Nat) (v : Value), sget [(0, Row.sl e 1 (iints l))] t ≠ none → sget [(1, r)] t ≠ none → ι t n = some v → ι' t n = some v := by
    intro r ι' t n v h h2 _
    simp only [sget] at h h2
    split at h
    · rename_i h0; subst h0; simp at h2
    · exact absurd rfl h
  have hsz : vs.size = 1 := htm.1
  have h0 := htm.2 0 _ rfl
  obtain ⟨hv, A, c, hva⟩ := cvr_own (tvr_c h0)
  have hvs : vs = #[.slice A l.length c] := by
    apply Array.ext
    · simpa using hsz
    · intro i h1 h2
      have : i = 0 := by simp at h2; exact h2
      subst this
      simp only [List.getElem_toArray, List.getElem_cons_zero]
      rw [← hva, Array.getD_eq_getD_getElem?, Array.getElem?_eq_getElem h1]
      rfl
  subst hvs
  obtain ⟨v0, xs, q1, q2, q3, q4, q5⟩ := sl_row (hI.row 0 _ rfl)
  rw [iints_len, hv, hva] at q1
  injection q1 with q1
  subst q1
  have hxs := ints_of_cells q4
  subst hxs
  have hcur : curBlk ι 0 (.sl e 1 (iints l)) = blkOf (.slice A l.length c) := by
    simp only [curBlk, iints_len, hv, hva, Option.bind_some]
  -- the row behind the call, from what the world is then
  have fin : ∀ (w' : World) (c' : Nat) (row : Option Nat), Ext C.My w w' → (∀ b, b < w.heap.size → some b ≠ row → w'.heap[b]? = w.heap[b]?) → row = blkOf (.slice A (Lib.compact l).length c') → blkOf (.slice A (Lib.compact l).length c') = blkOf (.slice A l.length c) →
      w'.ownsRow 0 e 1 (.slice A (Lib.compact l).length c') (Lib.compact l).length ((Lib.compact l).map (Value.int .i64)) →
      ∃ v ι' S', Ending.returned (.slice A (Lib.compact l).length c') = .returned v ∧ Ext C.My w w' ∧ StI { C with Bw := fun _ => False } [(1, .sl e 1 (iints (Lib.compact l)))] 64 [] w' ι' S' ∧ TVR { C with Bw := fun _ => False } w' S' ι' (.c (.own 1 (Lib.compact l).length)) v ∧
        ∀ t n v, sget [(0, Row.sl e 1 (iints l))] t ≠ none → sget [(1, Row.sl e 1 (iints (Lib.compact l)))] t ≠ none → ι t n = some v → ι' t n = some v := by
    intro w' c' row hx hb hrow hsame hown
    have mine : ∀ b, row = some b → C.My b ∧ ¬ S b ∧ ¬ C.Bw b := by
      intro b hrb
      have hcb : curBlk ι 0 (.sl e 1 (iints l)) = some b := by rw [hcur, ← hsame, ← hrow, hrb]
      exact hI.mine 0 _ b rfl hcb
    obtain ⟨p1, _⟩ := StI.put (t := 1) (n := (Lib.compact l).length) (v := .slice A (Lib.compact l).length c') (r := .sl e 1 (iints (Lib.compact l))) (g := row) (nx' := 64) hst k1 hx hb (.inl (hι 1 (Lib.compact l).length))
      (.sl (v := .slice A (Lib.compact l).length c') (xs := (Lib.compact l).map (Value.int .i64)) (by rw [iints_len]; exact hset_same _ _ _ _) (by rw [iints_len]; exact hown) (fun x hx => by obtain ⟨y, _, rfl⟩ := List.mem_map.1 hx; rfl)
        (fun j x hx => cells_of_ints (C := C) (ι := ι) _ j x hx) (fun m hm => by
          rw [iints_len]
          unfold hset at hm
          split at hm
          · rename_i q; exact Nat.le_of_eq q.2
          · exact absurd (hι 1 m) hm))
      (fun b hb _ => ⟨(mine b hb).2.1, (mine b hb).2.2, fun t' r' _ hr => by simp [sget] at hr⟩)
      (fun b hb => by
        have hb' : row = some b := by
          rw [hrow]
          simpa [curBlk, iints_len, hset_same] using hb
        exact ⟨(mine b hb').1, (mine b hb').2.1, (mine b hb').2.2, fun t' r' _ hr => by simp [sget] at hr⟩) (Nat.le_refl _) (by omega)
    exact ⟨_, _, S, rfl, hx, StI.unlent (C := C) { C with Bw := fun _ => False } rfl rfl (fun b h => h) trivial p1 rfl, .c (.own (hset_same _ _ _ _)), keep _ _⟩
  have hcle := compact_le l
  rcases q2.2 with ⟨hnil, hn0⟩ | ⟨g, cap, cur, hsl, hg0, hh, hle, hcap, hcs, htake⟩
  · rw [iints_len] at hn0
    have hln : l = [] := List.eq_nil_of_length_eq_zero hn0
    subst hln
    injection hnil with hA _ hc
    subst hA; subst hc
    refine (Any.slices_Compact_int_empty L none 0 w).mono fun e' w' hr => ?_
    obtain ⟨rfl, rfl⟩ := hr
    exact fin w' 0 none (Ext.refl _ _) (fun _ _ _ => rfl) rfl rfl (World.ownsRow_nil w' 0 e 1)
  · injection hsl with hA _ hc
    subst hA; subst hc
    rw [iints_len] at hle htake
    rw [Nat.mul_one] at htake
    have hblk : g < w.heap.size := (Array.getElem?_eq_some_iff.1 hh).1
    have hcur' : curBlk ι 0 (.sl e 1 (iints l)) = some g := by rw [hcur]; rfl
    have hMy : C.My g := .inr ⟨0, _, rfl, hcur'⟩
    have hH := holds_of_blockI (ss := l) hh htake
    refine (Any.slices_Compact_int L g 0 c l w hH hl hle).mono fun e' w' hr => ?_
    obtain ⟨rfl, q, rfl⟩ := hr
    have hgr := grownBy_sortedI (w := w) (g := g) (n := q) (os := #[]) (Lib.compact l ++ List.replicate (l.length - (Lib.compact l).length) 0).toArray
    have hhp := heap_sortedI (n := q) (os := #[]) (Lib.compact l ++ List.replicate (l.length - (Lib.compact l).length) 0).toArray hh
    rw [grow_empty] at hgr hhp
    have hdl : (Lib.compact l ++ List.replicate (l.length - (Lib.compact l).length) 0).length = l.length := by simp; omega
    have htk := take_putCellsI cur (Lib.compact l ++ List.replicate (l.length - (Lib.compact l).length) 0) (by rw [hdl, hcs]; omega)
    rw [hdl] at htk
    refine fin _ c (some g) (Ext.of_grown (My := C.My) hgr (fun b hb => by injection hb with hb; exact hb ▸ hMy)) (fun b hb hne => hgr.block b hb hne) rfl rfl ⟨by simp, .inr ⟨g, c, _, rfl, Nat.zero_le _, hhp, by omega, hcap, ?_, ?_⟩⟩
    · simpa [Go.Sort.putCells] using hcs
    · rw [Nat.mul_one]
      have := congrArg (List.take (Lib.compact l).length) htk
      rw [List.take_take, Nat.min_eq_left hcle, ← List.map_take, List.take_left] at this
      exact this
#print axioms sort_calls
#print axioms compact_calls
end Go.Proofs.VL
