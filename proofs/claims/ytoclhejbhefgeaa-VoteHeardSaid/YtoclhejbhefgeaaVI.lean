/- The value level is sound, 7: stores, appends, indices, cuts. -/
import Derived.Test.YtoclhejbhefgeaaVH
set_option linter.unusedVariables false
set_option linter.unusedSimpArgs false
namespace Go.Proofs.VL
open Go

variable {C : Ctx} {w : World} {S : Nat → Prop} {ι : Hist} {P : Program} {tt : Tab} {st : Store} {nx nx' : Nat} {out : List (List D)} {tk : Nat}

theorem seg_set (l : List Value) (o : Nat) (us : List Value) (h : o + us.length ≤ l.length) : ((us.zipIdx 0).foldl (fun l p => l.set (o + p.2) p.1) l) = l.take o ++ us ++ l.drop (o + us.length) := by
  have gen : ∀ (us : List Value) (k : Nat) (l : List Value), o + k + us.length ≤ l.length → ((us.zipIdx k).foldl (fun l p => l.set (o + p.2) p.1) l) = l.take (o + k) ++ us ++ l.drop (o + k + us.length) := by
    intro us
    induction us with
    | nil => intro k l hl; simp
    | cons u r ih =>
      intro k l hl
      simp only [List.length_cons] at hl
      simp only [List.zipIdx_cons, List.foldl_cons]
      rw [ih (k + 1) (l.set (o + k) u) (by simp; omega)]
      have h1 : (l.set (o + k) u).take (o + (k + 1)) = l.take (o + k) ++ [u] := by
        rw [show o + (k + 1) = (o + k) + 1 from by omega, List.take_succ_eq_append_getElem (by simp; omega)]
        simp [List.take_set]
        rw [List.set_eq_of_length_le (by simp; omega)]
      have h2 : (l.set (o + k) u).drop (o + (k + 1) + r.length) = l.drop (o + k + (r.length + 1)) := by
        rw [List.drop_set, if_pos (by omega)]
        congr 1
        omega
      rw [h1, h2]
      simp
  simpa using gen us 0 l (by simpa using h)

theorem setRow_ext {g : Nat} {cs : Array Value} (hg : C.My g) : Ext C.My w (w.setRow g cs) :=
  ⟨rfl, rfl, rfl, by simp, fun b hb hn => setRow_other w g b cs (fun e => hn (e ▸ hg))⟩

/-- A variable's cells are written. -/
theorem store_box (A : At C st nx nx' out w ι S tk) {T i : _} (hty : TyOk P T i) {t off T' : Nat} {cs xs : List CV} {vx : Value} (hr : sget st t = some (.box T' cs)) (hx : CellsR C w S ι xs vx.cells.toList) (hl : xs.length = i.size) (hfit : off + i.size ≤ cs.length) {v : Value}
    (hp : CVR C w S ι (.ptr t off) v) : ∃ w', (Instr.storeAt T v vx).run P w = .ok () w' ∧ Out C (sput st t (.box T' (putCells cs off xs))) nx' out w ι S tk (.tup []) undef w' := by
  cases hp with
  | ptr hp =>
    rename_i g
    have hrow := A.h.row t _ hr
    obtain ⟨g', vs, h1, h2, h3⟩ := box_row hrow
    rw [hp] at h1
    have : g = g' := by simpa using h1
    subst this
    have hvs : vs.size = cs.length := by simpa using h3.1
    have hxl : vx.cells.toList.length = i.size := by rw [hx.1, hl]
    have hst := run_storeCells_at P g off T' vx.cells.toList 0 vs w h2 (by rw [hxl]; omega) (fun u hu => by
      obtain ⟨j, hj, he⟩ := List.mem_iff_getElem.1 hu
      have hj' : j < xs.length := by rw [← hx.1]; exact hj
      obtain ⟨u', hu', hc⟩ := hx.2 j xs[j] (List.getElem?_eq_getElem hj')
      rw [List.getElem?_eq_getElem hj] at hu'
      injection hu' with hu'
      rw [← he, hu']
      exact cvr_one hc)
    rw [Nat.add_zero] at hst
    obtain ⟨hmy, hnS, hnB⟩ := A.h.mine t _ g hr (by simp [curBlk, hp, blkOf])
    have hput := h3.put hx off 0
    rw [Nat.add_zero, seg_set _ _ _ (by rw [hxl]; simpa using (by omega : off + i.size ≤ vs.size))] at hput
    have hm : ∀ t' n', hset ι t 0 (.pointer (some ⟨g, 0, none⟩)) t' n' = ι t' n' := by
      intro t' n'
      unfold hset
      split
      · rename_i q; obtain ⟨rfl, rfl⟩ := q; exact hp.symm
      · rfl
    have hι : hset ι t 0 (.pointer (some ⟨g, 0, none⟩)) = ι := funext fun t' => funext fun n' => hm t' n'
    have hL : Later C w (w.setRow g (vs.toList.take off ++ vx.cells.toList ++ vs.toList.drop (off + vx.cells.toList.length)).toArray) S S ι ι := by
      refine ⟨fun _ h => h, fun b hb => setRow_other w g b _ fun e => ?_, fun _ _ _ h => h⟩
      subst e
      rcases hb with hb | hb
      · exact hnS hb
      · exact hnB hb
    obtain ⟨q1, q2⟩ := StI.put (w' := w.setRow g (vs.toList.take off ++ vx.cells.toList ++ vs.toList.drop (off + vx.cells.toList.length)).toArray) (t := t) (n := 0) (v := .pointer (some ⟨g, 0, none⟩)) (r := .box T' (putCells cs off xs)) (g := some g) (nx' := nx') A.hst A.h
      (setRow_ext hmy) (fun b hb hn => setRow_other w g b _ fun e => hn (by rw [e])) (.inr hp)
      (by
        rw [hι]
        have hc := hput.later hL
        refine .box hp (setRow_heap w g vs _ T' _ h2) (by simpa using hc.1) fun j x hj => ?_
        obtain ⟨u, hu, hcx⟩ := hc.2 j x hj
        rw [arr_getD (v := u) (by simpa using hu)]
        exact hcx)
      (fun b hb _ => by
        injection hb with hb
        subst hb
        exact ⟨hnS, hnB, fun t' r' hne hr' hcb => hne (A.h.sep t' t r' _ g hr' hr hcb (by simp [curBlk, hp, blkOf]))⟩)
      (fun b hb => by
        rw [hι] at hb
        have : b = g := by simpa [curBlk, hp, blkOf] using hb.symm
        subst this
        exact ⟨hmy, hnS, hnB, fun t' r' hne hr' hcb => hne (A.h.sep t' t r' _ b hr' hr hcb (by simp [curBlk, hp, blkOf]))⟩)
      A.le (by have := A.h.nx t 0 _ hp; have := A.le; omega)
    rw [hι] at q1 q2
    refine ⟨_, ?_, ι, S, .tup rfl (fun j x hj => by simp at hj), q1, q2, setRow_ext hmy, fun t' ht' _ => ht'⟩
    simp only [Instr.storeAt, Instr.sureAddr, storeVar, Sem.run_bind, Sem.run_pure, Result.andThen_ok, hty.sizeOf]
    have hne : ¬ (vx.cells.size ≠ i.size) := by have := hxl; simp at this; simp [this]
    rw [if_neg hne]
    exact hst

theorem take_seg (l us : List Value) (o m : Nat) (h : o + us.length ≤ m) (hm : m ≤ l.length) : (l.take o ++ us ++ l.drop (o + us.length)).take m = (l.take m).take o ++ us ++ (l.take m).drop (o + us.length) := by
  have hA : (l.take o ++ us).length = o + us.length := by simp; omega
  rw [List.take_append, hA, List.take_of_length_le (by omega), List.drop_take, List.take_take, Nat.min_eq_left (by omega)]

/-- An element's cells are written. -/
theorem store_el (A : At C st nx nx' out w ι S tk) {T i : _} (hty : TyOk P T i) {t n off e k : Nat} {es : List (List D)} {xs : List CV} {ys : List D} {g : List Nat} {vx : Value} (hr : sget st t = some (.sl e k es)) (hd : dsOf st xs = some (ys, g))
    (hx : CellsR C w S ι xs vx.cells.toList) (hn : es.length = n) (hl : xs.length = i.size) (hfit : off % k + i.size ≤ k) (hin : off / k < es.length) (hg : t ∉ g) {v : Value} (hp : CVR C w S ι (.ep t n off) v) :
    ∃ w', (Instr.storeAt T v vx).run P w = .ok () w' ∧ Out C (supd st (gone g ++ [(t, some (.sl e k (setElem k es off ys)))])) nx' out w ι S tk (.tup []) undef w' := by
  subst hn
  cases hp with
  | ep hp =>
    rename_i b c
    obtain ⟨S', hf1, hf2, hf3⟩ := freezeAll g A.h
    obtain ⟨hyl, hys⟩ := dsOf_sound A.h hf2.s hx hd hf3
    have hr' : sget (delAll st g) t = some (.sl e k es) := by rw [sget_delAll, if_neg hg]; exact hr
    obtain ⟨v0, zs, h1, h2, h3, h4, h5⟩ := sl_row (hf1.row t _ hr')
    rw [hp] at h1
    injection h1 with h1
    subst h1
    rcases h2.2 with ⟨h, _⟩ | ⟨b', c', cur, hv, h0, hh, hle, hcap, hcs, htake⟩
    · cases h
    injection hv with hv1 _ hv3
    injection hv1 with hv1
    injection hv1 with hv1 _ _
    subst hv1; subst hv3
    have hxl : vx.cells.toList.length = i.size := by rw [hx.1, hl]
    have hoff : off / k * k + off % k = off := Nat.div_add_mod' off k
    have hnk : off + i.size ≤ es.length * k := by
      have : (off / k + 1) * k ≤ es.length * k := Nat.mul_le_mul_right k hin
      rw [Nat.succ_mul] at this
      omega
    have hck : es.length * k ≤ c * k := Nat.mul_le_mul_right k hle
    have hst := run_storeCells_at P b off e vx.cells.toList 0 cur w hh (by rw [hxl]; omega) (fun u hu => by
      obtain ⟨j, hj, he⟩ := List.mem_iff_getElem.1 hu
      have hj' : j < xs.length := by rw [← hx.1]; exact hj
      obtain ⟨u', hu', hc⟩ := hx.2 j xs[j] (List.getElem?_eq_getElem hj')
      rw [List.getElem?_eq_getElem hj] at hu'
      injection hu' with hu'
      rw [← he, hu']
      exact cvr_one hc)
    rw [Nat.add_zero] at hst
    obtain ⟨hmy, hnS, hnB⟩ := hf1.mine t _ b hr' (by simp [curBlk, hp, blkOf])
    have hzl : zs.length = es.length * k := h2.1
    have hput := h4.put hys off 0
    rw [Nat.add_zero, seg_set _ _ _ (by rw [hxl, hzl]; exact hnk), putCells_map] at hput
    have hyl' : ys.length = i.size := by rw [hyl, hl]
    have hflat : (setElem k es off ys).flatten = putDs es.flatten off ys := by
      unfold setElem
      rw [flat_modify (by rw [hyl']; exact hfit) h3 _ hin, hoff]
    have hel : (setElem k es off ys).length = es.length := by simp [setElem]
    have hι : hset ι t es.length (.slice (some ⟨b, 0, none⟩) es.length c) = ι := funext fun t' => funext fun n' => by
      unfold hset
      split
      · rename_i q; obtain ⟨rfl, rfl⟩ := q; exact hp.symm
      · rfl
    have hL : Later C w (w.setRow b (cur.toList.take off ++ vx.cells.toList ++ cur.toList.drop (off + vx.cells.toList.length)).toArray) S' S' ι ι := by
      refine ⟨fun _ h => h, fun b' hb => setRow_other w b b' _ fun e => ?_, fun _ _ _ h => h⟩
      subst e
      rcases hb with hb | hb
      · exact hnS hb
      · exact hnB hb
    obtain ⟨q1, q2⟩ := StI.put (w' := w.setRow b (cur.toList.take off ++ vx.cells.toList ++ cur.toList.drop (off + vx.cells.toList.length)).toArray) (t := t) (n := es.length) (v := .slice (some ⟨b, 0, none⟩) es.length c) (r := .sl e k (setElem k es off ys)) (g := some b) (nx' := nx') A.hst hf1
      (setRow_ext hmy) (fun b' hb hn => setRow_other w b b' _ fun e => hn (by rw [e])) (.inr hp)
      (by
        rw [hι]
        have hc := hput.later hL
        refine .sl (by rw [hel]; exact hp) (v := .slice (some ⟨b, 0, none⟩) es.length c) (xs := zs.take off ++ vx.cells.toList ++ zs.drop (off + vx.cells.toList.length)) ⟨by rw [hel]; simp [hxl, hzl]; simp at hxl; omega, .inr ⟨b, c, _, by rw [hel], Nat.zero_le _, setRow_heap w b cur _ e _ hh, by rw [hel]; exact hle, hcap, ?_, ?_⟩⟩ (setElem_len h3 off ys) (fun j x hj => ?_) (fun n' hn' => by rw [hel]; exact h5 n' hn')
        · have := hcs; simp at this hxl ⊢; omega
        · rw [hel, ← htake]
          exact take_seg _ _ _ _ (by rw [hxl]; exact hnk) (by simp; omega)
        · rw [hflat] at hj
          exact hc.ds j x hj)
      (fun b' hb _ => by
        injection hb with hb
        subst hb
        exact ⟨hnS, hnB, fun t' r' hne hr'' hcb => hne (hf1.sep t' t r' _ b hr'' hr' hcb (by simp [curBlk, hp, blkOf]))⟩)
      (fun b' hb => by
        rw [hι] at hb
        have : b' = b := by simpa [curBlk, hel, hp, blkOf] using hb.symm
        subst this
        exact ⟨hmy, hnS, hnB, fun t' r' hne hr'' hcb => hne (hf1.sep t' t r' _ b' hr'' hr' hcb (by simp [curBlk, hp, blkOf]))⟩)
      A.le (by have := A.h.nx t _ _ hp; have := A.le; omega)
    rw [hι] at q1 q2
    refine ⟨_, ?_, ι, S', .tup rfl (fun j x hj => by simp at hj), by rw [supd_append, supd_gone]; exact q1, hf2.trans q2, setRow_ext hmy, fun t' ht' _ => ht'⟩
    simp only [Instr.storeAt, Instr.sureAddr, storeVar, Sem.run_bind, Sem.run_pure, Result.andThen_ok, hty.sizeOf]
    have hne : ¬ (vx.cells.size ≠ i.size) := by have := hxl; simp at this; simp [this]
    rw [if_neg hne]
    exact hst
end Go.Proofs.VL
