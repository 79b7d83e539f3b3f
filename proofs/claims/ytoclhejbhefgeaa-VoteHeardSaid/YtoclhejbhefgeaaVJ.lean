/- The value level is sound, 8: indices, cuts, appends. -/
import Derived.Test.YtoclhejbhefgeaaVI
set_option linter.unusedVariables false
set_option linter.unusedSimpArgs false
namespace Go.Proofs.VL
open Go

variable {C : Ctx} {w : World} {S : Nat → Prop} {ι : Hist} {P : Program} {tt : Tab} {st : Store} {nx nx' : Nat} {out : List (List D)} {tk : Nat}

theorem elem_under (hT : TabOk P tt) {T e : TypeId} {j : TI} (he : elemTI tt T = some (e, j)) : P.underlying T = some (.slice e) ∧ P.elem T = e ∧ TyOk P e j := by
  obtain ⟨i, hi, hsl, hel, hj⟩ := elemTI_spec he
  have hu := (hT T i hi).slice hsl
  rw [hel] at hu
  exact ⟨hu, by simp [Program.elem, hu], hT e j hj⟩

theorem slr_index (hT : TabOk P tt) {T e : TypeId} {j : TI} (he : elemTI tt T = some (e, j)) {es : List (List D)} {vx : Value} (hx : SlR C w S es vx) {k : IntKind} {n : Int} (h0 : 0 ≤ n) (hn : n.toNat < es.length) (hk : ∀ x ∈ es, x.length = j.size) :
    ∃ v, (Instr.indexAt T vx (.int k n)).run P w = .ok v w ∧ TVR C w S ι (.c (.ip (es.flatten.drop (n.toNat * j.size)))) v := by
  obtain ⟨hu, hel, hty⟩ := elem_under hT he
  obtain ⟨A, c, rfl, hle, _, hx⟩ := hx
  obtain ⟨ad, rfl, hsp, hS, hc, hrd⟩ := hx (by omega)
  refine ⟨_, ?_, .c (.ip (add_spot ad (n.toNat * j.size) hsp) (by rw [add_block]; exact hS) fun i x hx => ?_)⟩
  · rw [run_indexAt_slice (P := P) w T ad es.length c k n (by rw [hu, hel]), if_pos (by omega), hel, hty.sizeOf, Result.andThen_ok]
  · rw [List.getElem?_drop] at hx
    rw [add_add]
    exact hrd _ x hx

theorem vindex_sound (A : At C st nx nx' out w ι S tk) (hT : TabOk P tt) {T : TypeId} {tx ti tv : TV} {vx vi : Value} {p : Prop} {u : Upd} {r : List Nat} (hx : TVR C w S ι tx vx) (hi : TVR C w S ι ti vi) (hp : p)
    (hs : vindex st ((elemTI tt T).map (·.2)) tx (plainOf ti) = .need p tv u r) : u = [] ∧ ∃ v, (Instr.indexAt T vx vi).run P w = .ok v w ∧ TVR C w S ι tv v := by
  unfold vindex at hs
  split at hs
  · rename_i j es k n hj hn
    obtain ⟨q, hq, rfl⟩ := Option.map_eq_some_iff.1 hj
    rw [plainOf_spec hn] at hi
    obtain ⟨rfl, _⟩ := tvr_v hi
    simp only [vipAt, OpRes.need.injEq] at hs
    obtain ⟨rfl, rfl, rfl, rfl⟩ := hs
    exact ⟨rfl, slr_index hT (e := q.1) (j := q.2) hq (slr_d (by cases tvr_c hx with | d h => exact h)) hp.1 hp.2.1 hp.2.2⟩
  · rename_i j es k n hj hn
    obtain ⟨q, hq, rfl⟩ := Option.map_eq_some_iff.1 hj
    rw [plainOf_spec hn] at hi
    obtain ⟨rfl, _⟩ := tvr_v hi
    simp only [vipAt, OpRes.need.injEq] at hs
    obtain ⟨rfl, rfl, rfl, rfl⟩ := hs
    exact ⟨rfl, slr_index hT (e := q.1) (j := q.2) hq (slr_bd (tvr_c hx)) hp.1 hp.2.1 hp.2.2⟩
  · rename_i j t m k n hj hn
    obtain ⟨q, hq, rfl⟩ := Option.map_eq_some_iff.1 hj
    rw [plainOf_spec hn] at hi
    obtain ⟨rfl, _⟩ := tvr_v hi
    unfold vindexOwn at hs
    split at hs
    · rename_i e k' es hr
      simp only [OpRes.need.injEq] at hs
      obtain ⟨rfl, rfl, rfl, rfl⟩ := hs
      obtain ⟨h0, hm, hl⟩ := hp
      subst hl
      obtain ⟨v0, xs, h1, h2, h3, h4, _⟩ := sl_row (A.h.row t _ hr)
      obtain ⟨hv, _⟩ := cvr_own (tvr_c hx)
      rw [hv] at h1
      injection h1 with h1
      subst h1
      obtain ⟨hu, hel, hty⟩ := elem_under hT (e := q.1) (j := q.2) hq
      rcases h2.2 with ⟨_, h0'⟩ | ⟨g, c, cur, rfl, _⟩
      · omega
      · refine ⟨rfl, .pointer (some ⟨g, n.toNat * q.2.size, none⟩), ?_, .c (.ep hv)⟩
        rw [run_indexAt_slice (P := P) w T _ es.length c k n (by rw [hu, hel]), if_pos (by omega), hel, hty.sizeOf, Result.andThen_ok, add_flat, Nat.zero_add]
    · cases hs
  · cases hs

/-! ### Cuts -/
theorem slr_cut (hT : TabOk P tt) {T e : TypeId} {j : TI} (he : elemTI tt T = some (e, j)) {es : List (List D)} {vx : Value} (hx : SlR C w S es vx) {l h : Nat} (hl : l ≤ h) (hh : h ≤ es.length) (hk : ∀ x ∈ es, x.length = j.size) :
    ∃ A c, vx = .slice A es.length c ∧ es.length ≤ c ∧ ∀ c', h ≤ c' → c' ≤ c → SlR C w S ((es.take h).drop l) (sliced A l h c' j.size) := by
  obtain ⟨A, c, rfl, hle, hnil, hx⟩ := hx
  refine ⟨A, c, rfl, hle, fun c' h1 h2 => ?_⟩
  have hlen : ((es.take h).drop l).length = h - l := by simp; omega
  refine ⟨_, c' - l, by rw [hlen]; rfl, by rw [hlen]; omega, fun hn => ?_, fun hpos => ?_⟩
  · split at hn
    · have := hnil hn; omega
    · have : A = none := by cases A <;> simp_all
      have := hnil this; omega
  rw [hlen] at hpos
  obtain ⟨ad, rfl, hsp, hS, hc, hrd⟩ := hx (by omega)
  refine ⟨ad.add (l * j.size), by rw [if_neg (by omega)]; rfl, add_spot _ _ hsp, by rw [add_block]; exact hS, by omega, fun i x hx => ?_⟩
  rw [flat_drop (fun y hy => hk y (List.mem_of_mem_take hy)), flat_take hk, List.getElem?_drop, List.getElem?_take] at hx
  split at hx
  · rw [add_add]
    exact hrd _ x hx
  · cases hx

theorem slr_to_d {es : List (List D)} {v : Value} (h : SlR C w S es v) (hS : ∀ A n c, v = .slice A n c → 0 < n → ∀ ad, A = some ad → S ad.block) : Rd w S (.l es) v := by
  obtain ⟨A, c, rfl, hle, hnil, hx⟩ := h
  rcases Nat.eq_zero_or_pos es.length with h0 | h0
  · have : es = [] := List.eq_nil_of_length_eq_zero h0
    subst this
    exact .e hnil
  · obtain ⟨ad, rfl, hsp, _, hc, hrd⟩ := hx h0
    refine .l (u := fun j => ((w.cell? (ad.add j))).getD undef) hsp (hS _ _ _ rfl h0 ad rfl) hle hc (fun j x hx => ?_) (fun j x hx => ?_)
    · obtain ⟨u, hu, hr⟩ := hrd j x hx
      simp [hu]
    · obtain ⟨u, hu, hr⟩ := hrd j x hx
      simp [hu, hr]
theorem slr_to_bd {es : List (List D)} {v : Value} (h : SlR C w S es v) : CVR C w S ι (.bd es) v := by
  obtain ⟨A, c, rfl, hle, hnil, hx⟩ := h
  rcases Nat.eq_zero_or_pos es.length with h0 | h0
  · have : es = [] := List.eq_nil_of_length_eq_zero h0
    subst this
    exact .bde hnil
  · obtain ⟨ad, rfl, hsp, hS, hc, hrd⟩ := hx h0
    exact .bd hsp hS hle hc hrd

def OptR (C : Ctx) (w : World) (S : Nat → Prop) (ι : Hist) : Option TV → Option Value → Prop
  | none, none => True
  | some t, some v => TVR C w S ι t v
  | _, _ => False
theorem run_cut {T e : TypeId} {j : TI} (hu : P.underlying T = some (.slice e)) (hty : TyOk P e j) {A : Option Addr} {n c : Nat} {lo hi : Option Value} {l h : Nat} (hc : n ≤ c)
    (hlo : (lo = none ∧ l = 0) ∨ ∃ k i, lo = some (.int k i) ∧ 0 ≤ i ∧ i.toNat = l) (hhi : (hi = none ∧ h = n) ∨ ∃ k i, hi = some (.int k i) ∧ 0 ≤ i ∧ i.toNat = h) (h1 : l ≤ h) (h2 : h ≤ n) :
    (Instr.sliceAt T (.slice A n c) lo hi none).run P w = .ok (sliced A l h c j.size) w := by
  have hel : P.elem T = e := by simp [Program.elem, hu]
  have hu' : P.underlying T = some (.slice (P.elem T)) := by rw [hel]; exact hu
  rw [run_sliceAt_slice (P := P) w T _ _ _ _ hu']
  rcases hlo with ⟨rfl, rfl⟩ | ⟨k, i, rfl, hi0, rfl⟩ <;> rcases hhi with ⟨rfl, rfl⟩ | ⟨k', i', rfl, hi0', rfl⟩
  · rw [run_slice_all (P := P) w T A h c hu', hel, hty.sizeOf, Result.andThen_ok]
  · rw [run_slice_h (P := P) w T A n c hu' k' i' hi0' (by omega), hel, hty.sizeOf, Result.andThen_ok]
  · rw [run_slice_l (P := P) w T A h c hu' k i hi0 (by omega), hel, hty.sizeOf, Result.andThen_ok]
  · rw [run_slice_lh (P := P) w T A n c hu' k k' i i' hi0 (by omega) (by omega), hel, hty.sizeOf, Result.andThen_ok]

theorem lowOf_sound {lo : Option TV} {a : Int} (h : lowOf lo = some a) {vlo : Option Value} (hv : OptR C w S ι lo vlo) (h0 : 0 ≤ a) :
    (vlo = none ∧ a.toNat = 0) ∨ ∃ k i, vlo = some (.int k i) ∧ 0 ≤ i ∧ i.toNat = a.toNat := by
  cases lo with
  | none =>
    cases vlo with
    | none => simp [lowOf] at h; subst h; exact .inl ⟨rfl, rfl⟩
    | some v => exact hv.elim
  | some t =>
    cases vlo with
    | none => exact hv.elim
    | some v =>
      simp only [lowOf] at h
      unfold intOfT at h
      split at h
      · rename_i k n q
        injection h with h
        subst h
        injection q with q
        subst q
        obtain ⟨rfl, _⟩ := tvr_v hv
        exact .inr ⟨k, n, rfl, h0, rfl⟩
      · cases h

theorem vslice2_sound (hT : TabOk P tt) {T e : TypeId} {j : TI} (he : elemTI tt T = some (e, j)) {es : List (List D)} {mk : List (List D) → CV} {vx : Value} (hx : SlR C w S es vx) {a : Int} {lo hi : Option TV} {vlo vhi : Option Value} (hlo : lowOf lo = some a)
    (hvlo : OptR C w S ι lo vlo) (hvhi : OptR C w S ι hi vhi)
    (hmk : ∀ (es' : List (List D)) (v : Value), SlR C w S es' v → (∀ A n c, v = .slice A n c → 0 < n → ∀ ad, A = some ad → ∃ A' n' c' ad', vx = .slice A' n' c' ∧ 0 < n' ∧ A' = some ad' ∧ ad.block = ad'.block) → CVR C w S ι (mk es') v)
    {p : Prop} {tv : TV} {u : Upd} {r : List Nat} (hp : p) (hs : vslice2 j.size es mk a hi = .need p tv u r) :
    u = [] ∧ ∃ v, (Instr.sliceAt T vx vlo vhi none).run P w = .ok v w ∧ TVR C w S ι tv v := by
  obtain ⟨hu, hel, hty⟩ := elem_under hT he
  have fin : ∀ (h : Nat), 0 ≤ a → a.toNat ≤ h → h ≤ es.length → (∀ x ∈ es, x.length = j.size) → ((vhi = none ∧ h = es.length) ∨ ∃ k i, vhi = some (.int k i) ∧ 0 ≤ i ∧ i.toNat = h) →
      ∃ v, (Instr.sliceAt T vx vlo vhi none).run P w = .ok v w ∧ TVR C w S ι (.c (mk ((es.take h).drop a.toNat))) v := by
    intro h h0 h1 h2 hk hh
    obtain ⟨A, c, rfl, hle, hcut⟩ := slr_cut hT he hx h1 h2 hk
    refine ⟨_, run_cut hu hty hle (lowOf_sound hlo hvlo h0) hh h1 h2, .c (hmk _ _ (hcut c (by omega) (Nat.le_refl _)) fun A' n c' hv hn ad hA => ?_)⟩
    simp only [sliced, Value.slice.injEq] at hv
    obtain ⟨q1, q2, q3⟩ := hv
    rw [if_neg (by omega)] at q1
    subst hA
    cases A with
    | none => simp at q1
    | some ad' =>
      simp at q1
      refine ⟨_, _, _, ad', rfl, by omega, rfl, ?_⟩
      rw [← q1, add_block]
  unfold vslice2 at hs
  split at hs
  · simp only [OpRes.need.injEq] at hs
    obtain ⟨rfl, rfl, rfl, rfl⟩ := hs
    obtain ⟨h0, h1, hk⟩ := hp
    have hvn : vhi = none := by cases vhi with | none => rfl | some v => exact hvhi.elim
    have := fin es.length h0 (by omega) (Nat.le_refl _) hk (.inl ⟨hvn, rfl⟩)
    rw [List.take_length] at this
    exact ⟨rfl, this⟩
  · rename_i k b
    simp only [OpRes.need.injEq] at hs
    obtain ⟨rfl, rfl, rfl, rfl⟩ := hs
    obtain ⟨h0, h1, h2, hk⟩ := hp
    cases vhi with
    | none => exact hvhi.elim
    | some v =>
      obtain ⟨rfl, _⟩ := tvr_v hvhi
      exact ⟨rfl, fin b.toNat h0 (by omega) (by omega) hk (.inr ⟨k, b, rfl, by omega, rfl⟩)⟩
  · cases hs

theorem vslice_sound (hT : TabOk P tt) {T : TypeId} {tx tv : TV} {lo hi : Option TV} {vx : Value} {vlo vhi : Option Value} {p : Prop} {u : Upd} {r : List Nat} (hx : TVR C w S ι tx vx)
    (hvlo : OptR C w S ι lo vlo) (hvhi : OptR C w S ι hi vhi) (hp : p)
    (hs : vslice (elemTI tt T) tx (lowOf lo) hi = .need p tv u r) : u = [] ∧ ∃ v, (Instr.sliceAt T vx vlo vhi none).run P w = .ok v w ∧ TVR C w S ι tv v := by
  unfold vslice at hs
  split at hs
  · rename_i e j es a he ha
    have hd : Rd w S (.l es) vx := by cases tvr_c hx with | d h => exact h
    refine vslice2_sound hT he (slr_d hd) ha hvlo hvhi (fun es' v hsl hb => .d (slr_to_d hsl fun A n c hv hn ad hA => ?_)) hp hs
    obtain ⟨A', n', c', ad', rfl, hn', rfl, hbl⟩ := hb A n c hv hn ad hA
    rw [hbl]
    cases hd with
    | e => simp at hn'
    | l _ h => exact h
  · rename_i e j es a he ha
    exact vslice2_sound hT he (slr_bd (tvr_c hx)) ha hvlo hvhi (fun es' v hsl _ => slr_to_bd hsl) hp hs
  · cases hs

/-! ### Appends -/
theorem append_any {T T2 e : TypeId} {j : TI} (hu : P.underlying T = some (.slice e)) (hty : TyOk P e j) {v : Value} {n : Nat} {xs : List Value} (hown : w.ownsRow 0 e j.size v n xs) {A : Option Addr} {m c : Nat} {news : List Value} (hl : news.length = m * j.size)
    (hm : 0 < m → ∃ ad, A = some ad ∧ ∀ i u, news[i]? = some u → w.cell? (ad.add i) = some u) (h1 : ∀ u ∈ news, u.oneCell' = true) (h63 : n + m ≤ maxLen) (hb : (n + m) * j.bytes ≤ 140737488355328) :
    ∃ v' w', (Builtin.append_ #[T, T] T2 #[v, .slice A m c]).run P w = .ok v' w' ∧ w'.ownsRow 0 e j.size v' (n + m) (xs ++ news) ∧ w.grownBy w' v.ownBlock ∧ (v'.ownBlock = v.ownBlock ∨ v'.ownBlock = some w.heap.size) ∧ (m = 0 → v' = v) := by
  obtain ⟨d, z, hdi, hds, hdb, hdz, hzs, _, _⟩ := hty.info
  rcases Nat.eq_zero_or_pos m with rfl | hpos
  · have hn : news = [] := List.eq_nil_of_length_eq_zero (by simpa using hl)
    subst hn
    refine ⟨v, w, ?_, by simpa using hown, ⟨rfl, rfl, rfl, Nat.le_refl _, fun _ _ _ => rfl⟩, .inl rfl, fun _ => rfl⟩
    have hfirst : (Builtin.firstCells j.size 0 (.slice A 0 c)).run P w = .ok #[] w := by
      cases A <;> simp [Builtin.firstCells, loadCells, loadCellsFrom]
    rcases hown.2 with ⟨rfl, rfl⟩ | ⟨g, cap, cur, rfl, _, hh, hle, _⟩
    · simp [Builtin.append_, run_underlying hu, hty.sizeOf, Builtin.lenOf, hfirst]
    · simp [Builtin.append_, run_underlying hu, hty.sizeOf, Builtin.lenOf, hfirst, hle, storeCells]
  · obtain ⟨ad, rfl, hcell⟩ := hm hpos
    obtain ⟨v', w', h1, h2, h3, h4, h5⟩ := run_append_own_at (P := P) w 0 T T2 e d z j.size j.bytes hu hdi hdz hds hdb hzs hty.pos v n xs hown ad m c news hl hcell h1 h63 hb (Nat.zero_le _)
    exact ⟨v', w', h1, h2, h3, h5, fun h => by omega⟩

theorem blk_own {v : Value} {w : World} {e k n : Nat} {xs : List Value} (h : w.ownsRow 0 e k v n xs) : blkOf v = v.ownBlock := by
  rcases h.2 with ⟨rfl, _⟩ | ⟨g, cap, cur, rfl, _⟩ <;> rfl

/-- What is appended lies somewhere. -/
theorem elems_src (h : StI C st nx out w ι S) {tx : TV} {vx : Value} {xs : List (List D)} {g : List Nat} (hx : TVR C w S ι tx vx) (he : elemsOf st tx = some (xs, g)) {k : Nat} (hk : ∀ x ∈ xs, x.length = k) :
    ∃ A c news, vx = .slice A xs.length c ∧ xs.length ≤ maxLen ∧ news.length = xs.length * k ∧ (0 < xs.length → ∃ ad, A = some ad ∧ ∀ i u, news[i]? = some u → w.cell? (ad.add i) = some u) ∧ CellsR C w S ι (xs.flatten.map CV.d) news := by
  have ofSl : ∀ {es : List (List D)} {v : Value}, SlR C w S es v → (∀ x ∈ es, x.length = k) → ∃ A c news, v = .slice A es.length c ∧ es.length ≤ maxLen ∧ news.length = es.length * k ∧ (0 < es.length → ∃ ad, A = some ad ∧ ∀ i u, news[i]? = some u → w.cell? (ad.add i) = some u) ∧ CellsR C w S ι (es.flatten.map CV.d) news := by
    intro es v hs hk
    obtain ⟨A, c, rfl, hle, _, hrd⟩ := hs
    rcases Nat.eq_zero_or_pos es.length with h0 | h0
    · have : es = [] := List.eq_nil_of_length_eq_zero h0
      subst this
      exact ⟨A, c, [], rfl, Nat.zero_le _, by simp, fun h => absurd h (by simp), rfl, fun i x hx => by simp at hx⟩
    · obtain ⟨ad, rfl, _, _, hc, hrd⟩ := hrd h0
      refine ⟨_, c, (List.range es.flatten.length).map fun i => (w.cell? (ad.add i)).getD undef, rfl, by simp only [maxLen]; omega, by simp only [List.length_map, List.length_range]; exact flat_len hk, fun _ => ⟨ad, rfl, fun i u hu => ?_⟩, by rw [List.length_map, List.length_map, List.length_range], fun i x hx => ?_⟩
      · rw [List.getElem?_map] at hu
        by_cases hi : i < es.flatten.length
        · obtain ⟨u', hu', _⟩ := hrd i es.flatten[i] (List.getElem?_eq_getElem hi)
          rw [List.getElem?_range hi] at hu
          simp [hu'] at hu
          rw [hu', hu]
        · rw [List.getElem?_eq_none (by simpa using hi)] at hu
          simp at hu
      · rw [List.getElem?_map] at hx
        cases hj : es.flatten[i]? with
        | none => simp [hj] at hx
        | some y =>
          simp [hj] at hx
          subst hx
          obtain ⟨u, hu, hr⟩ := hrd i y hj
          have hlt : i < es.flatten.length := (List.getElem?_eq_some_iff.1 hj).1
          refine ⟨u, ?_, .d hr⟩
          rw [List.getElem?_map, List.getElem?_range hlt]
          simp [hu]
  unfold elemsOf at he
  split at he
  · simp only [Option.some.injEq, Prod.mk.injEq] at he
    obtain ⟨rfl, rfl⟩ := he
    exact ofSl (slr_d (by cases tvr_c hx with | d h => exact h)) hk
  · simp only [Option.some.injEq, Prod.mk.injEq] at he
    obtain ⟨rfl, rfl⟩ := he
    cases tvr_c hx
    exact ⟨none, 0, [], rfl, Nat.zero_le _, by simp, fun h => absurd h (by simp), rfl, fun i x hx => by simp at hx⟩
  · simp only [Option.some.injEq, Prod.mk.injEq] at he
    obtain ⟨rfl, rfl⟩ := he
    cases tvr_c hx
    exact ⟨_, _, [], rfl, Nat.zero_le _, by simp, fun h => absurd h (by simp), rfl, fun i x hx => by simp at hx⟩
  · simp only [Option.some.injEq, Prod.mk.injEq] at he
    obtain ⟨rfl, rfl⟩ := he
    exact ofSl (slr_bd (tvr_c hx)) hk
  · rename_i t n
    split at he
    · rename_i e' k' es hr
      split at he
      · rename_i hn
        simp only [Option.some.injEq, Prod.mk.injEq] at he
        obtain ⟨rfl, rfl⟩ := he
        subst hn
        obtain ⟨v0, zs, h1, h2, h3, h4, _⟩ := sl_row (h.row t _ hr)
        obtain ⟨hv, A, c, rfl⟩ := cvr_own (tvr_c hx)
        rw [hv] at h1
        injection h1 with h1
        subst h1
        rcases Nat.eq_zero_or_pos es.length with h0 | h0
        · have : es = [] := List.eq_nil_of_length_eq_zero h0
          subst this
          exact ⟨A, c, [], rfl, Nat.zero_le _, by simp, fun h => absurd h (by simp), rfl, fun i x hx => by simp at hx⟩
        · rcases h2.2 with ⟨_, h0'⟩ | ⟨g, cap, cur, hv', _, hh, hle, hcap, _⟩
          · omega
          · injection hv' with q1 _ q3
            subst q1; subst q3
            refine ⟨_, _, zs, rfl, Nat.le_trans hle hcap, by rw [h2.1]; rw [← flat_len h3, flat_len hk], fun _ => ⟨_, rfl, fun i u hu => h2.cells (g := g) rfl i u hu⟩, h4⟩
      · cases he
    · cases he
  · cases he

theorem vappend_sound (A : At C st nx nx' out w ι S tk) (hT : TabOk P tt) {T T2 e : TypeId} {j : TI} (he : elemTI tt T = some (e, j)) {ts tx tv : TV} {vs vx : Value} (hs : TVR C w S ι ts vs) (hx : TVR C w S ι tx vx) {p : Prop} {u : Upd} {r : List Nat} (hp : p)
    (h : vappend st tk e (some j) ts (elemsOf st tx) = .need p tv u r) : ∃ v w', (Builtin.append_ #[T, T] T2 #[vs, vx]).run P w = .ok v w' ∧ Out C (supd st u) nx' out w ι S tk tv v w' := by
  obtain ⟨hu, hel, hty⟩ := elem_under hT he
  cases hes : elemsOf st tx with
  | none => rw [hes] at h; unfold vappend at h; split at h <;> simp_all
  | some q =>
    obtain ⟨xs, g⟩ := q
    rw [hes] at h
    unfold vappend at h
    split at h
    · rename_i ei xs' g' h1 h2
      injection h1 with h1
      injection h2 with h2
      injection h2 with h2a h2b
      subst h1; subst h2a; subst h2b
      simp only [OpRes.need.injEq] at h
      obtain ⟨rfl, rfl, rfl, rfl⟩ := h
      obtain ⟨hby, hk⟩ := hp
      cases tvr_c hs
      obtain ⟨Ad, c, news, rfl, hml, hl, hsrc, hcs⟩ := elems_src A.h hx hes hk
      obtain ⟨v', w', hrun, hown, hg, hbl, _⟩ := append_any (T2 := T2) hu hty (w := w) (v := .slice none 0 0) (n := 0) (xs := []) (c := c) (World.ownsRow_nil w 0 e j.size) hl hsrc (fun u hu => by
        obtain ⟨i, hi, hie⟩ := List.mem_iff_getElem.1 hu
        have hi' : i < (xs.flatten.map CV.d).length := by rw [← hcs.1]; exact hi
        obtain ⟨u', hu', hc⟩ := hcs.2 i _ (List.getElem?_eq_getElem hi')
        rw [List.getElem?_eq_getElem hi] at hu'
        injection hu' with hu'
        rw [← hie, hu']
        exact cvr_one hc) (by omega) (by simpa using hby)
      have hx' := Ext.of_grown (My := C.My) hg (fun b hb => by simp [Value.ownBlock] at hb)
      have hfree := A.free tk xs.length (by omega) (by omega)
      have hfr := fresh_block A.h
      have hlat : Later C w w' S S ι (hset ι tk xs.length v') := ⟨fun _ h => h, fun b hb => hg.block b (by
        rcases hb with hb | hb
        · exact (A.h.dat b hb).1
        · exact A.h.bw b hb) (by simp [Value.ownBlock]), hset_mono (.inl hfree)⟩
      have hbo := blk_own hown
      obtain ⟨q1, q2⟩ := StI.put (t := tk) (n := xs.length) (v := v') (r := .sl e j.size xs) (g := none) (nx' := nx') A.hst A.h hx' (fun b hb _ => hg.block b hb (by simp [Value.ownBlock])) (.inl hfree)
        (.sl (hset_same _ _ _ _) (by simpa using hown) hk (fun i x hx => by
          obtain ⟨u, hu, hr⟩ := hcs.ds i x hx
          exact ⟨u, by simpa using hu, hr.later hlat⟩) (fun n hne => by
            unfold hset at hne
            split at hne
            · rename_i q; exact Nat.le_of_eq q.2
            · exact absurd (A.free tk n (by omega) (by omega)) hne))
        (fun b hb => by cases hb) (fun b hb => by
          have hb' : v'.ownBlock = some b := by rw [← hbo]; simpa [curBlk, hset_same] using hb
          rcases hbl with hbl | hbl
          · rw [hbl] at hb'; simp [Value.ownBlock] at hb'
          · rw [hbl] at hb'
            injection hb' with hb'
            subst hb'
            exact ⟨hfr.1, hfr.2.1, hfr.2.2.1, fun t' r' _ hr => hfr.2.2.2 t' r' hr⟩) A.le (by have := A.lt; omega)
      have hvs : ∃ A c, v' = .slice A xs.length c := by
        rcases hown.2 with ⟨rfl, h0⟩ | ⟨g, cap, cur, rfl, _⟩
        · exact ⟨_, _, by rw [show xs.length = 0 from by omega]⟩
        · exact ⟨_, _, by rw [Nat.zero_add]⟩
      refine ⟨v', w', hrun, _, _, ?_, q1, q2, hx', fun t ht hnt n => ?_⟩
      · obtain ⟨A', c', rfl⟩ := hvs
        exact .c (.own (hset_same _ _ _ _))
      · rw [hset_other _ _ _ _ (by intro e; subst e; omega)]
        exact ht n
    · rename_i ei t n xs' g' h1 h2
      injection h1 with h1
      injection h2 with h2
      injection h2 with h2a h2b
      subst h1; subst h2a; subst h2b
      unfold vappOwn at h
      split at h
      · rename_i e' k es hr
        simp only [OpRes.need.injEq] at h
        obtain ⟨rfl, rfl, rfl, rfl⟩ := h
        obtain ⟨rfl, rfl, rfl, htg, hby, hk⟩ := hp
        obtain ⟨Ad, c, news, rfl, hml, hl, hsrc, hcs⟩ := elems_src A.h hx hes hk
        obtain ⟨v0, zs, h1, h2, h3, h4, h5⟩ := sl_row (A.h.row t _ hr)
        obtain ⟨hv, _⟩ := cvr_own (tvr_c hs)
        rw [hv] at h1
        injection h1 with h1
        subst h1
        have hbpos : es.length + xs.length ≤ maxLen := by
          have := Nat.mul_le_mul_left (es.length + xs.length) hty.bpos
          simp only [maxLen]
          omega
        obtain ⟨v', w', hrun, hown, hg, hbl, hm0⟩ := append_any (T2 := T2) hu hty (w := w) (c := c) h2 hl hsrc (fun u hu => by
          obtain ⟨i, hi, hie⟩ := List.mem_iff_getElem.1 hu
          have hi' : i < (xs.flatten.map CV.d).length := by rw [← hcs.1]; exact hi
          obtain ⟨u', hu', hc⟩ := hcs.2 i _ (List.getElem?_eq_getElem hi')
          rw [List.getElem?_eq_getElem hi] at hu'
          injection hu' with hu'
          rw [← hie, hu']
          exact cvr_one hc) hbpos hby
        have hb0 := blk_own h2
        have hbo := blk_own hown
        have hcur : curBlk ι t (.sl e' j.size es) = vs.ownBlock := by rw [← hb0]; simp [curBlk, hv]
        have hmine : ∀ b, vs.ownBlock = some b → C.My b ∧ ¬ S b ∧ ¬ C.Bw b := fun b hb => A.h.mine t _ b hr (by rw [hcur]; exact hb)
        have hx' := Ext.of_grown (My := C.My) hg (fun b hb => (hmine b hb).1)
        have hfree : ι t (es.length + xs.length) = none ∨ ι t (es.length + xs.length) = some v' := by
          rcases Nat.eq_zero_or_pos xs.length with h0 | h0
          · right; rw [h0, Nat.add_zero, hm0 h0]; exact hv
          · left
            cases hq : ι t (es.length + xs.length) with
            | none => rfl
            | some y => exact absurd (h5 _ (by rw [hq]; simp)) (by omega)
        have hfr := fresh_block A.h
        have hlat : Later C w w' S S ι (hset ι t (es.length + xs.length) v') := ⟨fun _ h => h, fun b hb => hg.block b (by
          rcases hb with hb | hb
          · exact (A.h.dat b hb).1
          · exact A.h.bw b hb) (fun e => by
            have := hmine b e.symm
            rcases hb with hb | hb
            · exact this.2.1 hb
            · exact this.2.2 hb), hset_mono hfree⟩
        have hlen : (es ++ xs).length = es.length + xs.length := List.length_append
        obtain ⟨q1, q2⟩ := StI.put (t := t) (n := es.length + xs.length) (v := v') (r := .sl e' j.size (es ++ xs)) (g := vs.ownBlock) (nx' := nx') A.hst A.h hx' (fun b hb hne => hg.block b hb hne) hfree
          (.sl (by rw [hlen]; exact hset_same _ _ _ _) (by rw [hlen]; exact hown) (fun x hx => by
            rcases List.mem_append.1 hx with hx | hx
            · exact h3 x hx
            · exact hk x hx) (fun i x hx => by
            have hall : CellsR C w S ι ((es ++ xs).flatten.map CV.d) (zs ++ news) := by
              rw [List.flatten_append, List.map_append]
              refine ⟨by rw [List.length_append, List.length_append, h4.1, hcs.1], fun i x hx => ?_⟩
              rw [List.getElem?_append] at hx ⊢
              rw [h4.1]
              split at hx
              · rename_i hlt; rw [if_pos hlt]; exact h4.2 i x hx
              · rename_i hlt; rw [if_neg hlt]; exact hcs.2 _ x hx
            obtain ⟨u, hu, hr⟩ := hall.ds i x hx
            exact ⟨u, hu, hr.later hlat⟩) (fun n hne => by
              rw [hlen]
              unfold hset at hne
              split at hne
              · rename_i q; exact Nat.le_of_eq q.2
              · exact Nat.le_trans (h5 n hne) (Nat.le_add_right _ _)))
          (fun b hb _ => ⟨(hmine b hb).2.1, (hmine b hb).2.2, fun t' r' hne hr' hcb => hne (A.h.sep t' t r' _ b hr' hr hcb (by rw [hcur]; exact hb))⟩)
          (fun b hb => by
            have hb' : v'.ownBlock = some b := by rw [← hbo]; simpa [curBlk, hlen, hset_same] using hb
            rcases hbl with hbl | hbl
            · rw [hbl] at hb'
              have := hmine b hb'
              exact ⟨this.1, this.2.1, this.2.2, fun t' r' hne hr' hcb => hne (A.h.sep t' t r' _ b hr' hr hcb (by rw [hcur]; exact hb'))⟩
            · rw [hbl] at hb'
              injection hb' with hb'
              subst hb'
              exact ⟨hfr.1, hfr.2.1, hfr.2.2.1, fun t' r' _ hr => hfr.2.2.2 t' r' hr⟩) A.le (by have := A.h.nx t _ _ hv; have := A.le; omega)
        have hvs : ∃ A c, v' = .slice A (es.length + xs.length) c := by
          rcases hown.2 with ⟨rfl, h0⟩ | ⟨g, cap, cur, rfl, _⟩
          · exact ⟨none, 0, by rw [h0]⟩
          · exact ⟨_, _, rfl⟩
        refine ⟨v', w', hrun, _, _, ?_, q1, q2, hx', fun t' ht hnt n => ?_⟩
        · obtain ⟨A', c', rfl⟩ := hvs
          exact .c (.own (hset_same _ _ _ _))
        · rw [hset_other _ _ _ _ (by intro e; subst e; rw [ht] at hv; cases hv)]
          exact ht n
      · cases h
    · cases h

end Go.Proofs.VL
