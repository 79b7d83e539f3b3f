/- The value level is sound, 6: operations on memory, one by one. -/
import Derived.Test.YtoclhejbhefgeaaVG
set_option linter.unusedVariables false
set_option linter.unusedSimpArgs false
namespace Go.Proofs.VL
open Go

variable {C : Ctx} {w : World} {S : Nat → Prop} {ι : Hist} {P : Program} {tt : Tab} {st : Store} {nx nx' : Nat} {out : List (List D)} {tk : Nat}

/-- Where an operation begins. -/
structure At (C : Ctx) (st : Store) (nx nx' : Nat) (out : List (List D)) (w : World) (ι : Hist) (S : Nat → Prop) (tk : Nat) : Prop where
  hst : ∀ out w w', C.Fr out w → Ext C.My w w' → C.Fr out w'
  h : StI C st nx out w ι S
  free : ∀ t n, tk ≤ t → t < tk + 64 → ι t n = none
  le : nx ≤ nx'
  lt : tk + 64 ≤ nx'

theorem valloc_sound (A : At C st nx nx' out w ι S tk) (hT : TabOk P tt) {T : TypeId} {tv : TV} {u : Upd} {r : List Nat} (hs : valloc tk T (tt T) = .ok tv u r) :
    ∃ v w', (Instr.alloc T true (.tuple #[])).run P w = .ok v w' ∧ Out C (supd st u) nx' out w ι S tk tv v w' := by
  cases hi : tt T with
  | none => rw [hi] at hs; simp [valloc] at hs
  | some j =>
    rw [hi] at hs
    simp only [valloc, OpRes.ok.injEq] at hs
    obtain ⟨rfl, rfl, rfl⟩ := hs
    have hty := hT T j hi
    obtain ⟨z, hz, h1, h2, h3⟩ := hty.zeroValue w
    refine ⟨_, _, ?_, new_box (T := T) (vs := z.cells) A.hst A.h ⟨by rw [hty.zlen, ← h1]; simp, fun i x hx => ?_⟩ A.free A.le A.lt⟩
    · simp [Instr.alloc, Sem.run_bind, hz, newVar, newRow]
    · obtain ⟨v, hv, hc⟩ := h3 i x hx
      exact ⟨v, by simpa using hv, hc _ _ _ _⟩

theorem vbox_sound (A : At C st nx nx' out w ι S tk) {T : TypeId} {tx tv : TV} {vx : Value} {u : Upd} {r : List Nat} (hx : TVR C w S ι tx vx) (hs : vbox tk T (tt T) (cellsOf tx) = .ok tv u r) :
    ∃ v w', (Instr.box T vx).run P w = .ok v w' ∧ Out C (supd st u) nx' out w ι S tk tv v w' := by
  unfold vbox at hs
  split at hs
  · rename_i j cs _ hcs
    split at hs
    · simp only [OpRes.ok.injEq] at hs
      obtain ⟨rfl, rfl, rfl⟩ := hs
      refine ⟨_, _, ?_, new_box (T := T) (vs := vx.cells) A.hst A.h (cellsOf_sound hx hcs) A.free A.le A.lt⟩
      simp [Instr.box, newVar, newRow]
    · cases hs
  · cases hs

theorem elemTI_spec {T : TypeId} {e : Nat} {j : TI} (h : elemTI tt T = some (e, j)) : ∃ i, tt T = some i ∧ i.sl = true ∧ i.elem = e ∧ tt e = some j := by
  unfold elemTI at h
  split at h
  · rename_i i hi
    split at h
    · rename_i hs
      split at h
      · rename_i k hk
        injection h with h
        injection h with e1 e2
        subst e1; subst e2
        exact ⟨i, hi, hs, rfl, hk⟩
      · cases h
    · cases h
  · cases h

theorem dzero_sound {T : TypeId} {j : TI} (hty : TyOk P T j) : ∃ z, (zeroValue T).run P w = .ok z w ∧ z.cells.size = j.size ∧ CellsR C w S ι ((dzero j.zero).map CV.d) z.cells.toList := by
  obtain ⟨z, hz, h1, h2, h3⟩ := hty.zeroValue w
  refine ⟨z, hz, h1, by simp [dzero, hty.zlen, h1], fun i x hx => ?_⟩
  simp only [dzero, List.map_map, List.getElem?_map] at hx
  cases hi : j.zero[i]? with
  | none => simp [hi] at hx
  | some c =>
    simp [hi] at hx
    obtain ⟨v, hv, hc⟩ := h3 i c hi
    refine ⟨v, by simpa using hv, ?_⟩
    have hc := hc C w S ι
    subst hx
    rcases hty.zsh i c hi with ⟨y, rfl⟩ | rfl
    · exact hc
    · cases hc; exact .d (.e fun _ => rfl)
theorem setParts_sound {S' : Nat → Prop} (h : StI C st nx out w ι S) (hS : ∀ b, S b → S' b) {k n : Nat} :
    ∀ {parts : List (Nat × TV)} {ps : List (Nat × Value)} {es zs : List (List D)} {g : List Nat} {A : Array Value}, PartsR C w S ι parts ps → setParts st k es parts = some (zs, g) → Covers ι st g S' →
      es.length = n → (∀ x ∈ es, x.length = k) → CellsR C w S' ι (es.flatten.map CV.d) A.toList →
      ∃ B, Instr.fill (fun i => some (i * k, k)) A ps = some B ∧ zs.length = n ∧ (∀ x ∈ zs, x.length = k) ∧ CellsR C w S' ι (zs.flatten.map CV.d) B.toList
  | [], [], es, zs, g, A, _, hp, _, hn, hk, hA => by
    simp only [setParts, Option.some.injEq, Prod.mk.injEq] at hp
    obtain ⟨rfl, rfl⟩ := hp
    exact ⟨A, rfl, hn, hk, hA⟩
  | (j, tv) :: r, (j', v) :: s, es, zs, g, A, hps, hp, hc, hn, hk, hA => by
    obtain ⟨rfl, htv, hps⟩ := hps
    simp only [setParts] at hp
    split at hp
    · rename_i ys g1 hd
      split at hp
      · rename_i hcond
        obtain ⟨hyl, hj⟩ := hcond
        split at hp
        · rename_i zs' g2 hr
          injection hp with hp
          injection hp with e1 e2
          subst e1; subst e2
          cases hcs : cellsOf tv with
          | none => simp [hcs] at hd
          | some xs =>
            simp only [hcs, Option.bind_some] at hd
            have hxs := cellsOf_sound htv hcs
            obtain ⟨hl, hys⟩ := dsOf_sound h hS hxs hd hc.left
            have hsize : v.cells.size = k := by rw [← hyl, hl, ← hxs.1]; simp
            have hAs : A.size = n * k := by
              have := hA.1
              rw [List.length_map, flat_len hk, hn] at this
              simpa using this
            have hput := hA.put hys (j * k) 0
            rw [Nat.add_zero, putCells_map, show j * k = j * k + 0 from rfl, ← flat_modify (by omega) hk j hj, ← set_modify hyl hk j] at hput
            have hjk : j * k + k ≤ n * k := by
              have : (j + 1) * k ≤ n * k := Nat.mul_le_mul_right k (by omega)
              rw [Nat.succ_mul] at this
              exact this
            obtain ⟨B, hB, h1, h2, h3⟩ := setParts_sound (k := k) (n := n) h hS (parts := r) (ps := s) (es := es.set j ys) (zs := zs') (g := g2) (A := v.cells.zipIdx.foldl (fun cs (c, i) => cs.setIfInBounds (j * k + i) c) A) hps hr hc.right (by simpa using hn)
              (fun x hx => by
                rcases List.mem_or_eq_of_mem_set hx with hx | hx
                · exact hk x hx
                · rw [hx, hyl]) (by
                rw [← Array.foldl_toList, foldl_set]
                simpa using hput)
            refine ⟨B, ?_, h1, h2, h3⟩
            simp only [Instr.fill]
            rw [if_neg (by simp; omega)]
            exact hB
        · cases hp
      · cases hp
    · cases hp
  | [], _ :: _, _, _, _, _, h, _, _, _, _, _ => h.elim
  | _ :: _, [], _, _, _, _, h, _, _, _, _, _ => h.elim

theorem CellsR.later {w' : World} {S' : Nat → Prop} {ι' : Hist} (L : Later C w w' S S' ι ι') {cs : List CV} {vs : List Value} (h : CellsR C w S ι cs vs) : CellsR C w' S' ι' cs vs :=
  ⟨h.1, fun i x hx => by obtain ⟨v, hv, hc⟩ := h.2 i x hx; exact ⟨v, hv, hc.later L⟩⟩
theorem CellsR.ds {l : List D} {vs : List Value} (h : CellsR C w S ι (l.map CV.d) vs) (j : Nat) (x : D) (hx : l[j]? = some x) : ∃ u, vs[j]? = some u ∧ Rd w S x u := by
  obtain ⟨u, hu, hc⟩ := h.2 j (.d x) (by simp [hx])
  cases hc with | d hc => exact ⟨u, hu, hc⟩
theorem flat_replicate (n : Nat) (l : List D) (j : Nat) (hl : l ≠ []) : (List.replicate n l).flatten[j]? = if j < n * l.length then l[j % l.length]? else none := by
  have hp : 0 < l.length := List.length_pos_iff.2 hl
  induction n generalizing j with
  | zero => simp
  | succ n ih =>
    rw [List.replicate_succ, List.flatten_cons, List.getElem?_append]
    by_cases h : j < l.length
    · rw [if_pos h, if_pos (by rw [Nat.succ_mul]; omega), Nat.mod_eq_of_lt h]
    · rw [if_neg h, ih]
      by_cases h' : j < (n + 1) * l.length
      · rw [if_pos h', if_pos (by rw [Nat.succ_mul] at h'; omega), Nat.mod_eq_sub_mod (a := j) (by omega)]
      · rw [if_neg h', if_neg (by rw [Nat.succ_mul] at h'; omega)]
theorem zeros_cells {z : Array Value} {ds : List D} {n : Nat} (hz : z.size = ds.length) (hp : 0 < ds.length) (h : CellsR C w S ι (ds.map CV.d) z.toList) :
    CellsR C w S ι ((List.replicate n ds).flatten.map CV.d) ((Array.range (n * ds.length)).map (z[· % z.size]!)).toList := by
  have hk : ∀ x ∈ List.replicate n ds, x.length = ds.length := fun x hx => by rw [List.eq_of_mem_replicate hx]
  refine ⟨by rw [List.length_map, flat_len hk]; simp, fun i x hx => ?_⟩
  rw [List.getElem?_map, flat_replicate n ds i (by intro e; subst e; simp at hp)] at hx
  split at hx
  · rename_i hi
    obtain ⟨v, hv, hc⟩ := h.2 (i % ds.length) x (by rw [List.getElem?_map]; exact hx)
    refine ⟨v, ?_, hc⟩
    have hv' : z[i % z.size]? = some v := by rw [hz]; simpa using hv
    have hi' : i < n * ds.length := hi
    simp [hi']
    have hlt : i % z.size < z.size := Nat.mod_lt _ (by omega)
    rw [getElem!_pos z _ hlt]
    rw [Array.getElem?_eq_getElem hlt] at hv'
    injection hv'
  · simp at hx

theorem vbuildSlice_sound (A : At C st nx nx' out w ι S tk) (hT : TabOk P tt) {T : TypeId} {n : Nat} {parts : List (Nat × TV)} {ps : Array (Nat × Value)} {p : Prop} {tv : TV} {u : Upd} {r : List Nat} (hps : PartsR C w S ι parts ps.toList) (hp : p)
    (hs : vbuildSlice st tk n parts (elemTI tt T) = .need p tv u r) :
    ∃ v w', (Instr.buildSlice T n ps).run P w = .ok v w' ∧ Out C (supd st u) nx' out w ι S tk tv v w' := by
  unfold vbuildSlice at hs
  split at hs
  · rename_i e j he
    obtain ⟨i, hi, hsl, hel, hj⟩ := elemTI_spec he
    have hty := hT e j hj
    have hu := (hT T i hi).slice hsl
    rw [hel] at hu
    unfold vbsl at hs
    split at hs
    · rename_i es g hes
      simp only [OpRes.need.injEq] at hs
      obtain ⟨rfl, rfl, rfl, rfl⟩ := hs
      obtain ⟨S', hf1, hf2, hf3⟩ := freezeAll g A.h
      obtain ⟨z, hz, hzs, hzc⟩ := dzero_sound (C := C) (P := P) (w := w) (S := S') (ι := ι) hty
      have hdl : (dzero j.zero).length = j.size := by simp [dzero, hty.zlen]
      have hpos : 0 < (dzero j.zero).length := by rw [hdl]; exact hty.pos
      have h0 := zeros_cells (n := n) (z := z.cells) (ds := dzero j.zero) (by rw [hzs, hdl]) hpos hzc
      rw [hdl] at h0
      obtain ⟨B, hB, h1, h2, h3⟩ := setParts_sound (n := n) A.h hf2.s hps hes hf3 (by simp) (fun x hx => by rw [List.eq_of_mem_replicate hx, hdl]) h0
      have hBs : B.size = es.length * j.size := by
        have := h3.1
        rw [List.length_map, flat_len h2] at this
        simpa using this
      have hnew := new_row (tk := tk) (e := e) (k := j.size) (es := es) (vs := B) (nx' := nx') A.hst hf1 h2 hBs (by
        have : es.length * 1 ≤ es.length * j.size := Nat.mul_le_mul_left _ hty.pos
        rw [h1] at this ⊢
        omega) (fun jj x hx => by have := h3.ds jj x hx; simpa using this) A.free A.le A.lt
      obtain ⟨ι', S'', q1, q2, q3, q4, q5⟩ := hnew
      refine ⟨.slice (some ⟨w.heap.size, 0, none⟩) n n, w.alloc (.cells B e), ?_, ι', S'', ?_, ?_, hf2.trans q3, q4, q5⟩
      · have hne : ¬ (n * j.size > 2 ^ 24) := by omega
        by_cases hz0 : n * j.size = 0
        · have hn0 : n = 0 := by
            rcases Nat.eq_zero_or_pos n with h | h
            · exact h
            · have := Nat.mul_pos h hty.pos; omega
          have hr : ∀ f : Nat → Value, (Array.range 0).map f = #[] := fun f => by apply Array.ext'; simp [Array.toList_range]
          rw [hz0, hr] at hB
          simp only [Instr.buildSlice, Sem.run_bind, run_underlying hu, Result.andThen_ok, hty.sizeOf]
          rw [if_neg hne]
          simp only [hz0, if_true, Sem.run_bind, Sem.run_pure, Result.andThen_ok, hr, hB]
          simp [newRow]
        · simp only [Instr.buildSlice, Sem.run_bind, run_underlying hu, Result.andThen_ok, hty.sizeOf]
          rw [if_neg hne]
          simp only [hz0, if_false, Sem.run_bind, hz, Sem.run_pure, Result.andThen_ok, hB]
          simp [newRow]
      · rw [h1] at q1; exact q1
      · rw [supd_append, supd_gone]
        exact q2
    · cases hs
  · cases hs
theorem vmakeSlice_sound (A : At C st nx nx' out w ι S tk) (hT : TabOk P tt) {T : TypeId} {tn tc : TV} {vn vc : Value} {p : Prop} {tv : TV} {u : Upd} {r : List Nat} (hn : TVR C w S ι tn vn) (hc : TVR C w S ι tc vc) (hp : p)
    (hs : vmakeSlice tk (elemTI tt T) (plainOf tn) (plainOf tc) = .need p tv u r) :
    ∃ v w', (Instr.makeSlice T vn vc).run P w = .ok v w' ∧ Out C (supd st u) nx' out w ι S tk tv v w' := by
  cases he : elemTI tt T with
  | none => rw [he] at hs; simp [vmakeSlice] at hs
  | some q =>
    obtain ⟨e, j⟩ := q
    rw [he] at hs
    cases h1 : plainOf tn with
    | none => rw [h1] at hs; simp [vmakeSlice] at hs
    | some a =>
      cases h2 : plainOf tc with
      | none => rw [h1, h2] at hs; cases a <;> simp [vmakeSlice] at hs
      | some b =>
        rw [h1, h2] at hs
        rw [plainOf_spec h1] at hn
        rw [plainOf_spec h2] at hc
        obtain ⟨rfl, _⟩ := tvr_v hn
        obtain ⟨rfl, _⟩ := tvr_v hc
        cases vn <;> cases vc <;> simp only [vmakeSlice, OpRes.need.injEq, reduceCtorEq] at hs
        rename_i kn m _ kc c _
        obtain ⟨rfl, rfl, rfl, rfl⟩ := hs
        obtain ⟨hm0, rfl, hmx, hby⟩ := hp
        obtain ⟨i, hi, hsl, hel, hj⟩ := elemTI_spec he
        have hty := hT e j hj
        have hu := (hT T i hi).slice hsl
        rw [hel] at hu
        obtain ⟨d, z, hdi, hds, hdb, hdz, _, _, _⟩ := hty.info
        obtain ⟨z', hz', hzs, hzc⟩ := dzero_sound (C := C) (P := P) (w := w) (S := S) (ι := ι) hty
        have hzz : z' = z := by
          have : (zeroValue e).run P w = .ok z w := by simp [zeroValue, typeInfo, hdi, hdz]
          rw [this] at hz'
          injection hz' with hz' _
          exact hz'.symm
        subst hzz
        obtain ⟨n, rfl⟩ := Int.eq_ofNat_of_zero_le hm0
        have hdl : (dzero j.zero).length = j.size := by simp [dzero, hty.zlen]
        have hpos : 0 < (dzero j.zero).length := by rw [hdl]; exact hty.pos
        have h0 := zeros_cells (n := n) (z := z'.cells) (ds := dzero j.zero) (by rw [hzs, hdl]) hpos hzc
        rw [hdl] at h0
        have hrun := run_make (P := P) w T e d z' hu hdi hdz kn kc n n (by omega) (Int.le_refl _) (by rw [hdb]; rw [Int.mul_comm]; omega) (by simpa using hmx)
        rw [hds] at hrun
        simp only [Int.toNat_natCast] at hrun ⊢
        have hnew := new_row (tk := tk) (e := e) (k := j.size) (es := List.replicate n (dzero j.zero)) (vs := madeCells z'.cells (n * j.size)) (nx' := nx') A.hst A.h (fun x hx => by rw [List.eq_of_mem_replicate hx, hdl]) (by rw [size_madeCells]; simp)
          (by simp; omega) (fun jj x hx => by obtain ⟨u, hu, hr⟩ := h0.ds jj x hx; exact ⟨u, by rw [← Array.getElem?_toList]; exact hu, hr⟩) A.free A.le A.lt
        rw [List.length_replicate] at hnew
        exact ⟨_, _, hrun, hnew⟩

/-! ### Loads -/
theorem load_cells {T : TypeId} {i : TI} (hty : TyOk P T i) {ad : Addr} {cs : List CV} {vs : List Value} {off : Nat} {tv : TV} (hcs : CellsR C w S ι cs vs) (hcell : ∀ (j : Nat) (v : Value), vs[j]? = some v → w.cell? (ad.add j) = some v)
    (hlen : off + i.size ≤ cs.length) (h : pAt i cs off = some tv) : ∃ v, (loadVar T (ad.add off)).run P w = .ok v w ∧ TVR C w S ι tv v := by
  unfold pAt at h
  split at h
  · rename_i hag
    injection h with h
    subst h
    have hr : CellsR C w S ι ((cs.drop off).take i.size) ((vs.drop off).take i.size) := by
      refine ⟨by simp [hcs.1], fun j x hx => ?_⟩
      rw [List.getElem?_take] at hx ⊢
      split at hx
      · rename_i hj
        rw [if_pos hj]
        rw [List.getElem?_drop] at hx ⊢
        exact hcs.2 _ x hx
      · cases hx
    have hl : ((vs.drop off).take i.size).length = i.size := by simp [hcs.1]; omega
    have hrun := run_loadCells_list (P := P) w (ad.add off) ((vs.drop off).take i.size) (fun j v hv => by
      rw [List.getElem?_take] at hv
      split at hv
      · rw [List.getElem?_drop] at hv
        rw [add_add]
        exact hcell _ v hv
      · cases hv)
    rw [hl] at hrun
    refine ⟨_, ?_, hr.agg⟩
    simp only [loadVar, Sem.run_bind, hty.agg, Result.andThen_ok, hag, if_true, hty.sizeOf, hrun, Sem.run_pure]
  · rename_i hag
    split at h
    · rename_i x hx
      injection h with h
      subst h
      obtain ⟨v, hv, hc⟩ := hcs.2 off x hx
      refine ⟨v, ?_, .c hc⟩
      have hag' : i.agg = false := by simpa using hag
      simp only [loadVar, Sem.run_bind, hty.agg, Result.andThen_ok, hag', Bool.false_eq_true, if_false, run_load, hcell off v hv]
    · cases h
theorem box_row {t : Nat} {T : TypeId} {cs : List CV} (h : RowR C w S ι t (.box T cs)) : ∃ g vs, ι t 0 = some (.pointer (some ⟨g, 0, none⟩)) ∧ w.heap[g]? = some (.cells vs T (0, 0)) ∧ CellsR C w S ι cs vs.toList := by
  cases h with
  | box h1 h2 h3 h4 =>
    rename_i g vs
    refine ⟨g, vs, h1, h2, by simpa using h3, fun i x hx => ?_⟩
    obtain ⟨v, hv, hc⟩ := agg_cells h4 h3 i x hx
    exact ⟨v, by simpa using hv, hc⟩
theorem row_cells {g : Nat} {T : TypeId} {vs : Array Value} {fr : Nat × Nat} (h : w.heap[g]? = some (.cells vs T fr)) (j : Nat) (v : Value) (hv : vs.toList[j]? = some v) : w.cell? ((⟨g, 0, none⟩ : Addr).add j) = some v := by
  rw [add_flat, Nat.zero_add, cell_of_row w g j vs T fr h]
  simpa using hv
theorem sl_row {t e k : Nat} {es : List (List D)} (h : RowR C w S ι t (.sl e k es)) : ∃ v xs, ι t es.length = some v ∧ w.ownsRow 0 e k v es.length xs ∧ (∀ x ∈ es, x.length = k) ∧ CellsR C w S ι (es.flatten.map CV.d) xs ∧ ∀ n, ι t n ≠ none → n ≤ es.length := by
  cases h with
  | sl h1 h2 h3 h4 h5 =>
    rename_i v xs
    refine ⟨v, xs, h1, h2, h3, ⟨by rw [h2.1, List.length_map, flat_len h3], fun i x hx => ?_⟩, h5⟩
    rw [List.getElem?_map] at hx
    cases hf : es.flatten[i]? with
    | none => simp [hf] at hx
    | some y =>
      simp [hf] at hx
      subst hx
      obtain ⟨u, hu, hr⟩ := h4 i y hf
      exact ⟨u, hu, .d hr⟩

theorem vload_sound (A : At C st nx nx' out w ι S tk) (hT : TabOk P tt) {T : TypeId} {tx tv : TV} {vx : Value} {p : Prop} {u : Upd} {r : List Nat} (hx : TVR C w S ι tx vx) (hp : p)
    (hs : vload st (tt T) tx = .ok tv u r ∨ vload st (tt T) tx = .need p tv u r) :
    u = [] ∧ ∃ v, (Instr.loadAt T vx).run P w = .ok v w ∧ TVR C w S ι tv v := by
  cases hi : tt T with
  | none => rw [hi] at hs; rcases hs with hs | hs <;> cases tx <;> simp [vload] at hs
  | some i =>
    have hty := hT T i hi
    rw [hi] at hs
    cases tx with
    | c x =>
      cases x with
      | ptr t off =>
        cases tvr_c hx with
        | ptr hp' =>
          rename_i g
          simp only [vload] at hs
          cases hr : sget st t with
          | none => rw [hr] at hs; simp [vloadAt] at hs
          | some row =>
            rw [hr] at hs
            cases row with
            | sl e k es => simp [vloadAt] at hs
            | box T' cs =>
              simp only [vloadAt] at hs
              split at hs
              · rename_i hlen
                cases hpa : pAt i cs off with
                | none => rw [hpa] at hs; simp at hs
                | some tv' =>
                  rw [hpa] at hs
                  simp only [OpRes.ok.injEq, reduceCtorEq, or_false] at hs
                  obtain ⟨rfl, rfl, rfl⟩ := hs
                  obtain ⟨g', vs, h1, h2, h3⟩ := box_row (A.h.row t _ hr)
                  rw [hp'] at h1
                  have : g = g' := by simpa using h1
                  subst this
                  obtain ⟨v, hv, hc⟩ := load_cells (P := P) hty h3 (row_cells h2) hlen hpa
                  rw [add_flat, Nat.zero_add] at hv
                  exact ⟨rfl, v, by simp only [Instr.loadAt, Instr.sureAddr, Sem.run_bind, Sem.run_pure, Result.andThen_ok, hv], hc⟩
              · simp at hs
      | ep t n off =>
        cases tvr_c hx with
        | ep hp' =>
          rename_i g c
          simp only [vload] at hs
          cases hr : sget st t with
          | none => rw [hr] at hs; simp [vloadEl] at hs
          | some row =>
            rw [hr] at hs
            cases row with
            | box T' cs => simp [vloadEl] at hs
            | sl e k es =>
              simp only [vloadEl] at hs
              cases hpa : pAt i (es.flatten.map CV.d) off with
              | none => rw [hpa] at hs; simp at hs
              | some tv' =>
                rw [hpa] at hs
                simp only [OpRes.need.injEq, reduceCtorEq, false_or] at hs
                obtain ⟨rfl, rfl, rfl, rfl⟩ := hs
                obtain ⟨hn, hlen⟩ := hp
                obtain ⟨v0, xs, h1, h2, h3, h4, _⟩ := sl_row (A.h.row t _ hr)
                rw [hn, hp'] at h1
                injection h1 with h1
                subst h1
                obtain ⟨v, hv, hc⟩ := load_cells (P := P) (ad := ⟨g, 0, none⟩) hty h4 (fun j v hv => h2.cells (g := g) rfl j v hv) (by rw [List.length_map, flat_len h3, hn]; exact hlen) hpa
                rw [add_flat, Nat.zero_add] at hv
                exact ⟨rfl, v, by simp only [Instr.loadAt, Instr.sureAddr, Sem.run_bind, Sem.run_pure, Result.andThen_ok, hv], hc⟩
      | ip cs =>
        cases tvr_c hx with
        | ip h1 h2 h3 =>
          rename_i ad
          simp only [vload] at hs
          cases hpa : pAt i (cs.map CV.d) 0 with
          | none => rw [hpa] at hs; simp at hs
          | some tv' =>
            rw [hpa] at hs
            simp only [OpRes.need.injEq, reduceCtorEq, false_or] at hs
            obtain ⟨rfl, rfl, rfl, rfl⟩ := hs
            let vs : List Value := (List.range cs.length).map fun j => (w.cell? (ad.add j)).getD undef
            have hvs : ∀ (j : Nat) (v : Value), vs[j]? = some v → w.cell? (ad.add j) = some v := by
              intro j v hv
              simp only [vs, List.getElem?_map] at hv
              by_cases hj : j < cs.length
              · obtain ⟨u, hu, _⟩ := h3 j cs[j] (List.getElem?_eq_getElem hj)
                rw [List.getElem?_range hj] at hv
                simp [hu] at hv
                rw [hu, hv]
              · rw [List.getElem?_eq_none (by simpa using hj)] at hv
                simp at hv
            have hcr : CellsR C w S ι (cs.map CV.d) vs := by
              refine ⟨by simp [vs], fun j x hx => ?_⟩
              rw [List.getElem?_map] at hx
              cases hj : cs[j]? with
              | none => simp [hj] at hx
              | some y =>
                simp [hj] at hx
                subst hx
                obtain ⟨u, hu, hr⟩ := h3 j y hj
                have hlt : j < cs.length := (List.getElem?_eq_some_iff.1 hj).1
                exact ⟨u, by simp [vs, List.getElem?_range hlt, hu], .d hr⟩
            obtain ⟨v, hv, hc⟩ := load_cells (P := P) (ad := ad) (off := 0) hty hcr hvs (by simpa using hp) hpa
            have h0 : ad.add 0 = ad := by simp [Addr.add]
            rw [h0] at hv
            exact ⟨rfl, v, by simp only [Instr.loadAt, Instr.sureAddr, Sem.run_bind, Sem.run_pure, Result.andThen_ok, hv], hc⟩
      | _ => simp [vload] at hs
    | _ => simp [vload] at hs
end Go.Proofs.VL
