/- The value level is sound, 3: operations that leave the world as it is. -/
import Derived.Test.YtoclhejbhefgeaaVD
import Derived.Laws.Cover3
import Derived.Laws.StructEq
import Derived.Laws.Small
import Derived.Laws.Tables
set_option linter.unusedVariables false
set_option linter.unusedSimpArgs false
namespace Go.Proofs.VL
open Go

variable {C : Ctx} {w : World} {S : Nat → Prop} {ι : Hist} {P : Program} {tt : Tab}

theorem arr_getD {vs : Array Value} {i : Nat} {v : Value} (h : vs[i]? = some v) : vs.getD i undef = v := by simp [Array.getD_eq_getD_getElem?, h]
theorem arr_some {vs : Array Value} {i : Nat} (h : i < vs.size) : vs[i]? = some (vs.getD i undef) := by simp [Array.getD_eq_getD_getElem?, h]
theorem bytes_beq (a b : ByteArray) : (a == b) = true ↔ a = b := by
  obtain ⟨x⟩ := a
  obtain ⟨y⟩ := b
  show (x == y) = true ↔ _
  simp
theorem str_beq (a b : ByteArray) : (a.toList == b.toList) = decide (a = b) := by
  rw [← beq_toListBytes, Bool.eq_iff_iff, bytes_beq]; simp

theorem vbin_sound {op : BinOp} {a b c : Value} {T : TypeId} {x y : Operand} (h : vbin op a b = some c) : (do eqGuard op T x y a b; binOp op T a b : Sem Value).run P w = .ok c w ∧ plain c = true := by
  unfold vbin at h
  split at h <;> (try (split at h <;> (try cases h))) <;> (try cases h) <;> (try rename_i k _ _ _ hk) <;> (try subst hk) <;>
    (try simp_all [eqGuard_add, eqGuard_sub, eqGuard_mul, eqGuard_quo, eqGuard_rem, eqGuard_at_int, eqGuard_at_bool, eqGuard_at_string, binOp, Op.intArith, Op.intDiv, Op.intCmp, Op.stringOp, plain, str_beq])
  all_goals (try (rw [Bool.eq_iff_iff]; simp))

theorem cells_one {f : Field} {T : TypeId} {xs : Array Value} {v : Value} (hu : ∃ d, P.underlying T = some d ∧ (match d with | .struct _ | .array _ _ => true | _ => false) = false) {j : Nat} (hv : xs[j]? = some v) :
    (part T xs j).run P w = .ok v w := by
  obtain ⟨d, hd, ha⟩ := hu
  have : (isAgg T).run P w = .ok false w := by
    unfold isAgg
    rw [Sem.run_bind, run_underlying hd w]
    cases d <;> simp_all
  simp [part, Sem.run_bind, this, hv]

theorem eqCell_sound {c : Nat} {x y : CV} {vx vy : Value} {b : Bool} {T : TypeId} {d : Nat} (hx : CVR C w S ι x vx) (hy : CVR C w S ι y vy) (hc : clsB (P.underlying T) c = true) (h : eqCell c x y = some b) :
    (Op.equalIn (d + 1) T vx vy).run P w = .ok b w := by
  unfold eqCell at h
  split at h
  · obtain ⟨rfl, _⟩ := cvr_v hx
    obtain ⟨rfl, _⟩ := cvr_v hy
    split at h
    · rename_i hk
      subst hk
      injection h with h
      subst h
      unfold clsB at hc
      split at hc <;> simp_all [Op.equalIn, run_underlying]
      rw [Bool.eq_iff_iff]; simp
    · cases h
  · obtain ⟨rfl, _⟩ := cvr_v hx
    obtain ⟨rfl, _⟩ := cvr_v hy
    injection h with h
    subst h
    unfold clsB at hc
    split at hc <;> simp_all [Op.equalIn, run_underlying]
    rw [Bool.eq_iff_iff]; simp
  · obtain ⟨rfl, _⟩ := cvr_v hx
    obtain ⟨rfl, _⟩ := cvr_v hy
    injection h with h
    subst h
    unfold clsB at hc
    split at hc <;> simp_all [Op.equalIn, run_underlying]
    rw [Bool.eq_iff_iff, bytes_beq]; simp
  · cases h

theorem eqCells_sound {d : Nat} {xs ys : Array Value} : ∀ {fs : List Field} {cs : List Nat} {xl yl : List CV} {j : Nat} {b : Bool}, eqsB P fs cs j = true → eqCells cs xl yl = some b →
    (∀ (i : Nat) (x : CV), xl[i]? = some x → ∃ v, xs[j + i]? = some v ∧ CVR C w S ι x v) → (∀ (i : Nat) (x : CV), yl[i]? = some x → ∃ v, ys[j + i]? = some v ∧ CVR C w S ι x v) →
    (Op.eqFields (d + 1) xs ys fs).run P w = .ok b w
  | [], [], [], [], j, b, _, h, _, _ => by simp [eqCells] at h; subst h; simp [Op.eqFields]
  | f :: fs, c :: cs, x :: xl, y :: yl, j, b, he, h, hx, hy => by
    simp only [eqsB, Bool.and_eq_true, bne_iff_ne, beq_iff_eq] at he
    obtain ⟨⟨⟨h1, h2⟩, h3⟩, h4⟩ := he
    simp only [eqCells] at h
    split at h
    · rename_i b1 b2 e1 e2
      injection h with h
      subst h
      obtain ⟨vx, hvx, hcx⟩ := hx 0 x rfl
      obtain ⟨vy, hvy, hcy⟩ := hy 0 y rfl
      have hu : ∃ d, P.underlying f.type = some d ∧ (match d with | .struct _ | .array _ _ => true | _ => false) = false := by
        unfold clsB at h3
        split at h3 <;> simp_all
      have ha := cells_one (P := P) (w := w) (f := f) (xs := xs) hu (j := f.offset) (v := vx) (by rw [h2]; exact hvx)
      have hb := cells_one (P := P) (w := w) (f := f) (xs := ys) hu (j := f.offset) (v := vy) (by rw [h2]; exact hvy)
      have hq := eqCell_sound (P := P) (d := d) hcx hcy h3 e1
      have hr := eqCells_sound (d := d) h4 e2 (fun i z hz => by have := hx (i + 1) z (by simpa using hz); rwa [show j + (i + 1) = j + 1 + i from by omega] at this)
        (fun i z hz => by have := hy (i + 1) z (by simpa using hz); rwa [show j + (i + 1) = j + 1 + i from by omega] at this)
      rw [Op.eqFields]
      simp only [if_pos h1, Sem.run_bind, ha, hb, hq, Result.andThen_ok]
      cases b1
      · simp
      · simpa using hr
    · cases h
  | [], [], _ :: _, _, _, _, _, h, _, _ => by simp [eqCells] at h
  | [], [], [], _ :: _, _, _, _, h, _, _ => by simp [eqCells] at h
  | [], _ :: _, _, _, _, _, he, _, _, _ => by simp [eqsB] at he
  | _ :: _, [], _, _, _, _, he, _, _, _ => by simp [eqsB] at he
  | _ :: _, _ :: _, [], _, _, _, _, h, _, _ => by simp [eqCells] at h
  | _ :: _, _ :: _, _ :: _, [], _, _, _, h, _, _ => by simp [eqCells] at h

theorem agg_cells {cs : List CV} {vs : Array Value} (h : ∀ (i : Nat) (x : CV), cs[i]? = some x → CVR C w S ι x (vs.getD i undef)) (hl : vs.size = cs.length) (i : Nat) (x : CV) (hx : cs[i]? = some x) : ∃ v, vs[i]? = some v ∧ CVR C w S ι x v := by
  have hlt : i < cs.length := (List.getElem?_eq_some_iff.1 hx).1
  exact ⟨_, arr_some (by omega), h i x hx⟩

theorem isNil_sound {x : CV} {v : Value} {b : Bool} (hx : CVR C w S ι x v) (h : isNil x = some b) : ∃ a n c, v = .slice a n c ∧ a.isNone = b := by
  unfold isNil at h
  split at h <;> (first | (cases h; done) | (injection h with h; subst h))
  · cases hx; exact ⟨_, _, _, rfl, rfl⟩
  · cases hx; exact ⟨_, _, _, rfl, rfl⟩
  · cases hx; exact ⟨_, _, _, rfl, rfl⟩
  · cases hx with | d hx => cases hx; exact ⟨_, _, _, rfl, rfl⟩
theorem vbinT_sound {op : BinOp} {x y : Operand} {tx ty' tv : TV} {vx vy : Value} {T : TypeId} (hT : TabOk P tt) (hx : TVR C w S ι tx vx) (hy : TVR C w S ι ty' vy) (h : vbinT op (tt T) tx ty' = some tv) :
    ∃ v, (do eqGuard op T x y vx vy; binOp op T vx vy : Sem Value).run P w = .ok v w ∧ TVR C w S ι tv v := by
  unfold vbinT at h
  split at h
  · rename_i i a b hi
    obtain ⟨rfl, _⟩ := tvr_v hx
    obtain ⟨rfl, _⟩ := tvr_v hy
    unfold vbool at h
    split at h
    · rename_i hc
      have hu := (hT T i hi).bool hc
      split at h <;> (first | cases h; done | (injection h with h; subst h))
      · refine ⟨_, ?_, tvr_mk rfl⟩
        simp [eqGuard_at_bool, run_eql_bool (P := P) w T a b hu]
      · refine ⟨_, ?_, tvr_mk rfl⟩
        have := run_equal_bool (P := P) w T a b hu
        simp [eqGuard_at_bool, binOp, this, bne]
    · cases h
  · rename_i a b _
    obtain ⟨rfl, _⟩ := tvr_v hx
    obtain ⟨rfl, _⟩ := tvr_v hy
    unfold tvOf at h
    split at h
    · rename_i c hc
      injection h with h
      subst h
      obtain ⟨h1, h2⟩ := vbin_sound (P := P) (w := w) (T := T) (x := x) (y := y) hc
      exact ⟨c, h1, tvr_mk h2⟩
    · cases h
  · rename_i i xs ys hi
    unfold vstruct at h
    split at h
    · rename_i cs hcs
      obtain ⟨fs, hu, hs, hm, he⟩ := (hT T i hi).eqs hcs
      cases hx with
      | agg hx1 hx2 =>
        rename_i vx
        cases hy with
        | agg hy1 hy2 =>
          rename_i vy
          have hf : P.fieldsOf T = fs := by simp [Program.fieldsOf, hu]
          have key : ∀ b, eqCells cs xs ys = some b → (Op.equalIn 10000 T (.agg vx) (.agg vy)).run P w = .ok b w := by
            intro b hb
            rw [run_equalIn_struct (P := P) w 9999 T vx vy (by rw [hf]; exact hu) hs, hf]
            refine eqCells_sound (C := C) (S := S) (ι := ι) (d := 9998) he hb (fun i z hz => ?_) (fun i z hz => ?_)
            · rw [Nat.zero_add]; exact agg_cells hx2 hx1 i z hz
            · rw [Nat.zero_add]; exact agg_cells hy2 hy1 i z hz
          split at h
          · unfold eqlOf at h
            split at h
            · rename_i b hb
              injection h with h
              subst h
              refine ⟨_, ?_, tvr_mk rfl⟩
              rw [Sem.run_bind, run_eqGuard_agg (P := P) w _ T x y vx vy hm, Result.andThen_ok, run_eql_struct, key b hb, Result.andThen_ok]
            · cases h
          · unfold neqOf at h
            split at h
            · rename_i b hb
              injection h with h
              subst h
              refine ⟨_, ?_, tvr_mk rfl⟩
              rw [Sem.run_bind, run_eqGuard_agg (P := P) w _ T x y vx vy hm, Result.andThen_ok, run_neq_struct, key b hb, Result.andThen_ok]
            · cases h
          · cases h
    · cases h
  · rename_i _ _ i z hi
    split at h
    · rename_i hsl
      have hu := (hT T i hi).slice hsl
      cases tvr_c hy
      unfold vnilB at h
      split at h
      · rename_i b hb
        obtain ⟨a, n, c, rfl, hab⟩ := isNil_sound (tvr_c hx) hb
        split at h <;> (first | cases h; done | (injection h with h; subst h))
        · refine ⟨_, ?_, tvr_mk rfl⟩
          simp [eqGuard, binOp, run_equal_slice_nil (P := P) (w := w) T i.elem a n c hu, hab]
        · refine ⟨_, ?_, tvr_mk rfl⟩
          simp [eqGuard, binOp, run_equal_slice_nil (P := P) (w := w) T i.elem a n c hu, hab, bne]
      · cases h
    · cases h
  · cases h
/-! ### Cells that stand for cells -/
def CellsR (C : Ctx) (w : World) (S : Nat → Prop) (ι : Hist) (cs : List CV) (vs : List Value) : Prop := vs.length = cs.length ∧ ∀ (i : Nat) (x : CV), cs[i]? = some x → ∃ v, vs[i]? = some v ∧ CVR C w S ι x v
theorem CellsR.nil : CellsR C w S ι [] [] := ⟨rfl, fun i x h => by simp at h⟩
theorem CellsR.cons {x : CV} {v : Value} {cs : List CV} {vs : List Value} (h : CVR C w S ι x v) (hr : CellsR C w S ι cs vs) : CellsR C w S ι (x :: cs) (v :: vs) :=
  ⟨by simp [hr.1], fun i y hy => by
    cases i with
    | zero => simp at hy; subst hy; exact ⟨v, rfl, h⟩
    | succ i => exact hr.2 i y (by simpa using hy)⟩
theorem CellsR.uncons {x : CV} {cs : List CV} {vs : List Value} (h : CellsR C w S ι (x :: cs) vs) : ∃ v r, vs = v :: r ∧ CVR C w S ι x v ∧ CellsR C w S ι cs r := by
  obtain ⟨v, hv, hc⟩ := h.2 0 x rfl
  cases vs with
  | nil => simp at hv
  | cons u r =>
    simp at hv
    subst hv
    exact ⟨u, r, rfl, hc, by have := h.1; simpa using this, fun i y hy => by simpa using h.2 (i + 1) y (by simpa using hy)⟩
theorem CellsR.agg {cs : List CV} {vs : List Value} (h : CellsR C w S ι cs vs) : TVR C w S ι (.agg cs) (.agg vs.toArray) :=
  .agg (by simpa using h.1) fun i x hx => by
    obtain ⟨v, hv, hc⟩ := h.2 i x hx
    rw [arr_getD (v := v) (by simpa using hv)]
    exact hc
theorem CellsR.of_agg {cs : List CV} {v : Value} (h : TVR C w S ι (.agg cs) v) : ∃ vs : List Value, v = .agg vs.toArray ∧ CellsR C w S ι cs vs := by
  cases h with
  | agg h1 h2 =>
    rename_i vs
    exact ⟨vs.toList, by simp, by simpa using h1, fun i x hx => by
      obtain ⟨u, hu, hc⟩ := agg_cells h2 h1 i x hx
      exact ⟨u, by simpa using hu, hc⟩⟩
theorem cellsOf_sound {tv : TV} {v : Value} {cs : List CV} (h : TVR C w S ι tv v) (hc : cellsOf tv = some cs) : CellsR C w S ι cs v.cells.toList := by
  unfold cellsOf at hc
  split at hc
  · injection hc with hc
    subst hc
    rw [cvr_cells (tvr_c h)]
    exact .cons (tvr_c h) .nil
  · injection hc with hc
    subst hc
    obtain ⟨vs, rfl, hr⟩ := CellsR.of_agg h
    simpa [Value.cells] using hr
  · cases hc
theorem CellsR.set {cs : List CV} {vs : List Value} (h : CellsR C w S ι cs vs) (i : Nat) {x : CV} {v : Value} (hx : CVR C w S ι x v) : CellsR C w S ι (cs.set i x) (vs.set i v) := by
  refine ⟨by simp [h.1], fun j y hy => ?_⟩
  rw [List.getElem?_set] at hy ⊢
  split at hy
  · rename_i e
    subst e
    split at hy
    · rename_i hlt
      injection hy with hy
      subst hy
      exact ⟨v, by simp [h.1, hlt], hx⟩
    · cases hy
  · rename_i e
    rw [if_neg e]
    exact h.2 j y hy
theorem CellsR.put {cs xs : List CV} {vs us : List Value} (h : CellsR C w S ι cs vs) (hx : CellsR C w S ι xs us) (off k : Nat) :
    CellsR C w S ι (putCells cs (off + k) xs) ((us.zipIdx k).foldl (fun l p => l.set (off + p.2) p.1) vs) := by
  induction xs generalizing cs vs us k with
  | nil =>
    have : us = [] := List.eq_nil_of_length_eq_zero hx.1
    subst this
    exact h
  | cons x xs ih =>
    obtain ⟨v, r, rfl, hv, hr⟩ := hx.uncons
    simp only [putCells, List.zipIdx_cons, List.foldl_cons]
    exact ih (h.set (off + k) hv) hr (k + 1)
theorem foldl_set (l : List (Value × Nat)) (off : Nat) (A : Array Value) : (l.foldl (fun cs p => cs.setIfInBounds (off + p.2) p.1) A).toList = l.foldl (fun l p => l.set (off + p.2) p.1) A.toList := by
  induction l generalizing A with
  | nil => rfl
  | cons p l ih => simp only [List.foldl_cons]; rw [ih]; simp

theorem putCells_length (cs : List CV) (off : Nat) (xs : List CV) : (putCells cs off xs).length = cs.length := by
  induction xs generalizing cs off with
  | nil => rfl
  | cons x xs ih => simp [putCells, ih]
/-- Parts that stand for parts. -/
def PartsR (C : Ctx) (w : World) (S : Nat → Prop) (ι : Hist) : List (Nat × TV) → List (Nat × Value) → Prop
  | [], [] => True
  | (j, tv) :: r, (j', v) :: s => j = j' ∧ TVR C w S ι tv v ∧ PartsR C w S ι r s
  | _, _ => False
theorem fill_sound {n : Nat} {place : Nat → Option (Nat × Nat)} {fs : List (Nat × Nat × Bool)} (hp : ∀ (j off sz : Nat) (ag : Bool), fs[j]? = some (off, sz, ag) → place j = some (off, sz) ∧ off + sz ≤ n) :
    ∀ {parts : List (Nat × TV)} {ps : List (Nat × Value)} {cs out : List CV} {A : Array Value}, PartsR C w S ι parts ps →
      CellsR C w S ι cs A.toList → cs.length = n → fillParts fs cs parts = some out → ∃ B, Instr.fill place A ps = some B ∧ CellsR C w S ι out B.toList
  | [], [], cs, out, A, _, hA, _, h => by
    simp [fillParts] at h
    subst h
    exact ⟨A, rfl, hA⟩
  | (j, tv) :: r, (j', v) :: s, cs, out, A, hps, hA, hn, h => by
    obtain ⟨rfl, htv, hps⟩ := hps
    simp only [fillParts] at h
    split at h
    · rename_i off sz ag xs hf hx
      split at h
      · rename_i hsz
        obtain ⟨hpl, hfit⟩ := hp j off sz ag hf
        have hc := cellsOf_sound htv hx
        have hsize : v.cells.size = sz := by rw [← hsz, ← hc.1]; simp
        have hAs : A.size = n := by rw [← hn, ← hA.1]; simp
        have hput := hA.put hc off 0
        obtain ⟨B, hB, hR⟩ := fill_sound hp (parts := r) (ps := s) (A := v.cells.zipIdx.foldl (fun cs (c, j) => cs.setIfInBounds (off + j) c) A) (cs := putCells cs off xs) hps (by
          rw [← Array.foldl_toList, foldl_set]
          simpa using hput) (by rw [putCells_length, hn]) h
        refine ⟨B, ?_, hR⟩
        simp only [Instr.fill, hpl]
        rw [if_neg (by simp; omega)]
        exact hB
      · cases h
    · cases h
  | [], _ :: _, _, _, _, h, _, _, _ => h.elim
  | _ :: _, [], _, _, _, h, _, _, _ => h.elim

theorem places_of {P : Program} {size : Nat} : ∀ {fs : List Field} {gs : List (Nat × Nat × Bool)}, fieldsB P size fs gs = true →
    ∃ places : List (Nat × Nat), fs.mapM (fun f => (P.info? f.type).map fun i => (f.offset, i.size)) = some places ∧ ∀ (j off sz : Nat) (ag : Bool), gs[j]? = some (off, sz, ag) → places[j]? = some (off, sz) ∧ off + sz ≤ size
  | [], [], _ => ⟨[], rfl, fun j off sz ag h => by simp at h⟩
  | x :: r, y :: s, h => by
    simp only [fieldsB, Bool.and_eq_true] at h
    obtain ⟨pl, h1, h2⟩ := places_of h.2
    have hf := h.1
    simp only [fieldB, Bool.and_eq_true, beq_iff_eq, decide_eq_true_eq] at hf
    obtain ⟨⟨hf1, hf2⟩, hf3⟩ := hf
    split at hf3
    · rename_i d u hd hu
      simp only [Bool.and_eq_true, beq_iff_eq, decide_eq_true_eq] at hf3
      refine ⟨(x.offset, d.size) :: pl, by simp [List.mapM_cons, hd, h1], fun j off sz ag hz => ?_⟩
      cases j with
      | zero =>
        simp at hz
        subst hz
        simp_all
      | succ j => exact h2 j off sz ag (by simpa using hz)
    · cases hf3
  | [], _ :: _, h => by simp [fieldsB] at h
  | _ :: _, [], h => by simp [fieldsB] at h

theorem vbuild_sound {T : TypeId} {parts : List (Nat × TV)} {ps : Array (Nat × Value)} {tv : TV} (hT : TabOk P tt) (hps : PartsR C w S ι parts ps.toList) (h : vbuild (tt T) parts = some tv) :
    ∃ v, (Instr.build T ps).run P w = .ok v w ∧ TVR C w S ι tv v := by
  unfold vbuild at h
  split at h
  · rename_i i hi
    have hty := hT T i hi
    split at h
    · rename_i hag
      unfold aggOf at h
      split at h
      · rename_i out hfp
        injection h with h
        subst h
        obtain ⟨fs, hu, hfb⟩ := hty.struct hag
        obtain ⟨places, hpl, hplaces⟩ := places_of hfb
        obtain ⟨d, z, hdi, hs, hb, hz, h1, h2, h3⟩ := hty.info
        have hzero : CellsR C w S ι i.zero z.cells.toList := ⟨by rw [hty.zlen, ← h1]; simp, fun j x hx => by
          obtain ⟨v, hv, hc⟩ := h3 j x hx
          exact ⟨v, by simpa using hv, hc C w S ι⟩⟩
        obtain ⟨B, hB, hR⟩ := fill_sound (n := i.size) (place := (places.toArray[·]?)) (fs := i.fields) (fun j off sz ag hj => by
          obtain ⟨q1, q2⟩ := hplaces j off sz ag hj
          exact ⟨by simpa using q1, q2⟩) hps hzero hty.zlen hfp
        refine ⟨.agg B, run_build (P := P) w T ps B (by simp only [Program.built, hdi, hu, hz, hpl]; exact hB), ?_⟩
        have := hR.agg
        simpa using this
      · cases h
    · cases h
  · cases h
theorem pAt_sound {i : TI} {cs : List CV} {off : Nat} {tv : TV} {vs : Array Value} {T : TypeId} (hcs : CellsR C w S ι cs vs.toList) (ha : (isAgg T).run P w = .ok i.agg w) (hs : (sizeOf T).run P w = .ok i.size w)
    (h : pAt i cs off = some tv) : ∃ v, (part T vs off).run P w = .ok v w ∧ TVR C w S ι tv v := by
  unfold pAt at h
  split at h
  · rename_i hag
    injection h with h
    subst h
    refine ⟨.agg (vs.extract off (off + i.size)), by simp [part, Sem.run_bind, ha, hag, hs], ?_⟩
    have hr : CellsR C w S ι ((cs.drop off).take i.size) ((vs.toList.drop off).take i.size) := by
      refine ⟨by simp [hcs.1], fun j x hx => ?_⟩
      rw [List.getElem?_take] at hx ⊢
      split at hx
      · rename_i hj
        rw [if_pos hj]
        rw [List.getElem?_drop] at hx ⊢
        exact hcs.2 _ x hx
      · cases hx
    have he : vs.extract off (off + i.size) = ((vs.toList.drop off).take i.size).toArray := by
      apply Array.ext'
      simp [Array.toList_extract, List.extract_eq_take_drop]
    rw [he]
    exact hr.agg
  · rename_i hag
    split at h
    · rename_i x hx
      injection h with h
      subst h
      obtain ⟨v, hv, hc⟩ := hcs.2 off x hx
      have hv' : vs[off]? = some v := by simpa using hv
      exact ⟨v, by simp [part, Sem.run_bind, ha, hag, hv'], .c hc⟩
    · cases h

theorem cvsOf_sound : ∀ {l : List TV} {vs : List Value} {cs : List CV}, vs.length = l.length → (∀ (i : Nat) (x : TV), l[i]? = some x → ∃ v, vs[i]? = some v ∧ TVR C w S ι x v) → cvsOf l = some cs → CellsR C w S ι cs vs
  | [], vs, cs, hl, _, h => by
    simp [cvsOf] at h
    subst h
    have : vs = [] := List.eq_nil_of_length_eq_zero hl
    subst this
    exact .nil
  | .c x :: r, vs, cs, hl, hx, h => by
    simp only [cvsOf] at h
    split at h
    · rename_i l' hl'
      injection h with h
      subst h
      cases vs with
      | nil => simp at hl
      | cons v s =>
        obtain ⟨v', hv', hc⟩ := hx 0 (.c x) rfl
        simp at hv'
        subst hv'
        exact .cons (tvr_c hc) (cvsOf_sound (by simpa using hl) (fun i y hy => by simpa using hx (i + 1) y (by simpa using hy)) hl')
    · cases h
  | .agg _ :: _, _, _, _, _, h => by simp [cvsOf] at h
  | .tup _ :: _, _, _, _, _, h => by simp [cvsOf] at h
  | .junk :: _, _, _, _, _, h => by simp [cvsOf] at h

theorem faddr_sound {T : TypeId} {f off sz : Nat} {ag : Bool} {i : TI} {v : Value} {x : CV} {tv : TV} (hty : TyOk P T i) (hf : i.fields[f]? = some (off, sz, ag)) (hx : CVR C w S ι x v) (h : vfaddrAt (some (off, sz, ag)) x = some tv) :
    ∃ u, (Instr.fieldAt T v f).run P w = .ok u w ∧ TVR C w S ι tv u := by
  obtain ⟨fs, fd, d, hu, hfd, ho, hsz, hdi, hds, hpos, _⟩ := hty.field hf
  have key : ∀ ad : Addr, (Instr.fieldAt T (.pointer (some ad)) f).run P w = .ok (.pointer (some (ad.add off))) w := by
    intro ad
    have hne : ¬ (d.size = 0) := by omega
    simp [Instr.fieldAt, run_underlying hu, hfd, Instr.sureAddr, fieldPlace, sizeOf, typeInfo, hdi, hne, ho]
  unfold vfaddrAt at h
  split at h
  · rename_i off' _ _ t o heq
    injection heq with heq
    injection heq with e1 e2
    subst e1
    injection h with h
    subst h
    cases hx with
    | ptr hp =>
      refine ⟨_, key _, ?_⟩
      rw [add_flat]
      exact .c (.ptr hp)
  · rename_i off' _ _ t n o heq
    injection heq with heq
    injection heq with e1 e2
    subst e1
    injection h with h
    subst h
    cases hx with
    | ep hp =>
      refine ⟨_, key _, ?_⟩
      rw [add_flat]
      exact .c (.ep hp)
  · rename_i off' _ _ cs heq
    injection heq with heq
    injection heq with e1 e2
    subst e1
    injection h with h
    subst h
    cases hx with
    | ip h1 h2 h3 =>
      refine ⟨_, key _, .c (.ip (add_spot _ _ h1) (by rw [add_block]; exact h2) fun j x hx => ?_)⟩
      rw [List.getElem?_drop] at hx
      obtain ⟨u, hu, hr⟩ := h3 _ x hx
      exact ⟨u, by rw [add_add]; exact hu, hr⟩
  · cases h

def nextVal : Next → Option Value
  | .value v => some v
  | .skip => some undef
  | _ => none

theorem vpick_sound {tc ta tb tv : TV} {vc va vb : Value} (hc : TVR C w S ι tc vc) (ha : TVR C w S ι ta va) (hb : TVR C w S ι tb vb) (h : vpick tc ta tb = some tv) : ∃ t, vc = .bool t ∧ TVR C w S ι tv (if t = true then va else vb) := by
  unfold vpick at h
  split at h
  · injection h with h
    obtain ⟨rfl, _⟩ := tvr_v hc
    refine ⟨_, rfl, ?_⟩
    subst h
    split
    · exact ha
    · exact hb
  · cases h
theorem vun_sound {op : UnOp} {tx tv : TV} {vx : Value} (hx : TVR C w S ι tx vx) (h : vun op tx = some tv) : ∃ v, (Op.unary op vx).run P w = .ok v w ∧ TVR C w S ι tv v := by
  unfold vun at h
  split at h
  · injection h with h; subst h
    obtain ⟨rfl, _⟩ := tvr_v hx
    exact ⟨_, by simp [Op.unary], tvr_mk rfl⟩
  · injection h with h; subst h
    obtain ⟨rfl, _⟩ := tvr_v hx
    exact ⟨_, by simp [Op.unary, Op.intArith], tvr_mk rfl⟩
  · cases h
theorem vconv_sound {src dst : TypeId} {tx tv : TV} {vx : Value} (hT : TabOk P tt) (hsrc : (tt src).isSome = true) (hx : TVR C w S ι tx vx) (h : vconv (tt dst) tx = some tv) : ∃ v, (convert src dst vx).run P w = .ok v w ∧ TVR C w S ι tv v := by
  unfold vconv at h
  split at h
  · rename_i i k n hi
    obtain ⟨rfl, _⟩ := tvr_v hx
    cases hk : i.kind with
    | none => rw [hk] at h; cases h
    | some k' =>
      rw [hk] at h
      injection h with h; subst h
      obtain ⟨j, hj⟩ := Option.isSome_iff_exists.1 hsrc
      obtain ⟨u, hu, _⟩ := (hT src j hj).desc
      have hd := (hT dst i hi).intk hk
      refine ⟨_, ?_, tvr_mk rfl⟩
      simp [convert, run_underlying hu, run_underlying hd, Conv.intToInt]
  · cases h
theorem vextract_sound {tx tv : TV} {vx : Value} {n : Nat} (hx : TVR C w S ι tx vx) (h : vextract tx n = some tv) : ∃ v, (Instr.extract vx n).run P w = .ok v w ∧ TVR C w S ι tv v := by
  unfold vextract at h
  split at h
  · rename_i l
    cases hx with
    | tup h1 h2 =>
      rename_i vs
      have hlt : n < l.length := (List.getElem?_eq_some_iff.1 h).1
      refine ⟨vs.getD n undef, ?_, h2 n tv h⟩
      simp only [Instr.extract]
      rw [arr_some (show n < vs.size by omega)]
      rfl
  · cases h
theorem vfaddr_sound {s : TypeId} {tx tv : TV} {vx : Value} {f : Nat} (hT : TabOk P tt) (hx : TVR C w S ι tx vx) (h : vfaddr (tt s) tx f = some tv) : ∃ v, (Instr.fieldAt s vx f).run P w = .ok v w ∧ TVR C w S ι tv v := by
  cases hi : tt s with
  | none => rw [hi] at h; cases tx <;> simp [vfaddr] at h
  | some i =>
    rw [hi] at h
    cases tx with
    | c y =>
      simp only [vfaddr] at h
      cases hf : i.fields[f]? with
      | none => rw [hf] at h; simp [vfaddrAt] at h
      | some g =>
        obtain ⟨off, sz, ag⟩ := g
        rw [hf] at h
        exact faddr_sound (hT s i hi) hf (tvr_c hx) h
    | _ => simp [vfaddr] at h
theorem vfield_sound {s : TypeId} {tx tv : TV} {vx : Value} {f : Nat} (hT : TabOk P tt) (hx : TVR C w S ι tx vx) (h : vfield (tt s) tx f = some tv) : ∃ v, (Instr.field s vx f).run P w = .ok v w ∧ TVR C w S ι tv v := by
  unfold vfield at h
  split at h
  · rename_i i cs hi
    obtain ⟨vs, hv, hcs⟩ := CellsR.of_agg hx
    subst hv
    unfold vfieldAt at h
    split at h
    · rename_i off sz ag hf
      obtain ⟨fs, fd, d, hu, hfd, ho, hsz, hdi, hds, hpos, hag⟩ := (hT s i hi).field hf
      obtain ⟨v, hv', hr⟩ := pAt_sound (P := P) (T := fd.type) (vs := vs.toArray) (by simpa using hcs) (hag w) (by simp [sizeOf, typeInfo, hdi, hds]) h
      refine ⟨v, ?_, hr⟩
      simp only [Instr.field, Sem.run_bind, run_underlying hu, Result.andThen_ok, hfd, asAgg, Sem.run_pure, ho]
      exact hv'
    · cases h
  · cases h
theorem vnilc_sound {tx tv : TV} {vx : Value} (hx : TVR C w S ι tx vx) (h : vnilc tx = some tv) : tv = tx ∧ ((∃ a, vx = .pointer (some a)) ∨ ∃ f vs, vx = .func f #[] vs ∧ ∀ n, f ≠ .method n) := by
  unfold vnilc at h
  split at h
  · injection h with h; subst h
    refine ⟨rfl, .inl ?_⟩
    cases tvr_c hx; exact ⟨_, rfl⟩
  · injection h with h; subst h
    refine ⟨rfl, .inl ?_⟩
    cases tvr_c hx; exact ⟨_, rfl⟩
  · injection h with h; subst h
    refine ⟨rfl, .inl ?_⟩
    cases tvr_c hx; exact ⟨_, rfl⟩
  · cases h
theorem vmkf_sound {f : Fn} {l : List Operand} {ts : List TV} {tv : TV} {vs : List Value} (hl : vs.length = ts.length) (hx : ∀ (i : Nat) (x : TV), ts[i]? = some x → ∃ v, vs[i]? = some v ∧ TVR C w S ι x v) (h : vmkf f l ts = some tv) :
    l = [] ∧ TVR C w S ι tv (.func f #[] vs.toArray) := by
  unfold vmkf at h
  split at h
  · split at h
    · rename_i cs hcs
      injection h with h; subst h
      have hr := cvsOf_sound hl hx hcs
      refine ⟨rfl, .c (.fn (by simpa using hr.1) fun i x hx => ?_)⟩
      obtain ⟨v, hv, hc⟩ := hr.2 i x hx
      rw [arr_getD (v := v) (by simpa using hv)]
      exact hc
    · cases h
  · cases h
theorem parts_ev {tm : List TV} {a : Act} (hev : ∀ x, TVR C w S ι (ev tm x) (a.eval x)) : ∀ l : List (Nat × Operand), PartsR C w S ι (l.map fun p => (p.1, ev tm p.2)) (l.map fun p => (p.1, a.eval p.2))
  | [] => trivial
  | p :: r => ⟨rfl, hev p.2, parts_ev hev r⟩

theorem vpure_sound {tm : List TV} {a : Act} {o : Oper} {tv : TV} (hT : TabOk P tt) (htm : TmR C w S ι tm a.tmps) (h : vpure tt tm o.op = some tv) :
    ∃ v, (execOp a.eval o).run P w = .ok (.value v) w ∧ TVR C w S ι tv v := by
  have hev := ev_spec htm
  obtain ⟨dst, op, ty, pos, aft, gd⟩ := o
  cases op <;> simp only [vpure] at h <;> (try (cases h; done))
  case move x => injection h with h; subst h; exact ⟨_, by simp [execOp], hev x⟩
  case assign x => injection h with h; subst h; exact ⟨_, by simp [execOp], hev x⟩
  case pick c x y =>
    obtain ⟨t, hv, hr⟩ := vpick_sound (hev c) (hev x) (hev y) h
    exact ⟨_, by simp [execOp, hv, asBool], hr⟩
  case build T parts =>
    obtain ⟨v, hv, hr⟩ := vbuild_sound (P := P) (ps := parts.map fun p => (p.1, a.eval p.2)) hT (by simpa using parts_ev hev parts.toList) h
    exact ⟨v, by simp only [execOp, Sem.run_bind]; rw [hv]; simp, hr⟩
  case nilCheck x =>
    obtain ⟨rfl, hv⟩ := vnilc_sound (hev x) h
    refine ⟨a.eval x, ?_, hev x⟩
    rcases hv with ⟨ad, hv⟩ | ⟨f, vs, hv, hf⟩
    · simp [execOp, hv]
    · cases f <;> simp_all [execOp]
  case binOp op T x y _ =>
    obtain ⟨v, hv, hr⟩ := vbinT_sound (P := P) (x := x) (y := y) hT (hev x) (hev y) h
    exact ⟨v, by simp only [execOp, Sem.run_bind]; simp only [Sem.run_bind] at hv; rw [hv]; simp, hr⟩
  case unOp op T x =>
    obtain ⟨v, hv, hr⟩ := vun_sound (P := P) (hev x) h
    exact ⟨v, by simp [execOp, hv], hr⟩
  case convert src dst x =>
    split at h
    · rename_i hs
      obtain ⟨v, hv, hr⟩ := vconv_sound (P := P) hT hs (hev x) h
      exact ⟨v, by simp [execOp, hv], hr⟩
    · cases h
  case makeFunc f first cap =>
    obtain ⟨he, hr⟩ := vmkf_sound (vs := cap.toList.map a.eval) (by simp) (fun i x hx => by
      rw [List.getElem?_map] at hx ⊢
      cases hc : cap.toList[i]? with
      | none => simp [hc] at hx
      | some y => simp [hc] at hx; subst hx; exact ⟨_, rfl, hev y⟩) h
    have hf : first = #[] := by simpa using he
    subst hf
    refine ⟨_, ?_, hr⟩
    have he : cap.map a.eval = (cap.toList.map a.eval).toArray := by apply Array.ext'; simp
    simp only [execOp, Instr.makeFunc, Sem.run_bind, he, Sem.run_pure, Result.andThen_ok, Array.map_empty]
  case fieldAddr s x f =>
    obtain ⟨v, hv, hr⟩ := vfaddr_sound (P := P) hT (hev x) h
    exact ⟨v, by simp [execOp, hv], hr⟩
  case field s x f =>
    obtain ⟨v, hv, hr⟩ := vfield_sound (P := P) hT (hev x) h
    exact ⟨v, by simp [execOp, hv], hr⟩
  case extract x n =>
    obtain ⟨v, hv, hr⟩ := vextract_sound (P := P) (hev x) h
    exact ⟨v, by simp [execOp, hv], hr⟩
end Go.Proofs.VL
