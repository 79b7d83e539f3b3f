/- The value level is sound, 2: the types' facts; operations that leave the world as it is. -/
import Derived.Test.YtoclhejbhefgeaaVC
import Derived.Laws.Entries
set_option linter.unusedVariables false
set_option linter.unusedSimpArgs false
namespace Go.Proofs.VL
open Go

/-! ### Types -/
def zeroB : CV → Value → Bool
  | .nil, .slice none 0 0 => true
  | .d (.v (.int k n)), .int k' m => k == k' && n == m
  | .d (.v (.bool b)), .bool c => b == c
  | .d (.v (.string s)), .string s' => s.size == 0 && s'.size == 0
  | _, _ => false
def zerosB : List CV → List Value → Bool
  | [], [] => true
  | x :: r, y :: s => zeroB x y && zerosB r s
  | _, _ => false
def fieldB (P : Program) (size : Nat) (f : Field) (g : Nat × Nat × Bool) : Bool :=
  f.offset == g.1 && g.1 + g.2.1 ≤ size && (match P.info? f.type, P.underlying f.type with
    | some d, some u => d.size == g.2.1 && 0 < d.size && (match u with | .struct _ | .array _ _ => true | _ => false) == g.2.2
    | _, _ => false)
def fieldsB (P : Program) (size : Nat) : List Field → List (Nat × Nat × Bool) → Bool
  | [], [] => true
  | x :: r, y :: s => fieldB P size x y && fieldsB P size r s
  | _, _ => false
def clsB : Option TypeDesc → Nat → Bool
  | some (.int _), 0 => true
  | some .bool, 1 => true
  | some .string, 2 => true
  | _, _ => false
def eqsB (P : Program) : List Field → List Nat → Nat → Bool
  | [], [], _ => true
  | f :: fs, c :: cs, j => f.name != "_" && f.offset == j && clsB (P.underlying f.type) c && eqsB P fs cs (j + 1)
  | _, _, _ => false
def eqB (P : Program) (t : TypeId) (fs : List Field) : Option (List Nat) → Bool
  | none => true
  | some cs => !P.stoodInHeld t && !P.eqGuardType P.depth t && eqsB P fs cs 0
def descB (P : Program) (t : TypeId) (i : TI) : TypeDesc → Bool
  | .struct fs => i.agg && !i.sl && i.kind.isNone && i.cls == 0 && eqB P t fs.toList i.eqs && fieldsB P i.size fs.toList i.fields
  | .array _ _ => false
  | .slice e => !i.agg && i.sl && i.kind.isNone && i.elem == e && i.cls == 0 && i.eqs.isNone && i.fields.isEmpty
  | .int k => !i.agg && !i.sl && i.kind == some k && i.cls == 0 && i.eqs.isNone && i.fields.isEmpty
  | .bool => !i.agg && !i.sl && i.kind.isNone && i.cls == 1 && i.eqs.isNone && i.fields.isEmpty
  | .string => !i.agg && !i.sl && i.kind.isNone && i.cls == 2 && i.eqs.isNone && i.fields.isEmpty
  | _ => false
def tyB (P : Program) (t : TypeId) (i : TI) : Bool :=
  match P.info? t, P.underlying t with
  | some d, some u => d.size == i.size && d.bytes == i.bytes && 0 < i.bytes && 0 < i.size && i.zero.length == i.size && descB P t i u &&
      (match d.zero with
      | some z => zerosB i.zero z.cells.toList && (match z with | .agg _ => i.agg | _ => !i.agg)
      | none => false)
  | _, _ => false

structure TyOk (P : Program) (t : TypeId) (i : TI) : Prop where
  info : ∃ d z, P.info? t = some d ∧ d.size = i.size ∧ d.bytes = i.bytes ∧ d.zero = some z ∧ z.cells.size = i.size ∧ (i.agg = true → ∃ cs, z = .agg cs) ∧
    ∀ (j : Nat) (x : CV), i.zero[j]? = some x → ∃ v : Value, z.cells[j]? = some v ∧ ∀ C w S ι, CVR C w S ι x v
  pos : 0 < i.size
  bpos : 0 < i.bytes
  zlen : i.zero.length = i.size
  zsh : ∀ (j : Nat) (x : CV), i.zero[j]? = some x → (∃ y, x = .d y) ∨ x = .nil
  desc : ∃ u, P.underlying t = some u ∧ descB P t i u = true
abbrev Tab := TypeId → Option TI
def TabOk (P : Program) (tt : Tab) : Prop := ∀ t i, tt t = some i → TyOk P t i

theorem zeroB_spec {x : CV} {v : Value} (h : zeroB x v = true) : ∀ C w S ι, CVR C w S ι x v := by
  intro C w S ι
  unfold zeroB at h
  split at h
  · exact .nil
  · simp at h; obtain ⟨rfl, rfl⟩ := h; exact .d (.v rfl)
  · simp at h; subst h; exact .d (.v rfl)
  · rename_i s s'
    simp at h
    obtain ⟨rfl, rfl⟩ := h
    exact .d (.v rfl)
  · cases h
theorem zerosB_spec : ∀ {l : List CV} {vs : List Value}, zerosB l vs = true → l.length = vs.length ∧ ∀ (j : Nat) (x : CV), l[j]? = some x → ∃ v : Value, vs[j]? = some v ∧ ∀ C w S ι, CVR C w S ι x v
  | [], [], _ => ⟨rfl, fun j x h => by simp at h⟩
  | x :: r, y :: s, h => by
    simp only [zerosB, Bool.and_eq_true] at h
    obtain ⟨h1, h2⟩ := zerosB_spec h.2
    refine ⟨by simp [h1], fun j z hz => ?_⟩
    cases j with
    | zero => simp at hz; subst hz; exact ⟨y, rfl, zeroB_spec h.1⟩
    | succ j => exact h2 j z (by simpa using hz)
  | [], _ :: _, h => by simp [zerosB] at h
  | _ :: _, [], h => by simp [zerosB] at h
theorem zerosB_shape : ∀ {l : List CV} {vs : List Value}, zerosB l vs = true → ∀ (j : Nat) (x : CV), l[j]? = some x → (∃ y, x = .d y) ∨ x = .nil
  | [], [], _, j, x, h => by simp at h
  | x :: r, y :: s, h, j, z, hz => by
    simp only [zerosB, Bool.and_eq_true] at h
    cases j with
    | zero =>
      simp at hz
      subst hz
      have := h.1
      unfold zeroB at this
      split at this
      · exact .inr rfl
      · exact .inl ⟨_, rfl⟩
      · exact .inl ⟨_, rfl⟩
      · exact .inl ⟨_, rfl⟩
      · cases this
    | succ j => exact zerosB_shape h.2 j z (by simpa using hz)
  | [], _ :: _, h, _, _, _ => by simp [zerosB] at h
  | _ :: _, [], h, _, _, _ => by simp [zerosB] at h
theorem tyB_spec {P : Program} {t : TypeId} {i : TI} (h : tyB P t i = true) : TyOk P t i := by
  unfold tyB at h
  split at h
  · rename_i d u hd hu
    simp only [Bool.and_eq_true, beq_iff_eq, decide_eq_true_eq] at h
    obtain ⟨⟨⟨⟨⟨⟨h1, h2⟩, hb⟩, h3⟩, h4⟩, h5⟩, h6⟩ := h
    split at h6
    · rename_i z hz
      simp only [Bool.and_eq_true] at h6
      obtain ⟨hl, hzs⟩ := zerosB_spec h6.1
      refine ⟨⟨d, z, hd, h1, h2, hz, by rw [← h4, hl]; simp, fun ha => ?_, fun j x hx => ?_⟩, h3, hb, h4, zerosB_shape h6.1, u, hu, h5⟩
      · have := h6.2
        split at this
        · rename_i cs; exact ⟨cs, rfl⟩
        · rw [ha] at this; cases this
      · obtain ⟨v, hv, hc⟩ := hzs j x hx
        exact ⟨v, by simpa using hv, hc⟩
    · cases h6
  · cases h

theorem TyOk.agg {P : Program} {t : TypeId} {i : TI} (h : TyOk P t i) (w : World) : (isAgg t).run P w = .ok i.agg w := by
  obtain ⟨u, hu, hd⟩ := h.desc
  unfold isAgg
  rw [Sem.run_bind, run_underlying hu w]
  cases u <;> simp_all [descB]
theorem TyOk.sizeOf {P : Program} {t : TypeId} {i : TI} (h : TyOk P t i) (w : World) : (sizeOf t).run P w = .ok i.size w := by
  obtain ⟨d, z, hd, hs, _⟩ := h.info
  simp [Go.sizeOf, typeInfo, hd, hs]
theorem TyOk.zeroValue {P : Program} {t : TypeId} {i : TI} (h : TyOk P t i) (w : World) : ∃ z, (zeroValue t).run P w = .ok z w ∧ z.cells.size = i.size ∧ (i.agg = true → ∃ cs, z = .agg cs) ∧
    ∀ (j : Nat) (x : CV), i.zero[j]? = some x → ∃ v : Value, z.cells[j]? = some v ∧ ∀ C w S ι, CVR C w S ι x v := by
  obtain ⟨d, z, hd, hs, hb, hz, h1, h2, h3⟩ := h.info
  exact ⟨z, by simp [Go.zeroValue, typeInfo, hd, hz], h1, h2, h3⟩
theorem TyOk.slice {P : Program} {t : TypeId} {i : TI} (h : TyOk P t i) (hs : i.sl = true) : P.underlying t = some (.slice i.elem) := by
  obtain ⟨u, hu, hd⟩ := h.desc
  rw [hu]
  cases u <;> simp_all [descB]
theorem TyOk.intk {P : Program} {t : TypeId} {i : TI} (h : TyOk P t i) {k : IntKind} (hs : i.kind = some k) : P.underlying t = some (.int k) := by
  obtain ⟨u, hu, hd⟩ := h.desc
  rw [hu]
  cases u <;> simp_all [descB]
theorem fieldsB_spec {P : Program} {size : Nat} : ∀ {fs : List Field} {gs : List (Nat × Nat × Bool)}, fieldsB P size fs gs = true → fs.length = gs.length ∧ ∀ (j off sz : Nat) (ag : Bool), gs[j]? = some (off, sz, ag) →
    ∃ (f : Field) (d : TypeInfo), fs[j]? = some f ∧ f.offset = off ∧ off + sz ≤ size ∧ P.info? f.type = some d ∧ d.size = sz ∧ 0 < sz ∧ ∀ w, (isAgg f.type).run P w = .ok ag w
  | [], [], _ => ⟨rfl, fun j off sz ag h => by simp at h⟩
  | x :: r, y :: s, h => by
    simp only [fieldsB, Bool.and_eq_true] at h
    obtain ⟨h1, h2⟩ := fieldsB_spec h.2
    refine ⟨by simp [h1], fun j off sz ag hz => ?_⟩
    cases j with
    | zero =>
      simp at hz
      subst hz
      have hf := h.1
      simp only [fieldB, Bool.and_eq_true, beq_iff_eq, decide_eq_true_eq] at hf
      obtain ⟨⟨hf1, hf2⟩, hf3⟩ := hf
      split at hf3
      · rename_i d u hd hu
        simp only [Bool.and_eq_true, beq_iff_eq, decide_eq_true_eq] at hf3
        refine ⟨x, d, rfl, hf1, hf2, hd, hf3.1.1, by omega, fun w => ?_⟩
        unfold isAgg
        rw [Sem.run_bind, run_underlying hu w]
        cases u <;> simp_all
      · cases hf3
    | succ j => exact h2 j off sz ag (by simpa using hz)
  | [], _ :: _, h => by simp [fieldsB] at h
  | _ :: _, [], h => by simp [fieldsB] at h
theorem TyOk.field {P : Program} {t : TypeId} {i : TI} (h : TyOk P t i) {j off sz : Nat} {ag : Bool} (hj : i.fields[j]? = some (off, sz, ag)) :
    ∃ (fs : Array Field) (f : Field) (d : TypeInfo), P.underlying t = some (.struct fs) ∧ fs[j]? = some f ∧ f.offset = off ∧ off + sz ≤ i.size ∧ P.info? f.type = some d ∧ d.size = sz ∧ 0 < sz ∧ ∀ w, (isAgg f.type).run P w = .ok ag w := by
  obtain ⟨u, hu, hd⟩ := h.desc
  cases u with
  | struct fs =>
    simp only [descB, Bool.and_eq_true] at hd
    obtain ⟨h1, h2⟩ := fieldsB_spec hd.2
    obtain ⟨f, d, hf, hr⟩ := h2 j off sz ag hj
    exact ⟨fs, f, d, hu, by simpa using hf, hr⟩
  | _ => simp_all [descB]
theorem TyOk.bool {P : Program} {t : TypeId} {i : TI} (h : TyOk P t i) (hs : i.cls = 1) : P.underlying t = some .bool := by
  obtain ⟨u, hu, hd⟩ := h.desc
  rw [hu]
  cases u <;> simp_all [descB]
theorem TyOk.string {P : Program} {t : TypeId} {i : TI} (h : TyOk P t i) (hs : i.cls = 2) : P.underlying t = some .string := by
  obtain ⟨u, hu, hd⟩ := h.desc
  rw [hu]
  cases u <;> simp_all [descB]
theorem TyOk.eqs {P : Program} {t : TypeId} {i : TI} (h : TyOk P t i) {cs : List Nat} (hs : i.eqs = some cs) :
    ∃ fs, P.underlying t = some (.struct fs) ∧ P.stoodInHeld t = false ∧ P.eqGuardType P.depth t = false ∧ eqsB P fs.toList cs 0 = true := by
  obtain ⟨u, hu, hd⟩ := h.desc
  cases u with
  | struct fs =>
    simp only [descB, Bool.and_eq_true] at hd
    have he := hd.1.2
    simp only [hs, eqB, Bool.and_eq_true, Bool.not_eq_true'] at he
    exact ⟨fs, hu, he.1.1, he.1.2, he.2⟩
  | _ => simp_all [descB]
theorem TyOk.struct {P : Program} {t : TypeId} {i : TI} (h : TyOk P t i) (ha : i.agg = true) : ∃ fs, P.underlying t = some (.struct fs) ∧ fieldsB P i.size fs.toList i.fields = true := by
  obtain ⟨u, hu, hd⟩ := h.desc
  cases u with
  | struct fs => simp only [descB, Bool.and_eq_true] at hd; exact ⟨fs, hu, hd.2⟩
  | _ => simp_all [descB]
theorem TyOk.agg_of_field {P : Program} {t : TypeId} {i : TI} (h : TyOk P t i) (hf : i.fields ≠ []) : i.agg = true := by
  obtain ⟨u, hu, hd⟩ := h.desc
  cases u <;> simp_all [descB]

/-! ### What a value at hand looks like -/
variable {C : Ctx} {w : World} {S : Nat → Prop} {ι : Hist}
theorem rd_v {a v : Value} (h : Rd w S (.v a) v) : v = a ∧ plain a = true := by cases h; exact ⟨rfl, by assumption⟩
theorem cvr_v {a v : Value} (h : CVR C w S ι (.d (.v a)) v) : v = a ∧ plain a = true := by cases h with | d h => exact rd_v h
theorem tvr_v {a v : Value} (h : TVR C w S ι (.c (.d (.v a))) v) : v = a ∧ plain a = true := by cases h with | c h => exact cvr_v h
theorem tvr_c {x : CV} {v : Value} (h : TVR C w S ι (.c x) v) : CVR C w S ι x v := by cases h; assumption
theorem tvr_mk {a : Value} (h : plain a = true) : TVR C w S ι (.c (.d (.v a))) a := .c (.d (.v h))
theorem rd_one {x : D} {v : Value} (h : Rd w S x v) : v.oneCell' = true := by
  cases h with
  | v h => cases v <;> simp_all [plain, Value.oneCell']
  | e => rfl
  | l => rfl
theorem cvr_one {x : CV} {v : Value} (h : CVR C w S ι x v) : v.oneCell' = true := by
  cases h with
  | d h => exact rd_one h
  | _ => rfl
theorem cells_of_one {v : Value} (h : v.oneCell' = true) : v.cells = #[v] := by cases v <;> simp_all [Value.oneCell', Value.cells]
theorem cvr_cells {x : CV} {v : Value} (h : CVR C w S ι x v) : v.cells = #[v] := cells_of_one (cvr_one h)
theorem geti_eq (tm : List TV) (t : Nat) : geti tm t = (tm[t]?).getD .junk := by
  induction tm generalizing t with
  | nil => simp [geti]
  | cons x s ih => cases t <;> simp [geti, ih]
theorem seti_eq (tm : List TV) (t : Nat) (x : TV) : seti tm t x = tm.set t x := by
  induction tm generalizing t with
  | nil => simp [seti]
  | cons y s ih => cases t <;> simp [seti, ih]
theorem constCV_spec {v : Value} {x : CV} (h : constCV v = some x) : CVR C w S ι x v := by
  unfold constCV at h
  split at h
  · injection h with h; subst h; exact .nil
  · split at h
    · injection h with h; subst h; exact .d (.v (by assumption))
    · cases h
theorem constCVs_spec : ∀ {vs : List Value} {l : List CV}, constCVs vs = some l → l.length = vs.length ∧ ∀ (j : Nat) (x : CV), l[j]? = some x → ∃ v : Value, vs[j]? = some v ∧ CVR C w S ι x v
  | [], l, h => by simp [constCVs] at h; subst h; exact ⟨rfl, fun j x hx => by simp at hx⟩
  | v :: r, l, h => by
    simp only [constCVs] at h
    split at h
    · rename_i y l' h1 h2
      injection h with h
      subst h
      obtain ⟨hl, hr⟩ := constCVs_spec h2
      refine ⟨by simp [hl], fun j x hx => ?_⟩
      cases j with
      | zero => simp at hx; subst hx; exact ⟨v, rfl, constCV_spec h1⟩
      | succ j => exact hr j x (by simpa using hx)
    · cases h
theorem constTV_spec (v : Value) : TVR C w S ι (constTV v) v := by
  unfold constTV
  split
  · rename_i cs
    unfold tvAgg
    split
    · rename_i l hl
      obtain ⟨h1, h2⟩ := constCVs_spec (C := C) (w := w) (S := S) (ι := ι) hl
      refine .agg (by simpa using h1.symm) fun j x hx => ?_
      obtain ⟨u, hu, hc⟩ := h2 j x hx
      have : cs.getD j undef = u := by
        simp only [Array.getElem?_toList] at hu
        simp [Array.getD_eq_getD_getElem?, hu]
      rw [this]
      exact hc
    · exact .junk
  · unfold tvOne
    split
    · rename_i x hx
      exact .c (constCV_spec hx)
    · exact .junk
theorem ev_spec {tm : List TV} {a : Act} (h : TmR C w S ι tm a.tmps) (x : Operand) : TVR C w S ι (ev tm x) (a.eval x) := by
  cases x with
  | tmp t =>
    simp only [ev, Act.eval, geti_eq]
    cases ht : tm[t]? with
    | none => exact .junk
    | some y => exact h.2 t y ht
  | const v => exact constTV_spec v
  | global g => exact .junk
  | func f => exact .c (.fn rfl (fun i x hx => by simp at hx))
end Go.Proofs.VL
