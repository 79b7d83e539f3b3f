/- The value level is sound, 16: a function. -/
import Derived.Test.YtoclhejbhefgeaaVQ
set_option linter.unusedVariables false
set_option linter.unusedSimpArgs false
namespace Go.Proofs.VL
open Go

variable {C : Ctx} {w : World} {S : Nat → Prop} {ι : Hist} {P : Program} {tt : Tab} {st st' : Store} {nx nx' : Nat} {out : List (List D)} {tk : Nat} {tm tm' : List TV}

/-! ### Values that hold nothing borrowed -/
mutual
def lnC : CV → Bool
  | .bd _ => false
  | .ip _ => false
  | .yld => false
  | .fn _ cap => lnCs cap
  | _ => true
def lnCs : List CV → Bool
  | [] => true
  | x :: r => lnC x && lnCs r
end
mutual
def lnT : TV → Bool
  | .c x => lnC x
  | .agg l => lnCs l
  | .tup l => lnTs l
  | .junk => true
def lnTs : List TV → Bool
  | [] => true
  | x :: r => lnT x && lnTs r
end
def lnS : Store → Bool
  | [] => true
  | (_, .box _ cs) :: r => lnCs cs && lnS r
  | _ :: r => lnS r
theorem lnCs_get : ∀ {l : List CV}, lnCs l = true → ∀ (i : Nat) (x : CV), l[i]? = some x → lnC x = true
  | [], _, i, x, h => by simp at h
  | y :: r, h, i, x, hx => by
    simp only [lnCs, Bool.and_eq_true] at h
    cases i with
    | zero => simp at hx; subst hx; exact h.1
    | succ i => exact lnCs_get h.2 i x (by simpa using hx)
theorem lnTs_get : ∀ {l : List TV}, lnTs l = true → ∀ (i : Nat) (x : TV), l[i]? = some x → lnT x = true
  | [], _, i, x, h => by simp at h
  | y :: r, h, i, x, hx => by
    simp only [lnTs, Bool.and_eq_true] at h
    cases i with
    | zero => simp at hx; subst hx; exact h.1
    | succ i => exact lnTs_get h.2 i x (by simpa using hx)
theorem CVR.unlent (C' : Ctx) {x : CV} {v : Value} (h : CVR C w S ι x v) : lnC x = true → CVR C' w S ι x v := by
  induction h with
  | d h => intro _; exact .d h
  | nil => intro _; exact .nil
  | emp => intro _; exact .emp
  | bde => intro h; cases h
  | bd => intro h; cases h
  | own h => intro _; exact .own h
  | ptr h => intro _; exact .ptr h
  | ep h => intro _; exact .ep h
  | ip => intro h; cases h
  | fn h1 _ ih => intro h; exact .fn h1 fun i x hx => ih i x hx (lnCs_get h i x hx)
  | yld => intro h; cases h
theorem TVR.unlent (C' : Ctx) {x : TV} {v : Value} (h : TVR C w S ι x v) : lnT x = true → TVR C' w S ι x v := by
  induction h with
  | c h => intro hl; exact .c (h.unlent C' hl)
  | agg h1 h2 => intro hl; exact .agg h1 fun i x hx => (h2 i x hx).unlent C' (lnCs_get hl i x hx)
  | tup h1 _ ih => intro hl; exact .tup h1 fun i x hx => ih i x hx (lnTs_get hl i x hx)
  | junk => intro _; exact .junk
theorem lnS_get : ∀ {s : Store} {t : Nat} {T : TypeId} {cs : List CV}, lnS s = true → sget s t = some (.box T cs) → lnCs cs = true
  | (a, r) :: s, t, T, cs, h, hr => by
    simp only [sget] at hr
    split at hr
    · injection hr with hr
      subst hr
      simp only [lnS, Bool.and_eq_true] at h
      exact h.1
    · cases r with
      | box _ _ => simp only [lnS, Bool.and_eq_true] at h; exact lnS_get h.2 hr
      | sl _ _ _ => exact lnS_get (s := s) h hr
theorem StI.unlent (C' : Ctx) (hMy : C'.My = C.My) (hS0 : C'.S0 = C.S0) (hBw : ∀ b, ¬ C'.Bw b) {out' : List (List D)} (hFr : C'.Fr out' w) (h : StI C st nx out w ι S) (hl : lnS st = true) : StI C' st nx out' w ι S := by
  refine ⟨hFr, fun t r hr => ?_, h.sep, fun t r b hr hb => ?_, fun b hb => ?_, fun b hb => h.s0 b (hS0 ▸ hb), fun b hb => absurd hb (hBw b), h.nx, fun b hb => by rw [hMy]; exact h.my b hb⟩
  · cases h.row t r hr with
    | box h1 h2 h3 h4 => exact .box h1 h2 h3 fun i x hx => (h4 i x hx).unlent C' (lnCs_get (lnS_get hl hr) i x hx)
    | sl h1 h2 h3 h4 h5 => exact .sl h1 h2 h3 h4 h5
  · have := h.mine t r b hr hb
    exact ⟨by rw [hMy]; exact this.1, this.2.1, hBw b⟩
  · have := h.dat b hb
    exact ⟨this.1, by rw [hMy, hS0]; exact this.2⟩

/-! ### Results -/
def okTv : OpRes → Option TV
  | .ok tv _ _ => some tv
  | _ => none
def res1 (tt : Tab) (tm : List TV) (st : Store) : ResultVar → Option TV
  | .tmp t => some (geti tm t)
  | .cell a T => okTv (vload st (tt T) (geti tm a))
def consO (x : Option TV) (l : Option (List TV)) : Option (List TV) :=
  match x, l with
  | some x, some l => some (x :: l)
  | _, _ => none
def resN (tt : Tab) (tm : List TV) (st : Store) : List ResultVar → Option (List TV)
  | [] => some []
  | r :: rs => consO (res1 tt tm st r) (resN tt tm st rs)
def resOf : List TV → TV
  | [x] => x
  | l => .tup l
def VRetO (st : Store) (res : TV) (rst : Store) : Option (List TV) → Prop
  | some l => ∃ R : Ren, R.ok 64 = true ∧ coeS st R rst ∧ coeT st R (resOf l) res ∧ lnT res = true ∧ lnS rst = true
  | none => False
def VRet (tt : Tab) (rs : List ResultVar) (res : TV) (rst : Store) (E : Env) : Prop := VRetO E.st res rst (resN tt E.tm E.st rs)
def VPost (tt : Tab) (rs : List ResultVar) (res : TV) (rst : Store) : Exit → Env → Prop
  | .normal, E => VRet tt rs res rst E
  | .ret, E => VRet tt rs res rst E
  | _, _ => False

theorem At.of (hst : Stab C) (h : StI C st nx out w ι S) : At C st nx (nx + 64) out w ι S nx :=
  ⟨hst, h, fun t n ht _ => by
    cases hv : ι t n with
    | none => rfl
    | some v => have := h.nx t n v hv; omega, by omega, Nat.le_refl _⟩

def resF (tmps : Array Value) : ResultVar → Sem Value
  | .tmp t => pure (tmps.getD t undef)
  | .cell a t => do loadVar t (← asAddr (tmps.getD a undef))
theorem results_eq (fn : Func) (tmps : Array Value) : results fn tmps = (do
    let vs ← fn.results.mapM (resF tmps)
    pure (if h : vs.size = 1 then vs[0] else .tuple vs)) := by
  unfold results
  congr 1
theorem res1_sound (hT : TabOk P tt) (hst : Stab C) (h : StI C st nx out w ι S) {tmps : Array Value} (htm : TmR C w S ι tm tmps) {r : ResultVar} {tv : TV} (hr : res1 tt tm st r = some tv) :
    ∃ v, (resF tmps r).run P w = .ok v w ∧ TVR C w S ι tv v := by
  have hget : ∀ t, TVR C w S ι (geti tm t) (tmps.getD t undef) := fun t => ev_spec (a := ⟨tmps, []⟩) htm (.tmp t)
  cases r with
  | tmp t =>
    simp only [res1, Option.some.injEq] at hr
    subst hr
    exact ⟨_, rfl, hget t⟩
  | cell a T =>
    simp only [res1] at hr
    cases hv : vload st (tt T) (geti tm a) with
    | ok tv' u r =>
      rw [hv] at hr
      simp only [okTv, Option.some.injEq] at hr
      subst hr
      have hx := hget a
      obtain ⟨_, v, h1, h2⟩ := vload_sound (p := True) (At.of hst h) hT hx trivial (.inl hv)
      refine ⟨v, ?_, h2⟩
      have hp : ∃ ad, tmps.getD a undef = .pointer (some ad) := by
        generalize tmps.getD a undef = va at hx
        cases hi : tt T with
        | none => rw [hi] at hv; cases hg : geti tm a <;> simp [hg, vload] at hv
        | some i =>
          rw [hi] at hv
          cases hg : geti tm a with
          | c x =>
            rw [hg] at hv hx
            cases x with
            | ptr t o => cases tvr_c hx; exact ⟨_, rfl⟩
            | ep t n o => cases tvr_c hx; exact ⟨_, rfl⟩
            | ip cs => cases tvr_c hx; exact ⟨_, rfl⟩
            | _ => simp [vload] at hv
          | _ => rw [hg] at hv; simp [vload] at hv
      obtain ⟨ad, hva⟩ := hp
      rw [hva] at h1
      simp only [Instr.loadAt, Instr.sureAddr, Sem.run_bind, Sem.run_pure, Result.andThen_ok] at h1
      simp only [resF, hva, asAddr, Sem.run_bind, Sem.run_pure, Result.andThen_ok]
      exact h1
    | _ => rw [hv] at hr; simp [okTv] at hr

theorem resN_sound (hT : TabOk P tt) (hst : Stab C) (h : StI C st nx out w ι S) {tmps : Array Value} (htm : TmR C w S ι tm tmps) : ∀ (rs : List ResultVar) (l : List TV), resN tt tm st rs = some l →
    ∃ vs : List Value, (rs.mapM (resF tmps)).run P w = .ok vs w ∧ vs.length = l.length ∧
      ∀ (i : Nat) (x : TV), l[i]? = some x → ∃ v, vs[i]? = some v ∧ TVR C w S ι x v
  | [], l, hr => by
    simp only [resN, Option.some.injEq] at hr
    subst hr
    exact ⟨[], rfl, rfl, fun i x hx => by simp at hx⟩
  | r :: rs, l, hr => by
    simp only [resN] at hr
    cases h1 : res1 tt tm st r with
    | none => rw [h1] at hr; simp [consO] at hr
    | some x =>
      cases h2 : resN tt tm st rs with
      | none => rw [h1, h2] at hr; simp [consO] at hr
      | some l' =>
        rw [h1, h2] at hr
        simp only [consO, Option.some.injEq] at hr
        subst hr
        obtain ⟨v, hv, hvr⟩ := res1_sound hT hst h htm h1
        obtain ⟨vs, hvs, hlen, hall⟩ := resN_sound hT hst h htm rs l' h2
        refine ⟨v :: vs, ?_, by simp [hlen], fun i y hy => ?_⟩
        · rw [List.mapM_cons, Sem.run_bind, hv, Result.andThen_ok, Sem.run_bind, hvs, Result.andThen_ok, Sem.run_pure]
        · cases i with
          | zero => simp at hy; subst hy; exact ⟨v, rfl, hvr⟩
          | succ i => exact hall i y (by simpa using hy)

/-- A FUNCTION'S CONTRACT, FROM ITS BODY AT VALUE LEVEL. -/
theorem vcalls_of {f : FuncId} {fn : Func} {c : Code} (hT : TabOk P tt) (hm : P.follows .mixedOrders = true) (hf : P.funcs[f]? = some fn) (hname : (fn.name == "runtime.NumGoroutine") = false) (hb : fn.body = some c)
    {args args0 : List TV} {st st0 : Store} {res : TV} {rst : Store} (R0 : Ren) (h1 : R0.ok 64 = true) (h2 : coeS st R0 st0) (h3 : coeTs st R0 args args0)
    (hk : ∀ t, sget st t = none ∨ sget rst t = none)
    (h : vwp P tt c (VPost tt fn.results.toList res rst) ⟨args0 ++ List.replicate (fn.ntmps - args0.length) (.tup []), st0, [], 64⟩) : VCalls P f args st res rst := by
  refine ⟨⟨fn, c, hf, hname, hb⟩, fun w S Bw ι nx vs => ?_⟩
  intro C hI htm
  let My : Nat → Prop := fun b => w.heap.size ≤ b ∨ ∃ t r, sget st t = some r ∧ curBlk ι t r = some b
  let C1 : Ctx := { My := My, Fr := fun _ w' => Ext My w w', S0 := S, Bw := Bw, yl := undef, Dp := fun ds => ds = [] }
  have hst : Stab C1 := fun out a b h k => h.trans k
  have conv : ∀ {x : CV} {v : Value}, CVR C w S ι x v → CVR C1 w S ι x v := by
    intro x v hx
    induction hx with
    | d h => exact .d h
    | nil => exact .nil
    | emp => exact .emp
    | bde h => exact .bde h
    | bd h1 h2 h3 h4 h5 => exact .bd h1 h2 h3 h4 h5
    | own h => exact .own h
    | ptr h => exact .ptr h
    | ep h => exact .ep h
    | ip h1 h2 h3 => exact .ip h1 h2 h3
    | fn h1 _ ih => exact .fn h1 ih
    | yld h => cases h
  have convT : ∀ {x : TV} {v : Value}, TVR C w S ι x v → TVR C1 w S ι x v := by
    intro x v hx
    induction hx with
    | c h => exact .c (conv h)
    | agg h1 h2 => exact .agg h1 fun i x hx => conv (h2 i x hx)
    | tup h1 _ ih => exact .tup h1 ih
    | junk => exact .junk
  have hI1 : StI C1 st nx [] w ι S := ⟨Ext.refl _ _, fun t r hr => by
    cases hI.row t r hr with
    | box h1 h2 h3 h4 => exact .box h1 h2 h3 fun i x hx => conv (h4 i x hx)
    | sl h1 h2 h3 h4 h5 => exact .sl h1 h2 h3 h4 h5, hI.sep, hI.mine, hI.dat, hI.s0, hI.bw, hI.nx, hI.my⟩
  obtain ⟨S1, k1, k2, _, k4⟩ := coe_sound (Ren.ok_spec h1) hI1 h2
  have htm1 := k4 args args0 vs h3 ⟨htm.1, fun i x hx => convT (htm.2 i x hx)⟩
  have hstart : St C1 ⟨args0 ++ List.replicate (fn.ntmps - args0.length) (.tup []), st0, [], 64⟩ { tmps := vs ++ Array.replicate (fn.ntmps - vs.size) undef, defers := [] } w := by
    refine ⟨_, S1, k1, ⟨by simp [htm1.1], fun i x hx => ?_⟩, rfl⟩
    rw [List.getElem?_append] at hx
    rw [Array.getD_eq_getD_getElem?, Array.getElem?_append, htm1.1]
    split at hx
    · rename_i hi
      rw [if_pos hi]
      have := htm1.2 i x hx
      rw [Array.getD_eq_getD_getElem?] at this
      exact this
    · rename_i hi
      rw [if_neg hi]
      rw [List.getElem?_replicate] at hx
      split at hx
      · rename_i hj
        injection hx with hx
        subst hx
        rw [Array.getElem?_replicate, if_pos hj]
        exact .tup rfl fun i x hx => by simp at hx
      · cases hx
  refine callsIn_wide.1 (callsIn_of_wp (F := Fence.wide) (n := 0) hf hb trivial (wpIn_mono (vwp_sound (n := 0) hT hst hm c _ _ _ _ h hstart) fun e a' w' he => ?_))
  obtain ⟨E, hq, ι', S', g1, g2, g3⟩ := he
  have hret : VRet tt fn.results.toList res rst E → bodyPost P fn (fun e w' => ∃ v ι' S', e = .returned v ∧ Ext C.My w w' ∧ StI { C with Bw := fun _ => False } rst 64 [] w' ι' S' ∧ TVR { C with Bw := fun _ => False } w' S' ι' res v ∧ ∀ t n v, sget st t ≠ none → sget rst t ≠ none → ι t n = some v → ι' t n = some v) .ret a' w' := by
    intro hr
    unfold VRet at hr
    cases hl : resN tt E.tm E.st fn.results.toList with
    | none => rw [hl] at hr; exact hr.elim
    | some l =>
      rw [hl] at hr
      obtain ⟨R, r1, r2, r3, r4, r5⟩ := hr
      obtain ⟨us, hus, hulen, huall⟩ := resN_sound hT hst g1 g2 _ _ hl
      obtain ⟨S2, s1, s2, s3, _⟩ := coe_sound (Ren.ok_spec r1) g1 r2
      have hrun : (results fn a'.tmps).run P w' = .ok (if h : us.toArray.size = 1 then us.toArray[0] else .tuple us.toArray) w' := by
        rw [results_eq, Array.mapM_eq_mapM_toList]
        simp only [Sem.run_bind, Sem.run_map]
        rw [hus]
        rfl
      have hval : TVR C1 w' S' ι' (resOf l) (if h : us.toArray.size = 1 then us.toArray[0] else .tuple us.toArray) := by
        have htup : ∀ l : List TV, us.length = l.length → (∀ (i : Nat) (x : TV), l[i]? = some x → ∃ v, us[i]? = some v ∧ TVR C1 w' S' ι' x v) → TVR C1 w' S' ι' (.tup l) (.tuple us.toArray) := fun l h1 h2 => by
          refine .tup (by simpa using h1) fun i x hx => ?_
          obtain ⟨v, hv, hr⟩ := h2 i x hx
          rw [arr_getD (v := v) (by simpa using hv)]
          exact hr
        match l, hulen, huall with
        | [], h1, h2 =>
          rw [dif_neg (by simp at h1; simp [h1])]
          exact htup [] h1 h2
        | [x], h1, h2 =>
          rw [dif_pos (by simpa using h1)]
          obtain ⟨v, hv, hr⟩ := h2 0 x rfl
          have : us.toArray[0]'(by simp at h1; simp [h1]) = v := by
            rw [List.getElem_toArray]
            exact (List.getElem?_eq_some_iff.1 hv).2
          rw [this]
          exact hr
        | x :: y :: r, h1, h2 =>
          rw [dif_neg (by simp at h1; simp [h1])]
          exact htup _ h1 h2
      exact ⟨g3, _, hrun, _, _, S2, rfl, s1.fr, StI.unlent (C := C1) { C with Bw := fun _ => False } rfl rfl (fun b h => h) trivial s1 r5, (s3 _ _ _ r3 hval).unlent _ r4, fun t n v q1 q2 _ => ((hk t).elim (fun h => absurd h q1) fun h => absurd h q2)⟩
  cases e with
  | normal => exact hret hq
  | ret => exact hret hq
  | _ => exact hq.elim

end Go.Proofs.VL
