/- The value level is sound, 9: one operation. -/
import Derived.Test.YtoclhejbhefgeaaVJ
set_option linter.unusedVariables false
set_option linter.unusedSimpArgs false
namespace Go.Proofs.VL
open Go

variable {C : Ctx} {w : World} {S : Nat → Prop} {ι : Hist} {P : Program} {tt : Tab} {st : Store} {nx nx' : Nat} {out : List (List D)} {tk : Nat}

/-- What an operation gives, where its demands are met. -/
def OpRes.gives : OpRes → TV → Upd → List Nat → Prop
  | .ok tv u r, tv', u', r' => tv = tv' ∧ u = u' ∧ r = r'
  | .need p tv u r, tv', u', r' => p ∧ tv = tv' ∧ u = u' ∧ r = r'
  | _, _, _, _ => False

theorem gives_need {x : OpRes} {p : Prop} {tv tv' : TV} {u u' : Upd} {r r' : List Nat} (h : x = .need p tv' u' r') (hg : x.gives tv u r) : p ∧ x = .need p tv u r := by
  subst h; obtain ⟨h, rfl, rfl, rfl⟩ := hg; exact ⟨h, rfl⟩
/-- Either a plain answer, or one under a demand. -/
theorem gives_cases {x : OpRes} {tv : TV} {u : Upd} {r : List Nat} (h : x.gives tv u r) : x = .ok tv u r ∨ ∃ p, p ∧ x = .need p tv u r := by
  cases x with
  | ok => obtain ⟨rfl, rfl, rfl⟩ := h; exact .inl rfl
  | need p => obtain ⟨hp, rfl, rfl, rfl⟩ := h; exact .inr ⟨p, hp, rfl⟩
  | _ => exact h.elim
theorem gives_okOf {o : Option TV} {tv : TV} {u : Upd} {r : List Nat} (h : (okOf o).gives tv u r) : o = some tv ∧ u = [] ∧ r = [] := by
  cases o with
  | none => exact h.elim
  | some x => obtain ⟨rfl, rfl, rfl⟩ := h; exact ⟨rfl, rfl, rfl⟩

/-- What an operation that is carried out owes. -/
def Does (C : Ctx) (P : Program) (a : Act) (o : Oper) (st' : Store) (nx' : Nat) (out : List (List D)) (w : World) (ι : Hist) (S : Nat → Prop) (tk : Nat) (tv : TV) : Prop :=
  ∃ nv v w', (execOp a.eval o).run P w = .ok nv w' ∧ nextVal nv = some v ∧ Out C st' nx' out w ι S tk tv v w'

theorem Does.still {a : Act} {o : Oper} {tv : TV} {v : Value} (A : At C st nx nx' out w ι S tk) (h : (execOp a.eval o).run P w = .ok (.value v) w) (hv : TVR C w S ι tv v) : Does C P a o (supd st []) nx' out w ι S tk tv :=
  ⟨_, v, w, h, rfl, Out.same A.h A.le hv⟩

theorem vstore_sound (A : At C st nx nx' out w ι S tk) (hT : TabOk P tt) {T : TypeId} {ta tx tv : TV} {va vx : Value} {u : Upd} {r : List Nat} (ha : TVR C w S ι ta va) (hx : TVR C w S ι tx vx) (hg : (vstore st (tt T) ta (cellsOf tx)).gives tv u r) :
    ∃ w', (Instr.storeAt T va vx).run P w = .ok () w' ∧ Out C (supd st u) nx' out w ι S tk tv undef w' := by
  unfold vstore at hg
  split at hg
  · rename_i i t off xs hi hc
    have hcs := cellsOf_sound hx hc
    unfold vstoreAt at hg
    split at hg
    · rename_i T' cs hr
      split at hg
      · rename_i hq
        obtain ⟨rfl, rfl, rfl⟩ := hg
        exact store_box A (hT T i hi) hr hcs hq.1 hq.2 (tvr_c ha)
      · exact hg.elim
    · exact hg.elim
  · rename_i i t n off xs hi hc
    have hcs := cellsOf_sound hx hc
    unfold vstoreEl at hg
    split at hg
    · rename_i ys g e k es hd hr
      obtain ⟨⟨h1, h2, h3, h4, h5⟩, rfl, rfl, rfl⟩ := hg
      exact store_el A (hT T i hi) hr hd hcs h1 h2 h3 h4 h5 (tvr_c ha)
    · exact hg.elim
  · exact hg.elim

theorem optR_map {tm : List TV} {a : Act} (hev : ∀ x, TVR C w S ι (ev tm x) (a.eval x)) (x : Option Operand) : OptR C w S ι (x.map (ev tm)) (x.map a.eval) := by
  cases x with
  | none => trivial
  | some x => exact hev x

theorem vstep_sound (A : At C st nx nx' out w ι S tk) (hT : TabOk P tt) {tm : List TV} {a : Act} (htm : TmR C w S ι tm a.tmps) (o : Oper) {tv : TV} {u : Upd} {r : List Nat} (hg : (vstep tt tm st tk o.op).gives tv u r) :
    Does C P a o (supd st u) nx' out w ι S tk tv := by
  have hev := ev_spec htm
  have hpure : ∀ {u r}, (okOf (vpure tt tm o.op)).gives tv u r → Does C P a o (supd st u) nx' out w ι S tk tv := by
    intro u r hg
    obtain ⟨h, rfl, rfl⟩ := gives_okOf hg
    obtain ⟨v, hv, hr⟩ := vpure_sound hT htm h
    exact Does.still A hv hr
  obtain ⟨dst, op, ty, pos, aft, gd⟩ := o
  cases op <;> simp only [vstep] at hg <;> (try exact hpure hg)
  case alloc T =>
    rcases gives_cases hg with hg | ⟨p, hp, hg⟩
    · obtain ⟨v, w', h1, h2⟩ := valloc_sound A hT hg
      exact ⟨.value v, v, w', by simp [execOp, h1], rfl, h2⟩
    · unfold valloc at hg; split at hg <;> cases hg
  case box T x =>
    rcases gives_cases hg with hg | ⟨p, hp, hg⟩
    · obtain ⟨v, w', h1, h2⟩ := vbox_sound (P := P) A (hev x) hg
      exact ⟨.value v, v, w', by simp [execOp, h1], rfl, h2⟩
    · unfold vbox at hg; (repeat' split at hg) <;> cases hg
  case buildSlice T n parts =>
    rcases gives_cases hg with hg | ⟨p, hp, hg⟩
    · unfold vbuildSlice at hg
      split at hg
      · unfold vbsl at hg; split at hg <;> cases hg
      · cases hg
    · obtain ⟨v, w', h1, h2⟩ := vbuildSlice_sound A hT (ps := parts.map fun p => (p.1, a.eval p.2)) (by simpa using parts_ev hev parts.toList) hp hg
      refine ⟨.value v, v, w', ?_, rfl, h2⟩
      simp only [execOp, Sem.run_bind]
      rw [h1]
      simp
  case makeSlice T n c =>
    rcases gives_cases hg with hg | ⟨p, hp, hg⟩
    · unfold vmakeSlice at hg; split at hg <;> cases hg
    · obtain ⟨v, w', h1, h2⟩ := vmakeSlice_sound A hT (hev n) (hev c) hp hg
      exact ⟨.value v, v, w', by simp [execOp, h1], rfl, h2⟩
  case load T x =>
    rcases gives_cases hg with hg | ⟨p, hp, hg⟩
    · obtain ⟨rfl, v, h1, h2⟩ := vload_sound (p := True) A hT (hev x) trivial (.inl hg)
      exact Does.still A (by simp [execOp, h1]) h2
    · obtain ⟨rfl, v, h1, h2⟩ := vload_sound (p := p) A hT (hev x) hp (.inr hg)
      exact Does.still A (by simp [execOp, h1]) h2
  case store T x y =>
    obtain ⟨w', h1, h2⟩ := vstore_sound A hT (hev x) (hev y) hg
    exact ⟨.skip, undef, w', by simp [execOp, h1], rfl, h2⟩
  case indexAddr T x j =>
    rcases gives_cases hg with hg | ⟨p, hp, hg⟩
    · unfold vindex at hg
      split at hg
      · cases hg
      · cases hg
      · unfold vindexOwn at hg; split at hg <;> cases hg
      · cases hg
    · obtain ⟨rfl, v, h1, h2⟩ := vindex_sound A hT (hev x) (hev j) hp hg
      exact Does.still A (by simp [execOp, h1]) h2
  case slice T x lo hi mx =>
    cases mx with
    | some m => exact hg.elim
    | none =>
      simp only [vsliceop] at hg
      rcases gives_cases hg with hg | ⟨p, hp, hg⟩
      · unfold vslice at hg
        split at hg
        · unfold vslice2 at hg; split at hg <;> cases hg
        · unfold vslice2 at hg; split at hg <;> cases hg
        · cases hg
      · obtain ⟨rfl, v, h1, h2⟩ := vslice_sound (P := P) hT (hev x) (optR_map hev lo) (optR_map hev hi) hp hg
        exact Does.still A (by simp [execOp, h1]) h2
  case call c =>
    obtain ⟨callee, args, ats⟩ := c
    cases callee with
    | invoke _ _ => exact hg.elim
    | value f =>
      simp only [vcallc] at hg
      unfold vcallv at hg
      split at hg <;> exact hg.elim
    | builtin b =>
      simp only [vcallc] at hg
      unfold vbuiltin at hg
      split at hg
      · rename_i x hx
        split at hg
        · rename_i T hT1
          obtain ⟨h, rfl, rfl⟩ := gives_okOf hg
          cases hl : args.toList with
          | nil => simp [hl] at hx
          | cons y l =>
            cases l with
            | cons _ _ => simp [hl] at hx
            | nil =>
              have ha : args = #[y] := by apply Array.ext'; simpa using hl
              subst ha
              simp at hx
              subst hx
              obtain ⟨v, hv, hr⟩ := vlen_sound (U := ty) hT (hev y) h
              have hat : ats = #[T] := by apply Array.ext'; simpa using hT1
              subst hat
              exact Does.still A (by simp [execOp, resolve, invoke, builtin, hv]) hr
        · exact hg.elim
      · rename_i l
        obtain ⟨h, rfl, rfl⟩ := gives_okOf hg
        cases hl : args.toList with
        | nil => rw [hl] at h; simp [vfold] at h
        | cons y r =>
          rw [hl] at h
          simp only [List.map_cons] at h
          obtain ⟨v, hv, hr⟩ := fold_sound (P := P) (C := C) (w := w) (S := S) (ι := ι) (fun a b c h => vmin2_sound (P := P) (w := w) h) (r.map (ev tm)) (ev tm y) (r.map a.eval) (a.eval y) tv (by simp) (fun i z hz => by
            rw [List.getElem?_map] at hz ⊢
            cases hq : r[i]? with
            | none => simp [hq] at hz
            | some q => simp [hq] at hz; subst hz; exact ⟨_, rfl, hev q⟩) (hev y) h
          have ha : args = (y :: r).toArray := by apply Array.ext'; simpa using hl
          subst ha
          exact Does.still A (by simp only [execOp, resolve, invoke, builtin, Sem.run_bind, Sem.run_pure, Result.andThen_ok, Builtin.min_, List.map_toArray, List.map_cons]; rw [hv]; rfl) hr
      · rename_i l
        obtain ⟨h, rfl, rfl⟩ := gives_okOf hg
        cases hl : args.toList with
        | nil => rw [hl] at h; simp [vfold] at h
        | cons y r =>
          rw [hl] at h
          simp only [List.map_cons] at h
          obtain ⟨v, hv, hr⟩ := fold_sound (P := P) (C := C) (w := w) (S := S) (ι := ι) (fun a b c h => vmax2_sound (P := P) (w := w) h) (r.map (ev tm)) (ev tm y) (r.map a.eval) (a.eval y) tv (by simp) (fun i z hz => by
            rw [List.getElem?_map] at hz ⊢
            cases hq : r[i]? with
            | none => simp [hq] at hz
            | some q => simp [hq] at hz; subst hz; exact ⟨_, rfl, hev q⟩) (hev y) h
          have ha : args = (y :: r).toArray := by apply Array.ext'; simpa using hl
          subst ha
          exact Does.still A (by simp only [execOp, resolve, invoke, builtin, Sem.run_bind, Sem.run_pure, Result.andThen_ok, Builtin.max_, List.map_toArray, List.map_cons]; rw [hv]; rfl) hr
      · rename_i s x hx
        split at hg
        · rename_i T T' hT1
          split at hg
          · rename_i hTT
            subst hTT
            split at hg
            · rename_i e j he
              cases hl : args.toList with
              | nil => simp [hl] at hx
              | cons y l =>
                cases l with
                | nil => simp [hl] at hx
                | cons z l =>
                  cases l with
                  | cons _ _ => simp [hl] at hx
                  | nil =>
                    have ha : args = #[y, z] := by apply Array.ext'; simpa using hl
                    subst ha
                    simp at hx
                    obtain ⟨rfl, rfl⟩ := hx
                    have hat : ats = #[T, T] := by apply Array.ext'; simpa using hT1
                    subst hat
                    rcases gives_cases hg with hg | ⟨p, hp, hg⟩
                    · unfold vappend at hg
                      split at hg
                      · cases hg
                      · unfold vappOwn at hg; split at hg <;> cases hg
                      · cases hg
                    · obtain ⟨v, w', h1, h2⟩ := vappend_sound (T2 := ty) A hT he (hev y) (hev z) hp hg
                      exact ⟨.value v, v, w', by simp [execOp, resolve, invoke, builtin, h1], rfl, h2⟩
            · exact hg.elim
          · exact hg.elim
        · exact hg.elim
      · exact hg.elim

end Go.Proofs.VL
