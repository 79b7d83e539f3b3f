/- The value level: a loop over states. -/
import Derived.Test.YtoclhejbhefgeaaVR
set_option linter.unusedVariables false
namespace Go.Proofs.VL
open Go
variable {P : Program} {tt : Tab}

/-- A LOOP, BY STATES: 'mk' is the frame of a state. -/
theorem VLp_of {σ : Type} (mk : σ → Env) (inv : σ → Prop) (m : σ → Nat) (s0 : σ) {c : Code} {Q : Exit → Env → Prop} {E : Env} (h0 : Wk E (mk s0)) (hi : inv s0)
    (h : ∀ s, inv s → vwp P tt c (VSeq (fun E'' => ∃ s', Wk E'' (mk s') ∧ inv s' ∧ m s' < m s) Q) (mk s)) : VLp P tt c Q E := by
  let I : Env → Prop := fun E => ∃ s, inv s ∧ mk s = E
  let M : Env → Nat → Prop := fun E k => ∃ s, inv s ∧ mk s = E ∧ m s = k
  have hex : ∀ E, ∃ k, I E → (M E k ∧ ∀ j, M E j → k ≤ j) := fun E => by
    by_cases hI : I E
    · obtain ⟨s, h1, h2⟩ := hI
      obtain ⟨k, hk⟩ := least (M E) (m s) ⟨s, h1, h2, rfl⟩
      exact ⟨k, fun _ => hk⟩
    · exact ⟨0, fun h' => absurd h' hI⟩
  refine ⟨I, fun E => Classical.choose (hex E), mk s0, h0, ⟨s0, hi, rfl⟩, fun E' hI => ?_⟩
  obtain ⟨⟨s, h1, h2, h3⟩, _⟩ := Classical.choose_spec (hex E') hI
  subst h2
  refine vwp_mono P tt c ?_ (h s h1)
  intro e E'' hq
  cases e with
  | normal =>
    obtain ⟨s', q1, q2, q3⟩ := hq
    refine ⟨mk s', q1, ⟨s', q2, rfl⟩, ?_⟩
    have := (Classical.choose_spec (hex (mk s')) ⟨s', q2, rfl⟩).2 _ ⟨s', q2, rfl, rfl⟩
    show Classical.choose (hex (mk s')) < Classical.choose (hex (mk s))
    omega
  | _ => exact hq
/-- A call, by a contract. -/
theorem VPend_of {full : Array Oper} {draw : Bool} {Q : Exit → Env → Prop} {rest : List Oper} {i : Nat} {tm : List TV} {st : Store} {out : List (List D)} {nx : Nat} {acc : List (List Nat × List Nat)} {f : FuncId} {args cargs : List TV} {dst : Option Nat} {cst rst : Store} {res : TV}
    (hc : VCalls P f cargs cst res rst) (h1 : passTs st args cargs) (h2 : cst = cstOf st (ownsC (flatTs args) (flatTs cargs))) (h3 : disB (flatTs args) (flatTs cargs) = true) (h4 : nodupB (rst.map (·.1)) = true)
    (h : VOps P tt full draw Q rest (i + 1) (sett tm dst (renT (rho (keptP (ownsC (flatTs args) (flatTs cargs)) (rst.map (·.1))) (nx + 64 * i)) res)) (supd st (gone (takenC (flatTs args) (flatTs cargs)) ++ renS (rho (keptP (ownsC (flatTs args) (flatTs cargs)) (rst.map (·.1))) (nx + 64 * i)) rst)) out nx
      (((gone (takenC (flatTs args) (flatTs cargs)) ++ renS (rho (keptP (ownsC (flatTs args) (flatTs cargs)) (rst.map (·.1))) (nx + 64 * i)) rst).map (·.1), readC (flatTs args)) :: acc)) : VPend P tt full draw Q rest i tm st out nx acc f args dst :=
  ⟨_, _, _, ⟨cargs, cst, res, rst, hc, h1, h2, h3, h4, rfl, rfl, rfl⟩, h⟩
end Go.Proofs.VL
