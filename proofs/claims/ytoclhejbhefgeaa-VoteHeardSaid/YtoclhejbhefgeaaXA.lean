/- The seat: its types are as the value level has them. -/
import Derived.Test.YtoclhejbhefgeaaVR
import Derived.Test.YtoclhejbhefgeaaVT
namespace Go.Proofs.Ytoclhejbhefgeaa
open Go Go.Proofs.VL
set_option maxRecDepth 100000

theorem tabB : ((List.range 200).all fun t => match tt t with | some i => tyB Try.prog t i | none => true) = true := by kernel_rfl
theorem tt_lt {t : Nat} {i : TI} (h : tt t = some i) : t < 200 := by
  unfold tt at h
  split at h <;> first | omega | cases h
theorem tabOk : TabOk Try.prog tt := by
  intro t i h
  have h1 := List.all_eq_true.1 tabB t (by simpa using tt_lt h)
  rw [h] at h1
  exact tyB_spec h1
theorem mixed : Try.prog.follows .mixedOrders = true := by kernel_rfl
#print axioms tabOk
#print axioms mixed
end Go.Proofs.Ytoclhejbhefgeaa
