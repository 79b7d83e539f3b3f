/- VoteHeard (law 18), proved whole: for every id, epoch and how, whatever lies in memory, the law returns true and its arguments read as before. Conditions: none beyond the row. -/
import Derived.Test.YtoclhejbhefgeaaXU
import Derived.Test.YtoclhejbhefgeaaXT
import Derived.Test.YtoclhejbhefgeaaRows
namespace Go.Proofs.Ytoclhejbhefgeaa.voteHeardP
open Go Go.Proofs.VL Go.ChangeShapes Go.WideShapes Go.ChangeAt Go.RowKit
set_option linter.unusedVariables false
set_option maxRecDepth 100000
theorem params4 : Try.f4.params = #[5, 5, 5] := by kernel_rfl
theorem u5 : Try.prog.underlying 5 = some (.int .u8) := (tabOk 5 _ tt_5).intk rfl
theorem u4 : Try.prog.underlying 4 = some .bool := (tabOk 4 _ tt_4).bool rfl
theorem byteOf {a : Int} (w1 : (Lit.int .u8 a).wf = true) : 0 ≤ a ∧ a < 256 := by
  have : 0 ≤ a ∧ a ≤ 255 := by simpa [Lit.wf, IntKind.min, IntKind.max, IntKind.signed, IntKind.bits] using w1
  omega
theorem contract (H : Type) (enc : TypeId × Value → H) (W : World) (base : Nat) (args : Array Value) (ds gs : List (DataW H)) (before : List MemPlace)
    (hval : ∀ (j : Nat) t v, Try.f4.params[j]? = some t → args[j]? = some v → Value.okWide Try.prog W .any base t v)
    (hW : DataW.Whole enc Try.prog Try.f4.params.toList Rows.voteHeardSpec.vars false W args.toList ds gs before) :
    Calls Try.prog 4 args W fun e W' => ∃ v, e = .returned v ∧ Rows.voteHeardSpec.post enc Try.prog Try.f4 false true false false W args v W' := by
  have hW' := hW
  obtain ⟨p, q, hA0, hV, rfl, hfz, hnd⟩ := hW
  have hA : DataW.TrodAll enc Try.prog W 0 (fun _ => true) true Try.f4.params.toList args.toList ds p := hA0
  rw [params4] at hA hval
  obtain ⟨v0, vs0, d0, ds0, p0, q0, hargs, rfl, rfl, h0, r0⟩ := trodAll_cons hA
  obtain ⟨v1, vs1, d1, ds1, p1, q1, rfl, rfl, rfl, h1, r1⟩ := trodAll_cons r0
  obtain ⟨v2, vs2, d2, ds2, p2, q2, rfl, rfl, rfl, h2, r2⟩ := trodAll_cons r1
  obtain ⟨rfl, rfl, rfl⟩ := trodAll_nil r2
  obtain rfl : args = #[v0, v1, v2] := by cases args; simp_all
  obtain ⟨rfl, rfl⟩ := trodVars_none hV
  obtain ⟨a0, rfl, rfl, rfl, w0⟩ := open_int u5 (hval 0 5 v0 rfl rfl) h0
  obtain ⟨a1, rfl, rfl, rfl, w1⟩ := open_int u5 (hval 1 5 v1 rfl rfl) h1
  obtain ⟨a2, rfl, rfl, rfl, w2⟩ := open_int u5 (hval 2 5 v2 rfl rfl) h2
  have b0 := byteOf w0
  have b1 := byteOf w1
  have b2 := byteOf w2
  clear hA0
  simp only [List.append_nil] at hW'
  refine ((f4_calls a0 a1 a2 b0.1 b0.2 b1.1 b1.2 b2.1 b2.2).run W #[.int .u8 a0, .int .u8 a1, .int .u8 a2] rfl (fun i x hx => by
    match i, hx with
    | 0, hx => cases hx; exact Door.int W .u8 a0
    | 1, hx => cases hx; exact Door.int W .u8 a1
    | 2, hx => cases hx; exact Door.int W .u8 a2
    | i + 3, hx => simp at hx)).mono fun e W' ⟨he, hg⟩ => ?_
  subst he
  have hk := hg.kept (· ∈ ([] : List MemPlace))
  exact ⟨_, rfl, post_same_old (pa := []) (pv := []) hW' (fun _ _ _ => trodAll_cons_mk (shut_bool u4 _) trodAll_mk0) (fun sp _ => trodAll_cons_mk (shut_int u5 w0) (trodAll_cons_mk (shut_int u5 w1) (trodAll_cons_mk (shut_int u5 w2) trodAll_mk0))) (fun _ _ => rfl) rfl hk.1 hk.2 (ok_one (by kernel_rfl) rfl (okWide_bool_mk u4 _))⟩
theorem own : ownKnob Try.prog.godebug = none := by kernel_rfl
theorem func4 : Try.prog.funcs[4]? = some Try.f4 := by kernel_rfl
theorem lifted (os : Os) (started : os.Started) (H : Type) (enc : TypeId × Value → H) :
    ReturnsInHanded {} Try.checked os 4 .any (Rows.voteHeardSpec.pre6 enc Try.prog Try.f4 Rows.voteHeardRow.domain false) (Rows.voteHeardSpec.post enc Try.prog Try.f4 false true false false) := by
  refine returnsInHanded_of_change (C := Try.checked) own started (by kernel_rfl) func4
    (ChangeSpec.witness6 (enc := enc) (C := Try.checked) false ⟨#[], #[.int .u8 0, .int .u8 0, .int .u8 0], []⟩ 8 (by kernel_rfl) (by kernel_rfl) (by kernel_rfl) (by kernel_rfl)) ?_
  intro W base args ds gs before hval hW _ _
  exact contract H enc W base args ds gs before hval hW
theorem proved : Rows.VoteHeardSaid :=
  OpenClaim.holds_of_wide 4 Try.f4 rfl rfl rfl rfl rfl rfl rfl ⟨rfl, rfl, rfl, rfl, rfl⟩ rfl rfl rfl rfl rfl (by kernel_rfl) func4 (by kernel_rfl)
    (of_decide_eq_true (by kernel_rfl)) (by unfold Func.isWrapper; first | (rw [if_pos (by decide +kernel)]; kernel_rfl) | (rw [if_neg (by decide +kernel)]; exact ⟨rfl, rfl⟩))
    (fun os started H enc _ => lifted os started H enc)
#print axioms proved
end Go.Proofs.Ytoclhejbhefgeaa.voteHeardP
