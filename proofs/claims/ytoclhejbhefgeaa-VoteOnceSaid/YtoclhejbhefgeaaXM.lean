/- VoteOnce (law 18), proved whole: for every list of asks and every id, whatever lies in memory beside them, the law returns true and its arguments read as before. Conditions: none beyond the row. -/
import Derived.Test.YtoclhejbhefgeaaXK
import Derived.Test.YtoclhejbhefgeaaRows
namespace Go.Proofs.Ytoclhejbhefgeaa.voteOnceP
open Go Go.Proofs.VL Go.ChangeShapes Go.WideShapes Go.ChangeAt Go.RowKit
set_option linter.unusedVariables false
set_option maxRecDepth 100000
theorem params3 : Try.f3.params = #[22, 5] := by kernel_rfl
theorem u22 : Try.prog.underlying 22 = some (.slice 5) := (tabOk 22 _ tt_22).slice rfl
theorem u5 : Try.prog.underlying 5 = some (.int .u8) := (tabOk 5 _ tt_5).intk rfl
theorem u4 : Try.prog.underlying 4 = some .bool := (tabOk 4 _ tt_4).bool rfl
theorem cells5 : Try.prog.cellsOf 5 = 1 := by kernel_rfl

theorem contract (H : Type) (enc : TypeId × Value → H) (W : World) (base : Nat) (args : Array Value) (ds gs : List (DataW H)) (before : List MemPlace)
    (hval : ∀ (j : Nat) t v, Try.f3.params[j]? = some t → args[j]? = some v → Value.okWide Try.prog W .any base t v)
    (hW : DataW.Whole enc Try.prog Try.f3.params.toList Rows.voteOnceSpec.vars false W args.toList ds gs before) :
    Calls Try.prog 3 args W fun e W' => ∃ v, e = .returned v ∧ Rows.voteOnceSpec.post enc Try.prog Try.f3 false true false false W args v W' := by
  have hW' := hW
  obtain ⟨p, q, hA0, hV, rfl, hfz, hnd⟩ := hW
  have hA : DataW.TrodAll enc Try.prog W 0 (fun _ => true) true Try.f3.params.toList args.toList ds p := hA0
  rw [params3] at hA hval
  obtain ⟨v0, vs0, d0, ds0, p0, q0, hargs, rfl, rfl, h0, r0⟩ := trodAll_cons hA
  obtain ⟨v1, vs1, d1, ds1, p1, q1, rfl, rfl, rfl, h1, r1⟩ := trodAll_cons r0
  obtain ⟨rfl, rfl, rfl⟩ := trodAll_nil r1
  obtain rfl : args = #[v0, v1] := by cases args; simp_all
  obtain ⟨rfl, rfl⟩ := trodVars_none hV
  obtain ⟨a1, rfl, rfl, rfl, w1⟩ := open_int u5 (hval 1 5 v1 rfl rfl) h1
  have hid : 0 ≤ a1 ∧ a1 < 256 := by
    have : 0 ≤ a1 ∧ a1 ≤ 255 := by simpa [Lit.wf, IntKind.min, IntKind.max, IntKind.signed, IntKind.bits] using w1
    omega
  obtain ⟨a0, len, cap, rfl⟩ := okWide_slice u22 (hval 0 22 v0 rfl rfl)
  obtain ⟨fuel, hf⟩ := h0
  clear hA0
  simp only [List.append_nil] at hW'
  rcases open_ints u22 u5 cells5 hf with ⟨hcs, hx⟩ | ⟨a, len', cap', zs, hcs, _, hl, hm, hz, hx, hcell, hwz⟩
  · simp [Value.cells] at hcs
    obtain ⟨rfl, rfl, rfl⟩ := hcs
    simp only [Prod.mk.injEq] at hx
    obtain ⟨rfl, rfl⟩ := hx
    refine (voteOnce_run [] a1 (by simp) hid.1 hid.2 W _ (.inl ⟨rfl, rfl⟩)).mono fun e W' ⟨he, hg⟩ => ?_
    subst he
    have hk := hg.kept (· ∈ ([] : List MemPlace))
    exact ⟨_, rfl, post_same_old (pa := []) (pv := []) hW' (fun _ _ _ => trodAll_cons_mk (shut_bool u4 _) trodAll_mk0) (fun sp _ => trodAll_cons_mk (shut_slice_nil u22) (trodAll_cons_mk (shut_int u5 w1) trodAll_mk0)) (fun _ _ => rfl) rfl hk.1 hk.2 (ok_one (by kernel_rfl) rfl (okWide_bool_mk u4 _))⟩
  · simp [Value.cells] at hcs
    obtain ⟨rfl, rfl, rfl⟩ := hcs
    simp only [Prod.mk.injEq] at hx
    obtain ⟨rfl, rfl⟩ := hx
    simp only [if_true] at hz
    have hlt : (zs.take len).length = len := by simp; omega
    have hrun := voteOnce_run (zs.take len) a1 (fun x hx => by
      have := hwz x (List.mem_of_mem_take hx)
      have : 0 ≤ x ∧ x ≤ 255 := by simpa [Lit.wf, IntKind.min, IntKind.max, IntKind.signed, IntKind.bits] using this
      omega) hid.1 hid.2 W (.slice (some a) len cap) (.inr ⟨a, cap, by rw [hlt], by rw [hlt]; exact hl, hm, fun i hi => by
        rw [hlt] at hi
        rw [hcell i (by omega)]
        congr 2
        simp [List.getD, List.getElem?_take, hi]⟩)
    refine hrun.mono fun e W' ⟨he, hg⟩ => ?_
    subst he
    have hk := hg.kept (· ∈ MemPlace.row a zs.length)
    have hcell' : ∀ i, i < zs.length → W'.cell? (a.add i) = some (.int .u8 (zs.getD i 0)) := fun i hi => by
      have h0 := hcell i hi
      have hb : a.block < W.heap.size := by
        cases hh : W.heap[a.block]? with
        | none => rw [World.cell?, add_block, hh] at h0; cases h0
        | some o => exact (Array.getElem?_eq_some_iff.1 hh).1
      rw [cell_same (w := W) (by rw [add_block]; exact hg.block a.block hb (by omega))]
      exact h0
    have again : ∀ sp : Nat → Bool, (∀ p ∈ MemPlace.row a zs.length, sp p.block = true) → DataW.Trod enc Try.prog W' 0 sp true 22 (.slice (some a) len cap) (.slice (lits .u8 (zs.take len)) (lits .u8 (zs.drop len))) (MemPlace.row a zs.length) := by
      intro sp hsp
      by_cases hz0 : zs.length = 0
      · have hc0 : cap = 0 := by omega
        have hl0 : len = 0 := by omega
        subst hc0; subst hl0
        have t0 := shut_ints (enc := enc) (w := W') (base := 0) (spare := sp) (held := true) (a := a) (len := 0) (cap := 0) (zs := zs) 0 u22 u5 cells5 (Nat.zero_le _) (Nat.le_refl _) hm (by simp [hz0]) hcell' hwz
        exact ⟨2, by simpa [Value.cells] using t0⟩
      · have hspb : sp a.block = true := by
          have := hsp (.cell a.block a.off) (MemPlace.mem_row.2 ⟨0, by omega, by simp⟩)
          exact this
        have t0 := shut_ints (enc := enc) (w := W') (base := 0) (spare := sp) (held := true) (a := a) (len := len) (cap := cap) (zs := zs) 0 u22 u5 cells5 (Nat.zero_le _) hl hm (by simp [hspb, hz]) hcell' hwz
        exact ⟨2, by simpa [Value.cells] using t0⟩
    exact ⟨_, rfl, post_same_old (pa := MemPlace.row a zs.length) (pv := []) hW' (fun _ _ _ => trodAll_cons_mk (shut_bool u4 _) trodAll_mk0)
      (fun sp hsp => by
        have t := trodAll_cons_mk (again sp (fun p hp => hsp p (by simpa using hp))) (trodAll_cons_mk (shut_int u5 w1) trodAll_mk0)
        simpa [params3, Rows.voteOnceSpec] using t) (fun _ _ => rfl) (by simp) (by simpa using hk.1) hk.2 (ok_one (by kernel_rfl) rfl (okWide_bool_mk u4 _))⟩
theorem own : ownKnob Try.prog.godebug = none := by kernel_rfl
theorem func3 : Try.prog.funcs[3]? = some Try.f3 := by kernel_rfl
theorem lifted (os : Os) (started : os.Started) (H : Type) (enc : TypeId × Value → H) :
    ReturnsInHanded {} Try.checked os 3 .any (Rows.voteOnceSpec.pre6 enc Try.prog Try.f3 Rows.voteOnceRow.domain false) (Rows.voteOnceSpec.post enc Try.prog Try.f3 false true false false) := by
  refine returnsInHanded_of_change (C := Try.checked) own started (by kernel_rfl) func3
    (ChangeSpec.witness6 (enc := enc) (C := Try.checked) false ⟨#[], #[.slice none 0 0, .int .u8 0], []⟩ 8 (by kernel_rfl) (by kernel_rfl) (by kernel_rfl) (by kernel_rfl)) ?_
  intro W base args ds gs before hval hW _ _
  exact contract H enc W base args ds gs before hval hW
theorem proved : Rows.VoteOnceSaid :=
  OpenClaim.holds_of_wide 3 Try.f3 rfl rfl rfl rfl rfl rfl rfl ⟨rfl, rfl, rfl, rfl, rfl⟩ rfl rfl rfl rfl rfl (by kernel_rfl) func3 (by kernel_rfl)
    (of_decide_eq_true (by kernel_rfl)) (by unfold Func.isWrapper; first | (rw [if_pos (by decide +kernel)]; kernel_rfl) | (rw [if_neg (by decide +kernel)]; exact ⟨rfl, rfl⟩))
    (fun os started H enc _ => lifted os started H enc)
#print axioms proved
end Go.Proofs.Ytoclhejbhefgeaa.voteOnceP
