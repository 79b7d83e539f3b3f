/- Law 18: from the value level to a row. -/
import Derived.Test.YtoclhejbhefgeaaXJ
import Derived.WalkKit
import Derived.ProofKit
import Derived.OpenShut
import Derived.JoinedCond
namespace Go.Proofs.VL
open Go Go.ChangeShapes Go.WideShapes Go.ChangeAt Go.RowKit
set_option linter.unusedVariables false

/-- 'post_of_same', asking of old blocks alone that nothing new is frozen. -/
theorem post_same_old {H : Type} {enc : TypeId × Value → H} {P : Program} {f : Func} {s : ChangeSpec} {apart fresh handsOn again : Bool} {W W' : World} {args : Array Value} {v : Value} {ds gs : List (DataW H)} {before pa pv : List MemPlace}
    (hW : DataW.Whole enc P f.params.toList s.vars apart W args.toList ds gs before)
    (hres : ∀ (b : Nat) (sp : Nat → Bool) (hd : Bool), DataW.TrodAll enc P W' b sp hd f.resultTypes.toList (v.resultList f.resultTypes.size) (s.fn H (ds ++ gs)).results [])
    (hargs : ∀ sp : Nat → Bool, (∀ p ∈ before, sp p.block = true) → DataW.TrodAll enc P W' 0 sp true f.params.toList args.toList (s.fn H (ds ++ gs)).args pa)
    (hvars : ∀ sp : Nat → Bool, (∀ p ∈ before, sp p.block = true) → DataW.TrodVars enc P W' sp s.vars (s.fn H (ds ++ gs)).vars pv)
    (hps : before = pa ++ pv) (hk : W.keptBut W' (· ∈ before)) (hfz : ∀ a : Addr, a.block < W.heap.size → W'.frozen? a = W.frozen? a)
    (hok : ∀ (j : Nat) (t : TypeId) (r : Value), f.resultTypes[j]? = some t → (v.resultList f.resultTypes.size)[j]? = some r → Value.okWide P W' .any 0 t r) :
    s.post enc P f apart fresh handsOn again W args v W' := by
  have hlt := hW.lt
  have hold : ∀ p ∈ before, (fun b => decide (b < W.heap.size)) p.block = true := fun p hp => by simpa using hW.lt p hp
  refine ⟨ds, gs, before, [], pa, pv, hW, hres _ _ _, hargs _ hold, hvars _ hold, World.keptBut_mono (fun p hp => ⟨hp, ?_⟩) hk, fun _ => ?_⟩
  · rw [hps, List.mem_append] at hp
    exact Or.inr hp
  · obtain ⟨_, _, _, _, _, hz, hn⟩ := hW
    refine ⟨hok, _, _, ([] ++ pa) ++ pv, ⟨[] ++ pa, pv, trodAll_append (hargs _ (fun _ _ => rfl)) (hres _ _ _), hvars _ (fun _ _ => rfl), rfl, ?_, ?_⟩, ?_⟩
    · intro b off hp
      have hp' : MemPlace.cell b off ∈ before := by rw [hps]; simpa using hp
      rw [hfz _ (hlt _ hp')]
      exact hz b off hp'
    · intro ha
      have := hn ha
      rw [hps] at this
      simpa using this
    · intro p hp _
      rw [hps]
      simpa using hp
/-- What the value level says of the old world. -/
theorem Ext.kept {w w' : World} (h : Ext (fun b => w.heap.size ≤ b) w w') (may : MemPlace → Prop) : w.keptBut w' may ∧ ∀ a : Addr, a.block < w.heap.size → w'.frozen? a = w.frozen? a := by
  have hb : ∀ b, b < w.heap.size → w'.heap[b]? = w.heap[b]? := fun b hlt => h.block b hlt (by omega)
  refine ⟨⟨h.os, h.output, fun i hi => ?_⟩, fun a ha => by simp [World.frozen?, hb a.block ha]⟩
  rw [hb i hi]
  cases w.heap[i]? with
  | none => rfl
  | some o => cases o <;> simp
end Go.Proofs.VL
namespace Go.Proofs.Ytoclhejbhefgeaa
open Go Go.Proofs.VL
/-- VoteOnce, in the machine: at bytes that can be read. -/
theorem voteOnce_run (asks : List Int) (id : Int) (ha : ∀ x ∈ asks, 0 ≤ x ∧ x < 256) (hi0 : 0 ≤ id) (hi : id < 256) (w : World) (v0 : Value)
    (hv : v0 = .slice none 0 0 ∧ asks = [] ∨ ∃ (a : Addr) (cap : Nat), v0 = .slice (some a) asks.length cap ∧ asks.length ≤ cap ∧ cap ≤ maxLen ∧ ∀ i, i < asks.length → w.cell? (a.add i) = some (.int .u8 (asks.getD i 0))) :
    Calls Try.prog 3 #[v0, .int .u8 id] w fun e w' => e = .returned (.bool true) ∧ Ext (fun b => w.heap.size ≤ b) w w' := by
  have hmain := (f3_calls asks id ha hi0 hi).2 w (fun b => b < w.heap.size) (fun _ => False) (fun _ _ => none) 0 #[v0, .int .u8 id]
  have h2 := hmain ⟨trivial, fun t r hr => by simp [sget] at hr, fun t t' r r' b hr => by simp [sget] at hr, fun t r b hr => by simp [sget] at hr, fun b hb => ⟨hb, .inl hb⟩, fun b hb => hb, fun b hb => hb.elim, fun t n v h => (by cases h), fun b hb => .inl hb⟩
    ⟨rfl, fun i x hx => by
      match i, hx with
      | 0, hx =>
        simp at hx
        subst hx
        refine .c ?_
        show CVR _ w _ _ (.bd (dby asks)) v0
        rcases hv with ⟨rfl, rfl⟩ | ⟨a, cap, rfl, hle, hcap, hc⟩
        · exact .bde fun _ => rfl
        · rcases Nat.eq_zero_or_pos asks.length with h0 | h0
          · have : asks = [] := List.eq_nil_of_length_eq_zero h0
            subst this
            exact .bde fun h => by cases h
          · have hc0 := hc 0 h0
            rw [show a.add 0 = a from by simp [Addr.add]] at hc0
            have hsp : a.spot = none := by
              cases hs : a.spot with
              | none => rfl
              | some s => simp only [World.cell?, hs] at hc0; split at hc0 <;> simp at hc0
            have hlt : a.block < w.heap.size := by
              cases hh : w.heap[a.block]? with
              | none => simp only [World.cell?, hh] at hc0; cases hc0
              | some o => exact (Array.getElem?_eq_some_iff.1 hh).1
            have hlen := dby_len asks
            rw [← hlen]
            refine .bd hsp (.inl hlt) (by rw [hlen]; exact hle) (by simp only [maxLen] at hcap; omega) fun j x hx => ?_
            rw [dby_flat, List.getElem?_map] at hx
            cases hj : asks[j]? with
            | none => simp [hj] at hx
            | some y =>
              simp [hj] at hx
              subst hx
              have hjl := (List.getElem?_eq_some_iff.1 hj).1
              refine ⟨_, hc j hjl, ?_⟩
              have : asks.getD j 0 = y := by simp [List.getD, hj]
              rw [this]
              exact .v rfl
      | 1, hx =>
        simp at hx
        subst hx
        exact tvr_mk rfl
      | i + 2, hx => simp at hx⟩
  refine h2.mono fun e w' he => ?_
  obtain ⟨v, ι', S', rfl, hx, _, hr, _⟩ := he
  have := (tvr_v hr).1
  subst this
  refine ⟨rfl, ⟨hx.os, hx.tape, hx.output, hx.size, fun b hb hn => hx.block b hb fun hm => ?_⟩⟩
  rcases hm with hm | ⟨t, r, hr, _⟩
  · exact hn hm
  · simp [sget] at hr
#print axioms voteOnce_run
end Go.Proofs.Ytoclhejbhefgeaa
