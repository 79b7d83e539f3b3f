/- The value level is sound, 14: code. -/
import Derived.Test.YtoclhejbhefgeaaVO
import Derived.Scope
set_option linter.unusedVariables false
set_option linter.unusedSimpArgs false
namespace Go.Proofs.VL
open Go

variable {C : Ctx} {w : World} {S : Nat → Prop} {ι : Hist} {P : Program} {tt : Tab} {st st' : Store} {nx nx' : Nat} {out : List (List D)} {tk : Nat} {tm tm' : List TV}

/-- A post-condition at value level, in the machine. -/
def Lift (C : Ctx) (Q : Exit → Env → Prop) (e : Exit) (a : Act) (w : World) : Prop := ∃ E, Q e E ∧ St C E a w

theorem region_sound {n : Nat} (hT : TabOk P tt) (hst : Stab C) (hm : P.follows .mixedOrders = true) {Q : Exit → Env → Prop} {id : Nat} {full : Array Oper} {draw : Bool} {E : Env} {a : Act}
    (h : VOps P tt full draw Q full.toList 0 E.tm E.st E.out E.nx []) (hs : St C E a w) : (Code.region id full draw).wpIn Fence.wide n P (Lift C Q) a w := by
  obtain ⟨L, hL, hch, hok, hQ⟩ := VOps_chain _ _ _ _ _ h
  have hlen : L.length = full.size := by have := congrArg List.length hL; simpa using this
  obtain ⟨ι, S, h1, h2, h3⟩ := hs
  have hfree : ∀ k t n, E.nx + 64 * k ≤ t → t < E.nx + 64 * k + 64 → ι t n = none := fun k t n ht _ => by
    cases hv : ι t n with
    | none => rfl
    | some v => have := h1.nx t n v hv; omega
  have hX0 : ∀ (L : List (Oper × Eff)) (i : Nat) (s : List TV × Store), appX (fun _ => false) L i s = s := by
    intro L
    induction L with
    | nil => intro i s; rfl
    | cons p L ih => intro i s; obtain ⟨o, e⟩ := p; simp only [appX, Bool.false_eq_true, if_false]; exact ih _ _
  have hfin : ∀ a w, RI C E.out E.nx (E.nx + 64 * full.size) (appX (fun _ => true) L 0 (E.tm, E.st)) (fun k => decide (k < full.size)) a w → Lift C Q .normal a w := by
    intro a w ⟨ι, S, q1, q2, q3, _⟩
    exact ⟨_, hQ, ι, S, q1, q2, q3⟩
  cases draw with
  | false =>
    refine wpIn_region ?_
    rw [List.range_eq_range']
    refine region_text hT hst hL rfl hch hfin full.size 0 a w (by omega) ⟨ι, S, ?_, ?_, h3, fun k _ t n => hfree k t n⟩
    · have : (fun k => decide (k < 0)) = fun _ => false := by funext k; simp
      rw [this, hX0]
      exact h1.more (by omega)
    · have : (fun k => decide (k < 0)) = fun _ => false := by funext k; simp
      rw [this, hX0]
      exact h2
  | true =>
    refine wpIn_region_any hm ?_
    have hset : setOf (Array.replicate full.size false) = fun _ => false := by
      funext k
      simp only [setOf, Array.getD_eq_getD_getElem?, Array.getElem?_replicate]
      split <;> rfl
    refine region_any hT hst hL rfl hch (by simpa using hok rfl) hfin full.size (Array.replicate full.size false) a _ (by simp) ?_ ?_ ?_
    · have : ∀ n, (List.replicate n false).countP (fun x => x == false) = n := by
        intro n
        induction n with
        | zero => rfl
        | succ n ih => rw [List.replicate_succ, List.countP_cons, ih]; rfl
      simp only [unlisted, Array.toList_replicate]
      exact (this _).symm
    · rw [hset]; intro k o hk; cases hk
    · rw [hset, hX0]
      exact ⟨ι, S, (h1.more (by omega)).drew hst, h2.later (Later.drew C w S ι), h3, fun k _ t n => hfree k t n⟩

theorem least (p : Nat → Prop) : ∀ m, p m → ∃ k, p k ∧ ∀ j, p j → k ≤ j := by
  intro m
  induction m using Nat.strongRecOn with
  | ind m ih =>
    intro hm
    by_cases h : ∃ j, p j ∧ j < m
    · obtain ⟨j, hj, hlt⟩ := h
      exact ih j hlt hj
    · exact ⟨m, hm, fun j hj => Nat.le_of_not_lt fun hlt => h ⟨j, hj, hlt⟩⟩

theorem vwp_sound {n : Nat} (hT : TabOk P tt) (hst : Stab C) (hm : P.follows .mixedOrders = true) : ∀ (c : Code) (Q : Exit → Env → Prop) (E : Env) (a : Act) (w : World), vwp P tt c Q E → St C E a w → c.wpIn Fence.wide n P (Lift C Q) a w := by
  intro c
  induction c with
  | skip => intro Q E a w h hs; exact wpIn_skip ⟨E, h, hs⟩
  | label l => intro Q E a w h hs; exact wpIn_label ⟨E, h, hs⟩
  | exit id => intro Q E a w h hs; exact wpIn_exit ⟨E, h, hs⟩
  | ret => intro Q E a w h hs; exact wpIn_ret ⟨E, h, hs⟩
  | region id ops draw => intro Q E a w h hs; exact region_sound hT hst hm h hs
  | seq x y ihx ihy =>
    intro Q E a w h hs
    refine wpIn_seq (wpIn_mono (ihx _ E a w h hs) fun e a w he => ?_)
    obtain ⟨E', hq, hs'⟩ := he
    cases e with
    | normal => exact ihy _ E' a w hq hs'
    | _ => exact ⟨E', hq, hs'⟩
  | block id c ih =>
    intro Q E a w h hs
    refine wpIn_block (wpIn_mono (ih _ E a w h hs) fun e a w he => ?_)
    obtain ⟨E', hq, hs'⟩ := he
    cases e with
    | exit id' =>
      simp only [VBlk] at hq
      simp only [Exit.inBlock]
      split at hq
      · rename_i hid; rw [if_pos hid]; exact ⟨E', hq, hs'⟩
      · rename_i hid; rw [if_neg hid]; exact ⟨E', hq, hs'⟩
    | _ => exact ⟨E', hq, hs'⟩
  | cond c x y ihx ihy =>
    intro Q E a w h hs
    simp only [vwp] at h
    split at h
    · rename_i t ht
      have ht := wantBool_spec ht
      have hev : a.eval c = .bool t := by
        obtain ⟨ι, S, _, h2, _⟩ := hs
        have := ev_spec h2 c
        rw [ht] at this
        exact (tvr_v this).1
      have hfix : fixc E.tm c t = E.tm := by
        cases c with
        | tmp d => exact seti_self ht
        | _ => rfl
      refine wpIn_cond hev ?_
      cases t with
      | true => have := h.1 rfl; rw [hfix] at this; exact ihx _ _ a w this hs
      | false => have := h.2 rfl; rw [hfix] at this; exact ihy _ _ a w this hs
    · exact h.elim
  | scope c ih =>
    intro Q E a w h hs
    refine wpIn_wide.2 (wp_scope_straight ((wpIn_wide (n := n)).1 (wpIn_mono (ih _ E a w h hs) fun e a w he => ?_)))
    obtain ⟨E', hq, hs'⟩ := he
    cases e with
    | goto l => exact hq.elim
    | _ => exact ⟨E', hq, hs'⟩
  | loop c ih =>
    intro Q E a w h hs
    obtain ⟨I, μ, E0, hw, hI, hround⟩ := h
    classical
    let J : Act → World → Prop := fun a w => ∃ E, I E ∧ St C E a w
    let M : Act → World → Nat → Prop := fun a w m => ∃ E, I E ∧ St C E a w ∧ μ E = m
    have hex : ∀ a w, ∃ k, J a w → (M a w k ∧ ∀ j, M a w j → k ≤ j) := fun a w => by
      by_cases h : J a w
      · obtain ⟨E, h1, h2⟩ := h
        obtain ⟨k, hk⟩ := least (M a w) (μ E) ⟨E, h1, h2, rfl⟩
        exact ⟨k, fun _ => hk⟩
      · exact ⟨0, fun h' => absurd h' h⟩
    let ν : Act → World → Nat := fun a w => Classical.choose (hex a w)
    have hν : ∀ a w, J a w → ∃ E, I E ∧ St C E a w ∧ μ E = ν a w := fun a w h => (Classical.choose_spec (hex a w) h).1
    have hle : ∀ a w E, I E → St C E a w → ν a w ≤ μ E := fun a w E h1 h2 => (Classical.choose_spec (hex a w) ⟨E, h1, h2⟩).2 _ ⟨E, h1, h2, rfl⟩
    refine wpIn_loop J ν ⟨E0, hI, hw C a w hs⟩ fun a w hJ => ?_
    obtain ⟨E', h1, h2, h3⟩ := hν a w hJ
    refine wpIn_mono (ih _ E' a w (hround E' h1) h2) fun e a' w' he => ?_
    obtain ⟨E'', hq, hs'⟩ := he
    cases e with
    | normal =>
      obtain ⟨E3, hw3, hI3, hlt⟩ := hq
      have hs3 := hw3 C a' w' hs'
      exact ⟨⟨E3, hI3, hs3⟩, by have := hle a' w' E3 hI3 hs3; omega⟩
    | _ => exact ⟨E'', hq, hs'⟩
  | _ => intro Q E a w h hs; exact h.elim

end Go.Proofs.VL
