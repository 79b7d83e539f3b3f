/- Law 18: from the value level to a row: any arguments. -/
import Derived.Test.YtoclhejbhefgeaaXK
namespace Go.Proofs.VL
open Go
set_option linter.unusedVariables false
/-- What an argument is read as, at the door of a law: all old blocks are data. -/
abbrev doorC (w : World) : Ctx := { My := fun b => w.heap.size ≤ b, Fr := fun _ _ => True, S0 := fun b => b < w.heap.size, Bw := fun _ => False, yl := undef, Dp := fun _ => True }
abbrev Door (w : World) (x : TV) (v : Value) : Prop := TVR (doorC w) w (fun b => b < w.heap.size) (fun _ _ => none) x v
theorem Door.int (w : World) (k : IntKind) (n : Int) : Door w (.c (.d (.v (.int k n)))) (.int k n) := tvr_mk rfl
def dnum (k : IntKind) (l : List Int) : List (List D) := l.map fun x => [.v (.int k x)]
theorem dnum_len (k : IntKind) (l : List Int) : (dnum k l).length = l.length := by simp [dnum]
theorem dnum_flat (k : IntKind) (l : List Int) : (dnum k l).flatten = l.map fun x => D.v (.int k x) := by
  unfold dnum
  induction l with
  | nil => rfl
  | cons x r ih => simp [ih]
/-- A slice of numbers. -/
theorem Door.nums (w : World) (k : IntKind) (l : List Int) (v0 : Value)
    (hv : v0 = .slice none 0 0 ∧ l = [] ∨ ∃ (a : Addr) (cap : Nat), v0 = .slice (some a) l.length cap ∧ l.length ≤ cap ∧ cap ≤ maxLen ∧ ∀ i, i < l.length → w.cell? (a.add i) = some (.int k (l.getD i 0))) :
    Door w (.c (.bd (dnum k l))) v0 := by
  refine .c ?_
  rcases hv with ⟨rfl, rfl⟩ | ⟨a, cap, rfl, hle, hcap, hc⟩
  · exact .bde fun _ => rfl
  · rcases Nat.eq_zero_or_pos l.length with h0 | h0
    · have : l = [] := List.eq_nil_of_length_eq_zero h0
      subst this
      exact .bde fun h => by cases h
    · have hc0 := hc 0 h0
      rw [show a.add 0 = a from by simp [Addr.add]] at hc0
      have hsp : a.spot = none := by
        cases hs : a.spot with
        | none => rfl
        | some s => simp only [World.cell?, hs] at hc0; split at hc0 <;> simp at hc0
      have hlt : a.block < w.heap.size := by
        cases hh : w.heap[a.block]? with
        | none => simp only [World.cell?, hh] at hc0; cases hc0
        | some o => exact (Array.getElem?_eq_some_iff.1 hh).1
      have hlen := dnum_len k l
      rw [← hlen]
      refine .bd hsp (.inl hlt) (by rw [hlen]; exact hle) (by simp only [maxLen] at hcap; omega) fun j x hx => ?_
      rw [dnum_flat, List.getElem?_map] at hx
      cases hj : l[j]? with
      | none => simp [hj] at hx
      | some y =>
        simp [hj] at hx
        subst hx
        have hjl := (List.getElem?_eq_some_iff.1 hj).1
        refine ⟨_, hc j hjl, ?_⟩
        have : l.getD j 0 = y := by simp [List.getD, hj]
        rw [this]
        exact .v rfl
/-- A law that answers true, in the machine. -/
theorem VCalls.run {P : Program} {f : FuncId} {args : List TV} (h : VCalls P f args [] (boo true) []) (w : World) (vs : Array Value) (hs : vs.size = args.length) (ht : ∀ (i : Nat) (x : TV), args[i]? = some x → Door w x (vs.getD i undef)) :
    Calls P f vs w fun e w' => e = .returned (.bool true) ∧ Ext (fun b => w.heap.size ≤ b) w w' := by
  have h2 := h.2 w (fun b => b < w.heap.size) (fun _ => False) (fun _ _ => none) 0 vs
    ⟨trivial, fun t r hr => by simp [sget] at hr, fun t t' r r' b hr => by simp [sget] at hr, fun t r b hr => by simp [sget] at hr, fun b hb => ⟨hb, .inl hb⟩, fun b hb => hb, fun b hb => hb.elim, fun t n v h => (by cases h), fun b hb => .inl hb⟩
    ⟨hs, fun i x hx => by
      have conv : ∀ {x : CV} {v : Value}, CVR (doorC w) w (fun b => b < w.heap.size) (fun _ _ => none) x v → CVR { My := fun b => w.heap.size ≤ b ∨ ∃ t r, sget [] t = some r ∧ curBlk (fun _ _ => none) t r = some b, Fr := fun _ _ => True, S0 := fun b => b < w.heap.size, Bw := fun _ => False, yl := undef, Dp := fun _ => True } w (fun b => b < w.heap.size) (fun _ _ => none) x v := by
        intro x v hx
        induction hx with
        | d h => exact .d h
        | nil => exact .nil
        | emp => exact .emp
        | bde h => exact .bde h
        | bd h1 h2 h3 h4 h5 => exact .bd h1 h2 h3 h4 h5
        | own h => exact .own h
        | ptr h => exact .ptr h
        | ep h => exact .ep h
        | ip h1 h2 h3 => exact .ip h1 h2 h3
        | fn h1 _ ih => exact .fn h1 ih
        | yld h => cases h
      have convT : ∀ {x : TV} {v : Value}, Door w x v → TVR { My := fun b => w.heap.size ≤ b ∨ ∃ t r, sget [] t = some r ∧ curBlk (fun _ _ => none) t r = some b, Fr := fun _ _ => True, S0 := fun b => b < w.heap.size, Bw := fun _ => False, yl := undef, Dp := fun _ => True } w (fun b => b < w.heap.size) (fun _ _ => none) x v := by
        intro x v hx
        induction hx with
        | c h => exact .c (conv h)
        | agg h1 h2 => exact .agg h1 fun i x hx => conv (h2 i x hx)
        | tup h1 _ ih => exact .tup h1 ih
        | junk => exact .junk
      exact convT (ht i x hx)⟩
  refine h2.mono fun e w' he => ?_
  obtain ⟨v, ι', S', rfl, hx, _, hr, _⟩ := he
  have := (tvr_v hr).1
  subst this
  refine ⟨rfl, ⟨hx.os, hx.tape, hx.output, hx.size, fun b hb hn => hx.block b hb fun hm => ?_⟩⟩
  rcases hm with hm | ⟨t, r, hr, _⟩
  · exact hn hm
  · simp [sget] at hr
end Go.Proofs.VL
