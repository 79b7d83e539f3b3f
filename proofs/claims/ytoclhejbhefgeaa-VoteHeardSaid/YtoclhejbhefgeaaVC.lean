/- The value level is sound, 1: what values and rows keep when the world turns; the types' facts. -/
import Derived.Test.YtoclhejbhefgeaaVB
import Derived.Laws.OwnMore
import Derived.Maps.AppendAt
set_option linter.unusedVariables false
set_option linter.unusedSimpArgs false
namespace Go.Proofs.VL
open Go

theorem add_block (a : Addr) (n : Nat) : (a.add n).block = a.block := by unfold Addr.add; split <;> rfl
theorem add_spot (a : Addr) (n : Nat) (h : a.spot = none) : (a.add n).spot = none := by unfold Addr.add; split <;> simp [h]
theorem add_add (a : Addr) (i j : Nat) : (a.add i).add j = a.add (i + j) := by
  unfold Addr.add
  by_cases hi : i = 0 <;> by_cases hj : j = 0 <;> simp [hi, hj, Nat.add_assoc]
theorem add_flat (g o n : Nat) : (⟨g, o, none⟩ : Addr).add n = ⟨g, o + n, none⟩ := by unfold Addr.add; split <;> simp_all
theorem cell_same {w w' : World} {a : Addr} (h : w'.heap[a.block]? = w.heap[a.block]?) : w'.cell? a = w.cell? a := World.cell?_of_block h

theorem Rd.mono {w w' : World} {S S' : Nat → Prop} (hS : ∀ b, S b → S' b) (hw : ∀ b, S b → w'.heap[b]? = w.heap[b]?) {x : D} {v : Value} (h : Rd w S x v) : Rd w' S' x v := by
  induction h with
  | v h => exact .v h
  | e h => exact .e h
  | l h1 h2 h3 h4 h5 h6 ih =>
    refine .l h1 (hS _ h2) h3 h4 (fun j x hx => ?_) ih
    rw [cell_same (w := w) (by rw [add_block]; exact hw _ h2)]
    exact h5 j x hx
theorem RdAt.mono {w w' : World} {S S' : Nat → Prop} (hS : ∀ b, S b → S' b) (hw : ∀ b, S b → w'.heap[b]? = w.heap[b]?) {ad : Addr} {cs : List D} (hb : w'.heap[ad.block]? = w.heap[ad.block]?)
    (h : RdAt w S ad cs) : RdAt w' S' ad cs := by
  intro j x hx
  obtain ⟨u, h1, h2⟩ := h j x hx
  exact ⟨u, by rw [cell_same (w := w) (by rw [add_block]; exact hb)]; exact h1, h2.mono hS hw⟩

/-- From one state to a later one. -/
structure Later (C : Ctx) (w w' : World) (S S' : Nat → Prop) (ι ι' : Hist) : Prop where
  s : ∀ b, S b → S' b
  w : ∀ b, S b ∨ C.Bw b → w'.heap[b]? = w.heap[b]?
  i : ∀ t n v, ι t n = some v → ι' t n = some v
theorem Later.refl (C : Ctx) (w : World) (S : Nat → Prop) (ι : Hist) : Later C w w S S ι ι := ⟨fun _ h => h, fun _ _ => rfl, fun _ _ _ h => h⟩
theorem Later.trans {C : Ctx} {w w' w'' : World} {S S' S'' : Nat → Prop} {ι ι' ι'' : Hist} (h : Later C w w' S S' ι ι') (k : Later C w' w'' S' S'' ι' ι'') : Later C w w'' S S'' ι ι'' :=
  ⟨fun b hb => k.s b (h.s b hb), fun b hb => (k.w b (hb.imp (h.s b) id)).trans (h.w b hb), fun t n v hv => k.i t n v (h.i t n v hv)⟩

variable {C : Ctx} {w w' : World} {S S' : Nat → Prop} {ι ι' : Hist}
theorem Rd.later (L : Later C w w' S S' ι ι') {x : D} {v : Value} (h : Rd w S x v) : Rd w' S' x v := h.mono L.s fun b hb => L.w b (.inl hb)
theorem RdAt.later (L : Later C w w' S S' ι ι') {ad : Addr} {cs : List D} (hb : S ad.block ∨ C.Bw ad.block) (h : RdAt w S ad cs) : RdAt w' S' ad cs :=
  h.mono L.s (fun b hb => L.w b (.inl hb)) (L.w _ hb)
theorem CVR.later (L : Later C w w' S S' ι ι') {x : CV} {v : Value} (h : CVR C w S ι x v) : CVR C w' S' ι' x v := by
  induction h with
  | d h => exact .d (h.later L)
  | nil => exact .nil
  | emp => exact .emp
  | bde h => exact .bde h
  | bd h1 h2 h3 h4 h5 => exact .bd h1 (h2.imp (L.s _) id) h3 h4 (h5.later L h2)
  | own h => exact .own (L.i _ _ _ h)
  | ptr h => exact .ptr (L.i _ _ _ h)
  | ep h => exact .ep (L.i _ _ _ h)
  | ip h1 h2 h3 => exact .ip h1 (h2.imp (L.s _) id) (h3.later L h2)
  | fn h1 _ ih => exact .fn h1 ih
  | yld h => exact .yld h
theorem TVR.later (L : Later C w w' S S' ι ι') {x : TV} {v : Value} (h : TVR C w S ι x v) : TVR C w' S' ι' x v := by
  induction h with
  | c h => exact .c (h.later L)
  | agg h1 h2 => exact .agg h1 fun i x hx => (h2 i x hx).later L
  | tup h1 _ ih => exact .tup h1 ih
  | junk => exact .junk
theorem TmR.later (L : Later C w w' S S' ι ι') {tm : List TV} {vs : Array Value} (h : TmR C w S ι tm vs) : TmR C w' S' ι' tm vs :=
  ⟨h.1, fun i x hx => (h.2 i x hx).later L⟩

/-- A row whose block has not turned. -/
theorem RowR.later (L : Later C w w' S S' ι ι') {t : Nat} {r : Row} (hb : ∀ b, curBlk ι t r = some b → w'.heap[b]? = w.heap[b]?) (hi : ∀ n, ι' t n = ι t n) (h : RowR C w S ι t r) : RowR C w' S' ι' t r := by
  cases h with
  | box h1 h2 h3 h4 =>
    refine .box (L.i _ _ _ h1) ?_ h3 fun i x hx => (h4 i x hx).later L
    rw [hb _ (by simp [curBlk, h1, blkOf])]
    exact h2
  | sl h1 h2 h3 h4 h5 =>
    rename_i e k es v xs
    refine .sl (L.i _ _ _ h1) ⟨h2.1, ?_⟩ h3 (fun j x hx => ?_) (fun n hn => h5 n (by rw [← hi n]; exact hn))
    · rcases h2.2 with h | ⟨g, cap, cur, hv, h0, hh, hr⟩
      · exact .inl h
      · refine .inr ⟨g, cap, cur, hv, h0, ?_, hr⟩
        rw [hb g (by simp [curBlk, h1, hv, blkOf])]
        exact hh
    · obtain ⟨u, hu, hr⟩ := h4 j x hx
      exact ⟨u, hu, hr.later L⟩
theorem RowR.lt {t : Nat} {r : Row} (h : RowR C w S ι t r) {b : Nat} (hb : curBlk ι t r = some b) : b < w.heap.size := by
  cases h with
  | box h1 h2 h3 h4 =>
    simp [curBlk, h1, blkOf] at hb
    subst hb
    exact (Array.getElem?_eq_some_iff.1 h2).1
  | sl h1 h2 h3 h4 h5 =>
    rcases h2.2 with ⟨rfl, _⟩ | ⟨g, cap, cur, rfl, h0, hh, hr⟩
    · simp [curBlk, h1, blkOf] at hb
    · simp [curBlk, h1, blkOf] at hb
      subst hb
      exact (Array.getElem?_eq_some_iff.1 hh).1
theorem curBlk_mono (hi : ∀ t n v, ι t n = some v → ι' t n = some v) {t : Nat} {r : Row} (h : RowR C w S ι t r) : curBlk ι' t r = curBlk ι t r := by
  cases h with
  | box h1 _ _ _ => simp [curBlk, h1, hi _ _ _ h1]
  | sl h1 _ _ _ _ => simp [curBlk, h1, hi _ _ _ h1]

theorem Ext.refl (My : Nat → Prop) (w : World) : Ext My w w := ⟨rfl, rfl, rfl, Nat.le_refl _, fun _ _ _ => rfl⟩
theorem Ext.trans {My : Nat → Prop} {a b c : World} (h : Ext My a b) (k : Ext My b c) : Ext My a c :=
  ⟨k.os.trans h.os, k.tape.trans h.tape, k.output.trans h.output, Nat.le_trans h.size k.size, fun i hi hn => (k.block i (Nat.lt_of_lt_of_le hi h.size) hn).trans (h.block i hi hn)⟩
theorem Ext.drew (My : Nat → Prop) (w : World) : Ext My w w.drew := ⟨rfl, rfl, rfl, Nat.le_refl _, fun _ _ _ => rfl⟩
theorem Ext.of_grown {My : Nat → Prop} {w w' : World} {row : Option Nat} (h : w.grownBy w' row) (hr : ∀ b, row = some b → My b) : Ext My w w' :=
  ⟨h.os, h.tape, h.output, h.size, fun b hb hn => h.block b hb fun e => hn (hr b e.symm)⟩

/-- The store seen token by token is all that counts. -/
theorem StI.congr {st st' : Store} {nx : Nat} {out : List (List D)} (h : StI C st nx out w ι S) (hs : ∀ t, sget st' t = sget st t) : StI C st' nx out w ι S :=
  ⟨h.fr, fun t r hr => h.row t r (by rw [← hs]; exact hr), fun t t' r r' b h1 h2 => h.sep t t' r r' b (by rw [← hs]; exact h1) (by rw [← hs]; exact h2),
    fun t r b hr => h.mine t r b (by rw [← hs]; exact hr), h.dat, h.s0, h.bw, h.nx, h.my⟩
theorem StI.drew {st : Store} {nx : Nat} {out : List (List D)} (hst : ∀ out w w', C.Fr out w → Ext C.My w w' → C.Fr out w') (h : StI C st nx out w ι S) : StI C st nx out w.drew ι S :=
  ⟨hst _ _ _ h.fr (Ext.drew _ _), fun t r hr => RowR.later (w := w) (w' := w.drew) ⟨fun _ h => h, fun _ _ => rfl, fun _ _ _ h => h⟩ (fun _ _ => rfl) (fun _ => rfl) (h.row t r hr), h.sep, h.mine, h.dat, h.s0, h.bw, h.nx, h.my⟩
theorem Later.drew (C : Ctx) (w : World) (S : Nat → Prop) (ι : Hist) : Later C w w.drew S S ι ι := ⟨fun _ h => h, fun _ _ => rfl, fun _ _ _ h => h⟩
theorem StI.more {st : Store} {nx nx' : Nat} {out : List (List D)} (h : StI C st nx out w ι S) (hn : nx ≤ nx') : StI C st nx' out w ι S :=
  ⟨h.fr, h.row, h.sep, h.mine, h.dat, h.s0, h.bw, fun t n v hv => Nat.lt_of_lt_of_le (h.nx t n v hv) hn, h.my⟩

/-! ### The store -/
theorem sget_sdel (st : Store) (t t' : Nat) : sget (sdel st t) t' = if t = t' then none else sget st t' := by
  induction st with
  | nil => simp [sdel, sget]
  | cons p s ih =>
    obtain ⟨a, r⟩ := p
    simp only [sdel]
    by_cases h : a = t
    · rw [if_pos h, ih]
      by_cases h' : t = t'
      · simp [h']
      · rw [if_neg h', if_neg h', sget, if_neg (by omega)]
    · rw [if_neg h, sget]
      by_cases h' : a = t'
      · rw [if_pos h', if_neg (by omega), sget, if_pos h']
      · rw [if_neg h', ih, sget, if_neg h']
theorem sget_sput (st : Store) (t : Nat) (r : Row) (t' : Nat) : sget (sput st t r) t' = if t = t' then some r else sget st t' := by
  induction st with
  | nil => simp [sput, sget]
  | cons p s ih =>
    obtain ⟨a, q⟩ := p
    simp only [sput]
    by_cases h : a = t
    · rw [if_pos h, sget]
      by_cases h' : t = t'
      · rw [if_pos h', if_pos h']
      · rw [if_neg h', if_neg h', sget_sdel, if_neg h', sget, if_neg (by omega)]
    · rw [if_neg h, sget]
      by_cases h' : a = t'
      · rw [if_pos h', if_neg (by omega), sget, if_pos h']
      · rw [if_neg h', ih, sget, if_neg h']
/-! ### A row comes, turns, goes -/
def hset (ι : Hist) (t n : Nat) (v : Value) : Hist := fun t' n' => if t' = t ∧ n' = n then some v else ι t' n'
theorem hset_same (ι : Hist) (t n : Nat) (v : Value) : hset ι t n v t n = some v := by simp [hset]
theorem hset_other (ι : Hist) (t n : Nat) (v : Value) {t' : Nat} (h : t' ≠ t) (n' : Nat) : hset ι t n v t' n' = ι t' n' := by simp [hset, h]
theorem hset_mono {ι : Hist} {t n : Nat} {v : Value} (h : ι t n = none ∨ ι t n = some v) : ∀ t' n' v', ι t' n' = some v' → hset ι t n v t' n' = some v' := by
  intro t' n' v' h'
  unfold hset
  split
  · rename_i hc
    obtain ⟨rfl, rfl⟩ := hc
    rcases h with h | h
    · rw [h] at h'; cases h'
    · rw [h] at h'; exact h'
  · exact h'

theorem StI.put {st : Store} {nx nx' : Nat} {out : List (List D)} {t n : Nat} {v : Value} {r : Row} {g : Option Nat}
    (hst : ∀ out w w', C.Fr out w → Ext C.My w w' → C.Fr out w') (h : StI C st nx out w ι S) (hx : Ext C.My w w') (hg : ∀ b, b < w.heap.size → some b ≠ g → w'.heap[b]? = w.heap[b]?)
    (hv : ι t n = none ∨ ι t n = some v) (hr : RowR C w' S (hset ι t n v) t r)
    (hgm : ∀ b, g = some b → b < w.heap.size → ¬ S b ∧ ¬ C.Bw b ∧ ∀ t' r', t' ≠ t → sget st t' = some r' → curBlk ι t' r' ≠ some b)
    (hb : ∀ b, curBlk (hset ι t n v) t r = some b → C.My b ∧ ¬ S b ∧ ¬ C.Bw b ∧ ∀ t' r', t' ≠ t → sget st t' = some r' → curBlk ι t' r' ≠ some b)
    (hn : nx ≤ nx') (ht : t < nx') : StI C (sput st t r) nx' out w' (hset ι t n v) S ∧ Later C w w' S S ι (hset ι t n v) := by
  have hm := hset_mono hv
  have hlater : Later C w w' S S ι (hset ι t n v) := by
    refine ⟨fun _ h => h, fun b hb' => ?_, hm⟩
    have hlt : b < w.heap.size := by
      rcases hb' with hb' | hb'
      · exact (h.dat b hb').1
      · exact h.bw b hb'
    refine hg b hlt fun e => ?_
    obtain ⟨h1, h2, _⟩ := hgm b e.symm hlt
    rcases hb' with hb' | hb'
    · exact h1 hb'
    · exact h2 hb'
  refine ⟨⟨hst _ _ _ h.fr hx, ?_, ?_, ?_, ?_, h.s0, fun b hb' => Nat.lt_of_lt_of_le (h.bw b hb') hx.size, ?_, fun b hb' => h.my b (Nat.le_trans hx.size hb')⟩, hlater⟩
  · intro t' r' hs
    rw [sget_sput] at hs
    split at hs
    · rename_i e
      subst e
      injection hs with hs
      subst hs
      exact hr
    · rename_i e
      have hrow := h.row t' r' hs
      refine RowR.later hlater (fun b hb' => hg b (hrow.lt hb') fun e' => ?_) (fun n' => hset_other ι t n v (Ne.symm e) n') hrow
      exact (hgm b e'.symm (hrow.lt hb')).2.2 t' r' (Ne.symm e) hs hb'
  · intro t1 t2 r1 r2 b h1 h2 h3 h4
    rw [sget_sput] at h1 h2
    split at h1
    · rename_i e1
      subst e1
      injection h1 with h1
      subst h1
      split at h2
      · rename_i e2
        exact e2
      · rename_i e2
        have := (hb b h3).2.2.2 t2 r2 (Ne.symm e2) h2
        rw [curBlk_mono hm (h.row t2 r2 h2)] at h4
        exact absurd h4 this
    · rename_i e1
      rw [curBlk_mono hm (h.row t1 r1 h1)] at h3
      split at h2
      · rename_i e2
        subst e2
        injection h2 with h2
        subst h2
        exact absurd h3 ((hb b h4).2.2.2 t1 r1 (Ne.symm e1) h1)
      · rw [curBlk_mono hm (h.row t2 r2 h2)] at h4
        exact h.sep t1 t2 r1 r2 b h1 h2 h3 h4
  · intro t1 r1 b h1 h2
    rw [sget_sput] at h1
    split at h1
    · rename_i e1
      subst e1
      injection h1 with h1
      subst h1
      have := hb b h2
      exact ⟨this.1, this.2.1, this.2.2.1⟩
    · rw [curBlk_mono hm (h.row t1 r1 h1)] at h2
      exact h.mine t1 r1 b h1 h2
  · intro b hb'
    have := h.dat b hb'
    exact ⟨Nat.lt_of_lt_of_le this.1 hx.size, this.2⟩
  · intro t1 n1 v1 h1
    unfold hset at h1
    split at h1
    · rename_i e
      omega
    · exact Nat.lt_of_lt_of_le (h.nx t1 n1 v1 h1) hn

theorem StI.del {st : Store} {nx : Nat} {out : List (List D)} (h : StI C st nx out w ι S) (t : Nat) : StI C (sdel st t) nx out w ι S := by
  have hs : ∀ t' r, sget (sdel st t) t' = some r → sget st t' = some r := by
    intro t' r hr
    rw [sget_sdel] at hr
    split at hr
    · cases hr
    · exact hr
  exact ⟨h.fr, fun t' r hr => h.row t' r (hs t' r hr), fun t1 t2 r1 r2 b h1 h2 => h.sep t1 t2 r1 r2 b (hs _ _ h1) (hs _ _ h2), fun t' r b hr => h.mine t' r b (hs _ _ hr), h.dat, h.s0, h.bw, h.nx, h.my⟩

/-- A row of elements read as data, once its block counts as data. -/
theorem RowR.asData {t : Nat} {e k : Nat} {es : List (List D)} {v : Value} (h : RowR C w S ι t (.sl e k es)) (hv : ι t es.length = some v) (hS : ∀ b, S b → S' b) (hb : ∀ b, blkOf v = some b → S' b) : Rd w S' (.l es) v := by
  cases h with
  | sl h1 h2 h3 h4 h5 =>
    rename_i v' xs
    rw [hv] at h1
    injection h1 with h1
    subst h1
    rcases h2.2 with ⟨rfl, h0⟩ | ⟨g, cap, cur, rfl, h0, hh, hn, hcap, hcs, htake⟩
    · have : es = [] := List.eq_nil_of_length_eq_zero h0
      subst this
      exact .e fun _ => rfl
    · refine .l (u := fun j => xs.getD j undef) rfl (hb g rfl) hn hcap (fun j x hx => ?_) (fun j x hx => ?_)
      · obtain ⟨u, hu, _⟩ := h4 j x hx
        rw [h2.cells (g := g) rfl j u hu]
        simp [List.getD, hu]
      · obtain ⟨u, hu, hr⟩ := h4 j x hx
        simp only [List.getD, hu, Option.getD_some]
        exact hr.mono hS fun _ _ => rfl

/-- A row becomes data. -/
theorem StI.freeze {st : Store} {nx : Nat} {out : List (List D)} (h : StI C st nx out w ι S) {t : Nat} {r : Row} (hr : sget st t = some r) :
    StI C (sdel st t) nx out w ι (fun b => S b ∨ curBlk ι t r = some b) ∧ Later C w w S (fun b => S b ∨ curBlk ι t r = some b) ι ι := by
  have hl : Later C w w S (fun b => S b ∨ curBlk ι t r = some b) ι ι := ⟨fun _ h => .inl h, fun _ _ => rfl, fun _ _ _ h => h⟩
  have hd := h.del t
  have hs : ∀ t' r', sget (sdel st t) t' = some r' → t' ≠ t ∧ sget st t' = some r' := by
    intro t' r' hr'
    rw [sget_sdel] at hr'
    split at hr'
    · cases hr'
    · rename_i e
      exact ⟨Ne.symm e, hr'⟩
  refine ⟨⟨hd.fr, fun t' r' hr' => RowR.later hl (fun _ _ => rfl) (fun _ => rfl) (hd.row t' r' hr'), hd.sep, ?_, ?_, fun b hb => .inl (h.s0 b hb), hd.bw, hd.nx, hd.my⟩, hl⟩
  · intro t' r' b hr' hb
    obtain ⟨hne, h0⟩ := hs t' r' hr'
    have hm := h.mine t' r' b h0 hb
    refine ⟨hm.1, fun hS => ?_, hm.2.2⟩
    rcases hS with hS | hS
    · exact hm.2.1 hS
    · exact hne (h.sep t' t r' r b h0 hr hb hS)
  · intro b hb
    rcases hb with hb | hb
    · exact h.dat b hb
    · exact ⟨(h.row t r hr).lt hb, .inr (h.mine t r b hr hb).1⟩

theorem sget_nil (t : Nat) : sget [] t = none := rfl
end Go.Proofs.VL
