/- The value level is sound, 5: what becomes data; elements written. -/
import Derived.Test.YtoclhejbhefgeaaVF
set_option linter.unusedVariables false
set_option linter.unusedSimpArgs false
namespace Go.Proofs.VL
open Go

variable {C : Ctx} {w : World} {S : Nat → Prop} {ι : Hist} {P : Program} {tt : Tab}

/-! ### putDs -/
theorem putDs_len (l : List D) (o : Nat) (ys : List D) : (putDs l o ys).length = l.length := by
  induction ys generalizing l o with
  | nil => rfl
  | cons y r ih => simp [putDs, ih]
theorem putDs_left (a b : List D) (o : Nat) (ys : List D) (h : o + ys.length ≤ a.length) : putDs (a ++ b) o ys = putDs a o ys ++ b := by
  induction ys generalizing a o with
  | nil => rfl
  | cons y r ih =>
    simp only [List.length_cons] at h
    simp only [putDs]
    rw [List.set_append_left _ _ (by omega), ih _ _ (by simp; omega)]
theorem putDs_right (a b : List D) (o : Nat) (ys : List D) : putDs (a ++ b) (a.length + o) ys = a ++ putDs b o ys := by
  induction ys generalizing b o with
  | nil => rfl
  | cons y r ih =>
    simp only [putDs]
    rw [List.set_append_right _ _ (by omega), show a.length + o + 1 = a.length + (o + 1) from by omega, show a.length + o - a.length = o from by omega, ih]
theorem putDs_full (a ys : List D) (h : ys.length = a.length) : putDs a 0 ys = ys := by
  have gen : ∀ (p a ys : List D), ys.length = a.length → putDs (p ++ a) p.length ys = p ++ ys := by
    intro p a ys
    induction ys generalizing p a with
    | nil => intro h; have : a = [] := List.eq_nil_of_length_eq_zero (by simpa using h.symm); subst this; simp [putDs]
    | cons y r ih =>
      intro h
      cases a with
      | nil => simp at h
      | cons z s =>
        simp only [putDs]
        rw [List.set_append_right _ _ (by omega)]
        simp only [Nat.sub_self, List.set_cons_zero]
        have := ih (p ++ [y]) s (by simpa using h)
        simpa using this
  simpa using gen [] a ys h
theorem flat_modify {k j : Nat} {ys : List D} (hj : j + ys.length ≤ k) : ∀ {es : List (List D)} (h : ∀ x ∈ es, x.length = k) (i : Nat), i < es.length → (es.modify i fun e => putDs e j ys).flatten = putDs es.flatten (i * k + j) ys
  | [], _, i, hi => by simp at hi
  | e :: r, h, 0, hi => by
    have he := h e (by simp)
    simp only [List.modify_zero_cons, List.flatten_cons, Nat.zero_mul, Nat.zero_add]
    rw [putDs_left _ _ _ _ (by omega)]
  | e :: r, h, i + 1, hi => by
    have he := h e (by simp)
    simp only [List.modify_succ_cons, List.flatten_cons]
    rw [flat_modify hj (fun x hx => h x (by simp [hx])) i (by simpa using hi), show (i + 1) * k + j = e.length + (i * k + j) from by rw [he, Nat.succ_mul]; omega, putDs_right]
theorem set_modify {k : Nat} {ys : List D} (hy : ys.length = k) : ∀ {es : List (List D)} (h : ∀ x ∈ es, x.length = k) (i : Nat), es.set i ys = es.modify i fun e => putDs e 0 ys
  | [], _, i => by simp
  | e :: r, h, 0 => by simp [putDs_full e ys (by rw [hy, h e (by simp)])]
  | e :: r, h, i + 1 => by simp only [List.set_cons_succ, List.modify_succ_cons]; rw [set_modify hy (es := r) (fun x hx => h x (by simp [hx])) i]
theorem putCells_map (l : List D) (o : Nat) (ys : List D) : putCells (l.map CV.d) o (ys.map CV.d) = (putDs l o ys).map CV.d := by
  induction ys generalizing l o with
  | nil => rfl
  | cons y r ih => simp only [List.map_cons, putCells, putDs]; rw [← ih]; simp
theorem setElem_len {k : Nat} {es : List (List D)} (h : ∀ x ∈ es, x.length = k) (off : Nat) (ys : List D) : ∀ x ∈ setElem k es off ys, x.length = k := by
  intro x hx
  unfold setElem at hx
  obtain ⟨i, hi, he⟩ := List.mem_iff_getElem.1 hx
  rw [List.getElem_modify] at he
  split at he
  · rw [← he, putDs_len]; exact h _ (List.getElem_mem _)
  · rw [← he]; exact h _ (List.getElem_mem _)

/-! ### What becomes data -/
def delAll : Store → List Nat → Store
  | st, [] => st
  | st, t :: g => delAll (sdel st t) g
theorem supd_gone (st : Store) (g : List Nat) : supd st (gone g) = delAll st g := by
  induction g generalizing st with
  | nil => rfl
  | cons t g ih => simp only [gone, List.map_cons, supd, delAll]; exact ih _
theorem sget_delAll (st : Store) (g : List Nat) (t : Nat) : sget (delAll st g) t = if t ∈ g then none else sget st t := by
  induction g generalizing st with
  | nil => simp [delAll]
  | cons a g ih =>
    simp only [delAll, ih, sget_sdel, List.mem_cons]
    by_cases h : t ∈ g
    · simp [h]
    · by_cases h' : a = t
      · simp [h']
      · simp [h, h', Ne.symm h']
theorem supd_append (st : Store) (u v : Upd) : supd st (u ++ v) = supd (supd st u) v := by
  induction u generalizing st with
  | nil => rfl
  | cons p u ih =>
    obtain ⟨t, r⟩ := p
    cases r <;> simp only [List.cons_append, supd, ih]
theorem delAll_append (st : Store) (g h : List Nat) : delAll st (g ++ h) = delAll (delAll st g) h := by
  induction g generalizing st with
  | nil => rfl
  | cons a g ih => simp only [List.cons_append, delAll, ih]

/-- Which blocks the tokens' rows have. -/
def Covers (ι : Hist) (st : Store) (g : List Nat) (S' : Nat → Prop) : Prop := ∀ t ∈ g, ∀ r, sget st t = some r → ∀ b, curBlk ι t r = some b → S' b
theorem freezeAll {nx : Nat} {out : List (List D)} : ∀ (g : List Nat) {st : Store} {S : Nat → Prop}, StI C st nx out w ι S → ∃ S', StI C (delAll st g) nx out w ι S' ∧ Later C w w S S' ι ι ∧ Covers ι st g S'
  | [], st, S, h => ⟨S, h, Later.refl _ _ _ _, fun t ht => by simp at ht⟩
  | t :: g, st, S, h => by
    cases hr : sget st t with
    | none =>
      obtain ⟨S', h1, h2, h3⟩ := freezeAll g (h.del t)
      refine ⟨S', h1, h2, fun t' ht' r' hr' b hb => ?_⟩
      rcases List.mem_cons.1 ht' with rfl | ht'
      · rw [hr] at hr'; cases hr'
      · refine h3 t' ht' r' ?_ b hb
        rw [sget_sdel, if_neg (by intro e; subst e; rw [hr] at hr'; cases hr')]
        exact hr'
    | some r =>
      obtain ⟨hf, hl⟩ := h.freeze hr
      obtain ⟨S', h1, h2, h3⟩ := freezeAll g hf
      refine ⟨S', h1, hl.trans h2, fun t' ht' r' hr' b hb => ?_⟩
      by_cases e : t' = t
      · subst e
        rw [hr] at hr'
        injection hr' with hr'
        subst hr'
        exact h2.s b (.inr hb)
      · rcases List.mem_cons.1 ht' with rfl | ht'
        · exact absurd rfl e
        · refine h3 t' ht' r' ?_ b hb
          rw [sget_sdel, if_neg (Ne.symm e)]
          exact hr'
theorem Covers.left {st : Store} {g g' : List Nat} {S' : Nat → Prop} (h : Covers ι st (g ++ g') S') : Covers ι st g S' := fun t ht => h t (List.mem_append_left _ ht)
theorem Covers.right {st : Store} {g g' : List Nat} {S' : Nat → Prop} (h : Covers ι st (g ++ g') S') : Covers ι st g' S' := fun t ht => h t (List.mem_append_right _ ht)

theorem cvr_own {t n : Nat} {v : Value} (h : CVR C w S ι (.own t n) v) : ι t n = some v ∧ ∃ A c, v = .slice A n c := by cases h with | own h => exact ⟨h, _, _, rfl⟩
theorem dOf_sound {st : Store} {nx : Nat} {out : List (List D)} {x : CV} {v : Value} {y : D} {g : List Nat} {S' : Nat → Prop} (h : StI C st nx out w ι S) (hx : CVR C w S ι x v) (hd : dOf st x = some (y, g))
    (hS : ∀ b, S b → S' b) (hc : Covers ι st g S') : Rd w S' y v := by
  unfold dOf at hd
  split at hd
  · injection hd with hd
    injection hd with e1 e2
    subst e1; subst e2
    cases hx with | d hx => exact hx.mono hS fun _ _ => rfl
  · injection hd with hd
    injection hd with e1 e2
    subst e1; subst e2
    cases hx
    exact .e fun _ => rfl
  · injection hd with hd
    injection hd with e1 e2
    subst e1; subst e2
    cases hx
    exact .e fun h => by cases h
  · rename_i t n
    split at hd
    · rename_i e k es hr
      split at hd
      · rename_i hn
        injection hd with hd
        injection hd with e1 e2
        subst e1; subst e2
        obtain ⟨hv, _⟩ := cvr_own hx
        rw [← hn] at hv
        exact (h.row t _ hr).asData hv hS fun b hb => hc t (by simp) _ hr b (by simp [curBlk, hv, hb])
      · cases hd
    · cases hd
  · cases hd
theorem dsOf_sound {st : Store} {nx : Nat} {out : List (List D)} {S' : Nat → Prop} (h : StI C st nx out w ι S) (hS : ∀ b, S b → S' b) : ∀ {xs : List CV} {vs : List Value} {ys : List D} {g : List Nat}, CellsR C w S ι xs vs → dsOf st xs = some (ys, g) → Covers ι st g S' →
    ys.length = xs.length ∧ CellsR C w S' ι (ys.map CV.d) vs
  | [], vs, ys, g, hx, hd, hc => by
    simp only [dsOf, Option.some.injEq, Prod.mk.injEq] at hd
    obtain ⟨rfl, rfl⟩ := hd
    exact ⟨rfl, by simpa using hx.1, fun i x hi => by simp at hi⟩
  | x :: r, vs, ys, g, hx, hd, hc => by
    obtain ⟨v, s, rfl, hxv, hr⟩ := hx.uncons
    simp only [dsOf] at hd
    split at hd
    · rename_i y a zs b h1 h2
      injection hd with hd
      injection hd with e1 e2
      subst e1; subst e2
      obtain ⟨hl, hrest⟩ := dsOf_sound h hS hr h2 hc.right
      exact ⟨by simp [hl], .cons (.d (dOf_sound h hxv h1 hS hc.left)) hrest⟩
    · cases hd
end Go.Proofs.VL
