/- The value level is sound, 10: calls. -/
import Derived.Test.YtoclhejbhefgeaaVK
set_option linter.unusedVariables false
set_option linter.unusedSimpArgs false
namespace Go.Proofs.VL
open Go

variable {C : Ctx} {w : World} {S : Nat → Prop} {ι : Hist} {P : Program} {tt : Tab} {st : Store} {nx nx' : Nat} {out : List (List D)} {tk : Nat}

/-! ### Lists of tokens -/
theorem own?_mem : ∀ {l : List (Nat × Nat)} {x t : Nat}, own? l x = some t → (t, x) ∈ l
  | (t, t') :: r, x, u, h => by
    simp only [own?] at h
    split at h
    · rename_i e; injection h with h; subst e; subst h; simp
    · exact List.mem_cons_of_mem _ (own?_mem h)
theorem nodupB_spec : ∀ {l : List Nat}, nodupB l = true → l.Nodup
  | [], _ => List.nodup_nil
  | x :: r, h => by
    simp only [nodupB, Bool.and_eq_true, Bool.not_eq_true', List.contains_eq_mem, decide_eq_false_iff_not] at h
    exact List.nodup_cons.2 ⟨h.1, nodupB_spec h.2⟩
theorem own?_of_mem : ∀ {l : List (Nat × Nat)} {x t : Nat}, (l.map (·.2)).Nodup → (t, x) ∈ l → own? l x = some t
  | (t, t') :: r, x, u, hn, h => by
    simp only [List.map_cons, List.nodup_cons] at hn
    simp only [own?]
    rcases List.mem_cons.1 h with h | h
    · injection h with h1 h2
      subst h1; subst h2
      rw [if_pos rfl]
    · rw [if_neg (fun e => hn.1 (by subst e; exact List.mem_map.2 ⟨_, h, rfl⟩))]
      exact own?_of_mem hn.2 h
theorem nodup_fst : ∀ {l : List (Nat × Nat)} {t x y : Nat}, (l.map (·.1)).Nodup → (t, x) ∈ l → (t, y) ∈ l → x = y
  | (a, b) :: r, t, x, y, hn, h1, h2 => by
    simp only [List.map_cons, List.nodup_cons] at hn
    rcases List.mem_cons.1 h1 with q1 | q1 <;> rcases List.mem_cons.1 h2 with q2 | q2
    · injection q1 with _ q1; injection q2 with _ q2; rw [q1, q2]
    · injection q1 with q1 _; exact (hn.1 (q1 ▸ List.mem_map_of_mem (f := fun p : Nat × Nat => p.1) q2)).elim
    · injection q2 with q2 _; exact (hn.1 (q2 ▸ List.mem_map_of_mem (f := fun p : Nat × Nat => p.1) q1)).elim
    · exact nodup_fst hn.2 q1 q2
theorem cstOf_get {st : Store} : ∀ {l : List (Nat × Nat)} {x : Nat} {r : Row}, sget (cstOf st l) x = some r → ∃ t, (t, x) ∈ l ∧ sget st t = some r
  | [], x, r, h => by simp [cstOf, sget] at h
  | (t, t') :: l, x, r, h => by
    simp only [cstOf] at h
    cases hr : sget st t with
    | none =>
      rw [hr] at h
      obtain ⟨u, hu, hs⟩ := cstOf_get h
      exact ⟨u, List.mem_cons_of_mem _ hu, hs⟩
    | some row =>
      rw [hr] at h
      simp only [sget] at h
      split at h
      · rename_i e
        injection h with h
        subst h; subst e
        exact ⟨t, List.mem_cons_self, hr⟩
      · obtain ⟨u, hu, hs⟩ := cstOf_get h
        exact ⟨u, List.mem_cons_of_mem _ hu, hs⟩
theorem cstOf_mem {st : Store} : ∀ {l : List (Nat × Nat)}, (l.map (·.2)).Nodup → ∀ {t x : Nat} {r : Row}, (t, x) ∈ l → sget st t = some r → sget (cstOf st l) x = some r
  | (a, b) :: l, hn, t, x, r, h, hr => by
    simp only [List.map_cons, List.nodup_cons] at hn
    rcases List.mem_cons.1 h with h | h
    · injection h with h1 h2
      subst h1; subst h2
      simp only [cstOf, hr, sget, if_true]
    · have hbx : b ≠ x := fun e => hn.1 (e ▸ List.mem_map_of_mem (f := fun p : Nat × Nat => p.2) h)
      have ih := cstOf_mem hn.2 h hr
      simp only [cstOf]
      cases ha : sget st a with
      | none => exact ih
      | some q => simp only [sget, if_neg hbx]; exact ih
theorem sget_ne_none {s : Store} {t : Nat} {r : Row} (h : (t, r) ∈ s) : sget s t ≠ none := by
  induction s with
  | nil => simp at h
  | cons p s ih =>
    obtain ⟨a, q⟩ := p
    simp only [sget]
    split
    · simp
    · rename_i hne
      rcases List.mem_cons.1 h with h | h
      · injection h with h _; exact absurd h.symm hne
      · exact ih h
def above : List (Nat × Nat) → Nat
  | [] => 0
  | (_, t') :: r => t' + 1 + above r
theorem above_lt : ∀ {l : List (Nat × Nat)} {t x : Nat}, (t, x) ∈ l → x < above l
  | (a, b) :: r, t, x, h => by
    simp only [above]
    rcases List.mem_cons.1 h with h | h
    · injection h with _ h; omega
    · have := above_lt h; omega

/-! ### Renaming -/
theorem keptP_mem : ∀ {owns : List (Nat × Nat)} {rst : List Nat} {p : Nat × Nat}, p ∈ keptP owns rst ↔ p ∈ owns ∧ p.2 ∈ rst
  | [], rst, p => by simp [keptP]
  | q :: r, rst, p => by
    simp only [keptP]
    split
    · rename_i h
      simp only [List.mem_cons, keptP_mem]
      constructor
      · rintro (rfl | h1)
        · exact ⟨.inl rfl, by simpa using h⟩
        · exact ⟨.inr h1.1, h1.2⟩
      · rintro ⟨rfl | h1, h2⟩
        · exact .inl rfl
        · exact .inr ⟨h1, h2⟩
    · rename_i h
      simp only [List.mem_cons, keptP_mem]
      constructor
      · intro h1; exact ⟨.inr h1.1, h1.2⟩
      · rintro ⟨rfl | h1, h2⟩
        · exact absurd (by simpa using h2) h
        · exact ⟨h1, h2⟩
theorem keptP_sub1 {owns : List (Nat × Nat)} {rst : List Nat} (h : (owns.map (·.1)).Nodup) : ((keptP owns rst).map (·.1)).Nodup := by
  induction owns with
  | nil => simp [keptP]
  | cons p r ih =>
    simp only [List.map_cons, List.nodup_cons] at h
    simp only [keptP]
    split
    · simp only [List.map_cons, List.nodup_cons]
      refine ⟨fun hm => h.1 ?_, ih h.2⟩
      obtain ⟨q, hq, he⟩ := List.mem_map.1 hm
      exact he ▸ List.mem_map_of_mem (f := fun p : Nat × Nat => p.1) (keptP_mem.1 hq).1
    · exact ih h.2
theorem keptP_sub2 {owns : List (Nat × Nat)} {rst : List Nat} (h : (owns.map (·.2)).Nodup) : ((keptP owns rst).map (·.2)).Nodup := by
  induction owns with
  | nil => simp [keptP]
  | cons p r ih =>
    simp only [List.map_cons, List.nodup_cons] at h
    simp only [keptP]
    split
    · simp only [List.map_cons, List.nodup_cons]
      refine ⟨fun hm => h.1 ?_, ih h.2⟩
      obtain ⟨q, hq, he⟩ := List.mem_map.1 hm
      exact he ▸ List.mem_map_of_mem (f := fun p : Nat × Nat => p.2) (keptP_mem.1 hq).1
    · exact ih h.2
def hren (kept : List (Nat × Nat)) (tk : Nat) (ι ι' : Hist) : Hist := fun t n => match own? (kept.map fun p => (p.2, p.1)) t with
  | some t' => ι' t' n
  | none => if tk ≤ t ∧ t < tk + 64 then ι' (t - tk) n else ι t n
theorem own?_none {l : List (Nat × Nat)} {x : Nat} (h : x ∉ l.map (·.2)) : own? l x = none := by
  cases ho : own? l x with
  | none => rfl
  | some t => exact absurd (List.mem_map_of_mem (f := fun p : Nat × Nat => p.2) (own?_mem ho)) h
theorem own?_swap_none {l : List (Nat × Nat)} {t : Nat} (h : t ∉ l.map (·.1)) : own? (l.map fun p => (p.2, p.1)) t = none := own?_none (by rw [List.map_map]; exact h)
theorem own?_swap {l : List (Nat × Nat)} (hn : (l.map (·.1)).Nodup) {t t' : Nat} (h : (t, t') ∈ l) : own? (l.map fun p => (p.2, p.1)) t = some t' :=
  own?_of_mem (by rw [List.map_map]; exact hn) (List.mem_map_of_mem (f := fun p : Nat × Nat => (p.2, p.1)) h)
theorem hren_rho {kept : List (Nat × Nat)} {ι ι' : Hist} (hn : (kept.map (·.1)).Nodup) (hk : ∀ t ∈ kept.map (·.1), ¬ (tk ≤ t ∧ t < tk + 64)) {t n : Nat} (h : t < 64) : hren kept tk ι ι' (rho kept tk t) n = ι' t n := by
  unfold rho
  cases ho : own? kept t with
  | some t0 =>
    simp only
    unfold hren
    rw [own?_swap hn (own?_mem ho)]
  | none =>
    simp only
    unfold hren
    rw [own?_swap_none (fun hm => hk _ hm (by omega))]
    simp only
    rw [if_pos (by omega)]
    congr 1
    omega
theorem hren_old {kept : List (Nat × Nat)} {ι ι' : Hist} {t n : Nat} (h : ¬ (tk ≤ t ∧ t < tk + 64)) (hk : t ∉ kept.map (·.1)) : hren kept tk ι ι' t n = ι t n := by
  unfold hren
  rw [own?_swap_none hk]
  simp only
  rw [if_neg h]

theorem renCs_eq (ρ : Nat → Nat) (l : List CV) : renCs ρ l = l.map (renC ρ) := by
  induction l with
  | nil => rfl
  | cons x r ih => simp [renCs, ih]
theorem renTs_eq (ρ : Nat → Nat) (l : List TV) : renTs ρ l = l.map (renT ρ) := by
  induction l with
  | nil => rfl
  | cons x r ih => simp [renTs, ih]

section
variable {ρ : Nat → Nat} {ι2 : Hist}
/-- A value of a callee's, as its caller reads it. -/
theorem CVR.ren {Cc : Ctx} {w' : World} {S' : Nat → Prop} {ι' : Hist} (hρ : ∀ t n, t < 64 → ι2 (ρ t) n = ι' t n) (hB : ∀ b, ¬ Cc.Bw b) (hy : ∀ l, Cc.yl ≠ .func (.yield l) #[] #[]) (hb : ∀ t n v, ι' t n = some v → t < 64) {x : CV} {v : Value} (h : CVR Cc w' S' ι' x v) :
    CVR C w' S' ι2 (renC ρ x) v := by
  induction h with
  | d h => exact .d h
  | nil => exact .nil
  | emp => exact .emp
  | bde h => exact .bde h
  | bd h1 h2 h3 h4 h5 => exact .bd h1 (.inl (h2.resolve_right (hB _))) h3 h4 h5
  | own h => exact .own (by rw [hρ _ _ (hb _ _ _ h)]; exact h)
  | ptr h => exact .ptr (by rw [hρ _ _ (hb _ _ _ h)]; exact h)
  | ep h => exact .ep (by rw [hρ _ _ (hb _ _ _ h)]; exact h)
  | ip h1 h2 h3 => exact .ip h1 (.inl (h2.resolve_right (hB _))) h3
  | fn h1 _ ih =>
    rename_i f cap vs _
    simp only [renC, renCs_eq]
    refine .fn (by simpa using h1) fun i x hx => ?_
    rw [List.getElem?_map] at hx
    cases hc : cap[i]? with
    | none => simp [hc] at hx
    | some y => simp [hc] at hx; subst hx; exact ih i y hc
  | yld h => exact absurd h (hy _)
theorem TVR.ren {Cc : Ctx} {w' : World} {S' : Nat → Prop} {ι' : Hist} (hρ : ∀ t n, t < 64 → ι2 (ρ t) n = ι' t n) (hB : ∀ b, ¬ Cc.Bw b) (hy : ∀ l, Cc.yl ≠ .func (.yield l) #[] #[]) (hb : ∀ t n v, ι' t n = some v → t < 64) {x : TV} {v : Value} (h : TVR Cc w' S' ι' x v) :
    TVR C w' S' ι2 (renT ρ x) v := by
  induction h with
  | c h => exact .c (h.ren hρ hB hy hb)
  | agg h1 h2 =>
    rename_i cs vs
    simp only [renT, renCs_eq]
    refine .agg (by simpa using h1) fun i x hx => ?_
    rw [List.getElem?_map] at hx
    cases hc : cs[i]? with
    | none => simp [hc] at hx
    | some y => simp [hc] at hx; subst hx; exact (h2 i y hc).ren hρ hB hy hb
  | tup h1 _ ih =>
    rename_i ts vs _
    simp only [renT, renTs_eq]
    refine .tup (by simpa using h1) fun i x hx => ?_
    rw [List.getElem?_map] at hx
    cases hc : ts[i]? with
    | none => simp [hc] at hx
    | some y => simp [hc] at hx; subst hx; exact ih i y hc
  | junk => exact .junk
theorem RowR.ren {Cc : Ctx} {w' : World} {S' : Nat → Prop} {ι' : Hist} (hρ : ∀ t n, t < 64 → ι2 (ρ t) n = ι' t n) (hB : ∀ b, ¬ Cc.Bw b) (hy : ∀ l, Cc.yl ≠ .func (.yield l) #[] #[]) (hb : ∀ t n v, ι' t n = some v → t < 64) {t : Nat} {r : Row} (h : RowR Cc w' S' ι' t r) :
    RowR C w' S' ι2 (ρ t) (renR ρ r) := by
  cases h with
  | box h1 h2 h3 h4 =>
    rename_i ty cs g vs
    simp only [renR, renCs_eq]
    refine .box (by rw [hρ _ _ (hb _ _ _ h1)]; exact h1) h2 (by simpa using h3) fun i x hx => ?_
    rw [List.getElem?_map] at hx
    cases hc : cs[i]? with
    | none => simp [hc] at hx
    | some y => simp [hc] at hx; subst hx; exact (h4 i y hc).ren hρ hB hy hb
  | sl h1 h2 h3 h4 h5 =>
    have ht := hb _ _ _ h1
    exact .sl (by rw [hρ _ _ ht]; exact h1) h2 h3 h4 fun n hn => h5 n (by rw [hρ _ _ ht] at hn; exact hn)
theorem curBlk_ren {ι' : Hist} (hρ : ∀ t n, t < 64 → ι2 (ρ t) n = ι' t n) {t : Nat} (ht : t < 64) (r : Row) : curBlk ι2 (ρ t) (renR ρ r) = curBlk ι' t r := by
  cases r <;> simp [renR, curBlk, hρ _ _ ht]
end

theorem sget_none_of {st : Store} {t : Nat} (h : t ∉ st.map (·.1)) : sget st t = none := by
  induction st with
  | nil => rfl
  | cons p s ih =>
    obtain ⟨a, r⟩ := p
    simp only [List.map_cons, List.mem_cons, not_or] at h
    rw [sget, if_neg (Ne.symm h.1)]
    exact ih h.2
theorem supd_renS {ρ : Nat → Nat} : ∀ (rst st : Store), (rst.map (·.1)).Nodup → ∀ t r, sget (supd st (renS ρ rst)) t = some r → (∃ t0 r0, t = ρ t0 ∧ sget rst t0 = some r0 ∧ r = renR ρ r0) ∨ sget st t = some r
  | [], st, _, t, r, h => .inr h
  | (a, q) :: rst, st, hn, t, r, h => by
    simp only [List.map_cons, List.nodup_cons] at hn
    simp only [renS, supd] at h
    rcases supd_renS rst _ hn.2 t r h with ⟨t0, r0, h1, h2, h3⟩ | h1
    · refine .inl ⟨t0, r0, h1, ?_, h3⟩
      rw [sget, if_neg]
      · exact h2
      · intro e
        subst e
        rw [sget_none_of hn.1] at h2
        cases h2
    · rw [sget_sput] at h1
      split at h1
      · rename_i e
        injection h1 with h1
        exact .inl ⟨a, q, e.symm, by simp [sget], h1.symm⟩
      · exact .inr h1

/-! ### Arguments -/
def ownP : CV × CV → Option (Nat × Nat)
  | (.own t _, .own t' _) => some (t, t')
  | _ => none
def frzP : CV × CV → Option Nat
  | (.own t _, .d _) => some t
  | _ => none
def lentP : CV × CV → Option Nat
  | (.own t _, .bd _) => some t
  | _ => none
theorem ownsC_eq : ∀ (xs ys : List CV), ownsC xs ys = (xs.zip ys).filterMap ownP
  | [], ys => by cases ys <;> simp [ownsC]
  | x :: xs, [] => by cases x <;> simp [ownsC]
  | x :: xs, y :: ys => by
    have ih := ownsC_eq xs ys
    cases x <;> cases y <;> first | exact ih | exact congrArg (List.cons _) ih
theorem frzC_eq : ∀ (xs ys : List CV), frzC xs ys = (xs.zip ys).filterMap frzP
  | [], ys => by cases ys <;> simp [frzC]
  | x :: xs, [] => by cases x <;> simp [frzC]
  | x :: xs, y :: ys => by
    have ih := frzC_eq xs ys
    cases x <;> cases y <;> first | exact ih | exact congrArg (List.cons _) ih
theorem lentC_eq : ∀ (xs ys : List CV), lentC xs ys = (xs.zip ys).filterMap lentP
  | [], ys => by cases ys <;> simp [lentC]
  | x :: xs, [] => by cases x <;> simp [lentC]
  | x :: xs, y :: ys => by
    have ih := lentC_eq xs ys
    cases x <;> cases y <;> first | exact ih | exact congrArg (List.cons _) ih
theorem passCs_zip {st : Store} : ∀ {xs ys : List CV}, passCs st xs ys → xs.length = ys.length ∧ ∀ p ∈ xs.zip ys, passC st p.1 p.2
  | [], [], _ => ⟨rfl, by simp⟩
  | x :: xs, y :: ys, h => by
    obtain ⟨h1, h2⟩ := passCs_zip h.2
    refine ⟨by simp [h1], fun p hp => ?_⟩
    simp only [List.zip_cons_cons, List.mem_cons] at hp
    rcases hp with rfl | hp
    · exact h.1
    · exact h2 p hp
  | [], _ :: _, h => h.elim
  | _ :: _, [], h => h.elim
theorem passT_zip {st : Store} {x y : TV} (h : passT st x y) : (flatT x).length = (flatT y).length ∧ ∀ p ∈ (flatT x).zip (flatT y), passC st p.1 p.2 := by
  cases x <;> cases y <;> simp only [passT] at h
  · exact ⟨rfl, by simpa [flatT] using h⟩
  · exact passCs_zip h
theorem passTs_zip {st : Store} : ∀ {xs ys : List TV}, passTs st xs ys → xs.length = ys.length ∧ (flatTs xs).length = (flatTs ys).length ∧ (∀ p ∈ (flatTs xs).zip (flatTs ys), passC st p.1 p.2) ∧
    ∀ (i : Nat) (x y : TV), xs[i]? = some x → ys[i]? = some y → passT st x y ∧ ∀ p ∈ (flatT x).zip (flatT y), p ∈ (flatTs xs).zip (flatTs ys)
  | [], [], _ => ⟨rfl, rfl, by simp [flatTs], fun i x y h => by simp at h⟩
  | x :: xs, y :: ys, h => by
    obtain ⟨h0, h1, h2, h3⟩ := passTs_zip h.2
    obtain ⟨g1, g2⟩ := passT_zip h.1
    simp only [flatTs]
    refine ⟨by simp [h0], by simp [g1, h1], fun p hp => ?_, fun i a b ha hb => ?_⟩
    · rw [List.zip_append g1] at hp
      rcases List.mem_append.1 hp with hp | hp
      · exact g2 p hp
      · exact h2 p hp
    · rw [List.zip_append g1]
      cases i with
      | zero =>
        simp at ha hb
        subst ha; subst hb
        exact ⟨h.1, fun p hp => List.mem_append_left _ hp⟩
      | succ i =>
        obtain ⟨q1, q2⟩ := h3 i a b (by simpa using ha) (by simpa using hb)
        exact ⟨q1, fun p hp => List.mem_append_right _ (q2 p hp)⟩
  | [], _ :: _, h => h.elim
  | _ :: _, [], h => h.elim

theorem rowEs_spec {o : Option Row} {n : Nat} {es : List (List D)} (h : rowEs o n es) : ∃ e k, o = some (.sl e k es) ∧ es.length = n := by
  unfold rowEs at h
  split at h
  · obtain ⟨rfl, rfl⟩ := h; exact ⟨_, _, rfl, rfl⟩
  · exact h.elim
theorem rowN_spec {o : Option Row} {n : Nat} (h : rowN o n) : ∃ e k es, o = some (.sl e k es) ∧ es.length = n := by
  unfold rowN at h
  split at h
  · exact ⟨_, _, _, rfl, h⟩
  · exact h.elim

/-- A row, lent. -/
theorem row_lent (h : StI C st nx out w ι S) {t e k n : Nat} {es : List (List D)} {v : Value} (hr : sget st t = some (.sl e k es)) (hv : ι t es.length = some v) : ∃ A c, v = .slice A es.length c ∧ es.length ≤ c ∧ (A = none → c = 0) ∧
    (0 < es.length → ∃ g, A = some ⟨g, 0, none⟩ ∧ curBlk ι t (.sl e k es) = some g ∧ c ≤ 9223372036854775807 ∧ RdAt w S ⟨g, 0, none⟩ es.flatten) := by
  obtain ⟨v0, xs, h1, h2, h3, h4, _⟩ := sl_row (h.row t _ hr)
  rw [hv] at h1
  injection h1 with h1
  subst h1
  rcases h2.2 with ⟨rfl, h0⟩ | ⟨g, cap, cur, rfl, _, hh, hle, hcap, _⟩
  · exact ⟨none, 0, by rw [h0], by omega, fun _ => rfl, fun h => by omega⟩
  · refine ⟨_, _, rfl, hle, (fun h => by cases h), fun _ => ⟨g, rfl, by simp [curBlk, hv, blkOf], by simp only [maxLen] at hcap; omega, fun j x hx => ?_⟩⟩
    obtain ⟨u, hu, hr⟩ := h4.ds j x hx
    exact ⟨u, h2.cells (g := g) rfl j u hu, hr⟩

theorem cell_pass (h : StI C st nx out w ι S) {Cc : Ctx} {S1 : Nat → Prop} {ιc : Hist} {L : List (CV × CV)} {x y : CV} {v : Value} (hp : passC st x y) (hL : (x, y) ∈ L) (hx : CVR C w S ι x v)
    (hS : ∀ b, S b → S1 b) (hc : Covers ι st (L.filterMap frzP) S1) (hB : ∀ b, C.Bw b → Cc.Bw b) (hl : ∀ t ∈ L.filterMap lentP, ∀ r, sget st t = some r → ∀ b, curBlk ι t r = some b → Cc.Bw b)
    (ho : ∀ p ∈ L.filterMap ownP, ∀ n, ιc p.2 n = ι p.1 n) : CVR Cc w S1 ιc y v := by
  have mono : ∀ {z : D} {v : Value}, Rd w S z v → Rd w S1 z v := fun h => h.mono hS fun _ _ => rfl
  have monoAt : ∀ {ad : Addr} {cs : List D}, RdAt w S ad cs → RdAt w S1 ad cs := fun h => h.mono hS (fun _ _ => rfl) rfl
  unfold passC at hp
  split at hp
  · rename_i t n
    split at hp
    · rename_i es
      obtain ⟨e, k, hr, hn⟩ := rowEs_spec hp
      subst hn
      obtain ⟨hv, _⟩ := cvr_own hx
      obtain ⟨A, c, rfl, hle, hnil, hrest⟩ := row_lent (n := 0) h hr hv
      rcases Nat.eq_zero_or_pos es.length with h0 | h0
      · have : es = [] := List.eq_nil_of_length_eq_zero h0
        subst this
        exact .bde hnil
      · obtain ⟨g, rfl, hcur, hcm, hrd⟩ := hrest h0
        exact .bd rfl (.inr (hl t (List.mem_filterMap.2 ⟨_, hL, rfl⟩) _ hr g hcur)) hle hcm (monoAt hrd)
    · rename_i es
      obtain ⟨e, k, hr, hn⟩ := rowEs_spec hp
      subst hn
      obtain ⟨hv, _⟩ := cvr_own hx
      exact .d ((h.row t _ hr).asData hv hS fun b hb => hc t (List.mem_filterMap.2 ⟨_, hL, rfl⟩) _ hr b (by simp [curBlk, hv, hb]))
    · rename_i t' n'
      obtain ⟨rfl, _⟩ := hp
      obtain ⟨hv, A, c, rfl⟩ := cvr_own hx
      exact .own (by rw [ho (t, t') (List.mem_filterMap.2 ⟨_, hL, rfl⟩)]; exact hv)
    · exact hp.elim
  · rename_i es es'
    subst hp
    cases hx with
    | d hx =>
      obtain ⟨A, c, rfl, hle, hnil, hrest⟩ := slr_d (C := C) hx
      rcases Nat.eq_zero_or_pos es.length with h0 | h0
      · have : es = [] := List.eq_nil_of_length_eq_zero h0
        subst this
        exact .bde hnil
      · obtain ⟨ad, rfl, hsp, hSB, hcm, hrd⟩ := hrest h0
        exact .bd hsp (hSB.imp (hS _) (hB _)) hle hcm (monoAt hrd)
  · subst hp
    cases hx with | d hx => exact .d (mono hx)
  · subst hp; cases hx; exact .d (.e fun _ => rfl)
  · cases hx; exact .nil
  · subst hp; cases hx; exact .bde fun _ => rfl
  · subst hp; cases hx; exact .d (.e fun h => by cases h)
  · cases hx; exact .emp
  · subst hp; cases hx; exact .bde fun h => by cases h
  · subst hp
    cases hx with
    | bde h => exact .bde h
    | bd h1 h2 h3 h4 h5 => exact .bd h1 (h2.imp (hS _) (hB _)) h3 h4 (monoAt h5)
  · subst hp
    cases hx with | ip h1 h2 h3 => exact .ip h1 (h2.imp (hS _) (hB _)) (monoAt h3)
  · subst hp
    cases hx with
    | fn h1 h2 => exact .fn h1 fun i x hx => by simp at hx
  · exact hp.elim

theorem getD_cells {vs : Array Value} {n i : Nat} (hl : vs.size = n) : True := trivial

theorem tv_pass (h : StI C st nx out w ι S) {Cc : Ctx} {S1 : Nat → Prop} {ιc : Hist} {L : List (CV × CV)} {x y : TV} {v : Value} (hp : passT st x y) (hL : ∀ p ∈ (flatT x).zip (flatT y), p ∈ L) (hx : TVR C w S ι x v)
    (hS : ∀ b, S b → S1 b) (hc : Covers ι st (L.filterMap frzP) S1) (hB : ∀ b, C.Bw b → Cc.Bw b) (hl : ∀ t ∈ L.filterMap lentP, ∀ r, sget st t = some r → ∀ b, curBlk ι t r = some b → Cc.Bw b)
    (ho : ∀ p ∈ L.filterMap ownP, ∀ n, ιc p.2 n = ι p.1 n) : TVR Cc w S1 ιc y v := by
  cases x <;> cases y <;> simp only [passT] at hp
  · rename_i x y
    exact .c (cell_pass h hp (hL _ (by simp [flatT])) (tvr_c hx) hS hc hB hl ho)
  · rename_i l m
    obtain ⟨h1, h2⟩ := passCs_zip hp
    cases hx with
    | agg g1 g2 =>
      refine .agg (by rw [g1, h1]) fun i y hy => ?_
      have hi : i < l.length := by rw [h1]; exact (List.getElem?_eq_some_iff.1 hy).1
      have hz : (l[i], y) ∈ l.zip m := List.mem_iff_getElem?.2 ⟨i, by rw [List.getElem?_zip_eq_some]; exact ⟨List.getElem?_eq_getElem hi, hy⟩⟩
      exact cell_pass h (h2 _ hz) (hL _ (by simpa [flatT] using hz)) (g2 i l[i] (List.getElem?_eq_getElem hi)) hS hc hB hl ho

theorem supd_call_get {ρ : Nat → Nat} {st rst : Store} {taken : List Nat} (hst : ∀ t r, sget st t = some r → ¬ (tk ≤ t ∧ t < tk + 64)) (hrst : ∀ t r, sget rst t = some r → t < 64) (hn : (rst.map (·.1)).Nodup) {t : Nat} {r : Row}
    (h : sget (supd st (gone taken ++ renS ρ rst)) t = some r) :
    (∃ t0 r0, t = ρ t0 ∧ t0 < 64 ∧ sget rst t0 = some r0 ∧ r = renR ρ r0) ∨ (t ∉ taken ∧ sget st t = some r ∧ ¬ (tk ≤ t ∧ t < tk + 64)) := by
  rw [supd_append, supd_gone] at h
  rcases supd_renS rst _ hn t r h with ⟨t0, r0, h1, h2, h3⟩ | h1
  · exact .inl ⟨t0, r0, h1, hrst _ _ h2, h2, h3⟩
  · rw [sget_delAll] at h1
    split at h1
    · cases h1
    · rename_i hnt; exact .inr ⟨hnt, h1, hst t r h1⟩

theorem RowR.hist {C : Ctx} {w : World} {S : Nat → Prop} {ι : Hist} {t : Nat} {r : Row} (h : RowR C w S ι t r) : ∃ n v, ι t n = some v := by
  cases h with
  | box h _ _ _ => exact ⟨_, _, h⟩
  | sl h _ _ _ _ => exact ⟨_, _, h⟩

/-- A CALL IS SOUND. -/
theorem call_sound (A : At C st nx nx' out w ι S tk) {f : FuncId} {args : List TV} {vs : Array Value} {tv : TV} {u : Upd} {r : List Nat} (hv : TmR C w S ι args vs) (hc : CallOk P st f args tk tv u r) :
    Calls P f vs w fun e w' => ∃ v, e = .returned v ∧ Out C (supd st u) nx' out w ι S tk tv v w' := by
  obtain ⟨cargs, cst, res, rst, hcall, hpass, rfl, hdis, hnr, rfl, rfl, rfl⟩ := hc
  obtain ⟨hlen, hfl, hcells, hpos⟩ := passTs_zip hpass
  simp only [disB, Bool.and_eq_true, List.all_eq_true, Bool.not_eq_true', List.contains_eq_mem, decide_eq_false_iff_not] at hdis
  obtain ⟨⟨hd1, hd2⟩, hd3⟩ := hdis
  have hd1 := nodupB_spec hd1
  have hd2 := nodupB_spec hd2
  have hnr := nodupB_spec hnr
  generalize hL : (flatTs args).zip (flatTs cargs) = L at *
  generalize howns : ownsC (flatTs args) (flatTs cargs) = owns at *
  generalize hfrz : frzC (flatTs args) (flatTs cargs) = frz at *
  generalize hlent : lentC (flatTs args) (flatTs cargs) = lent at *
  have eo : owns = L.filterMap ownP := by rw [← howns, ownsC_eq, hL]
  have ef : frz = L.filterMap frzP := by rw [← hfrz, frzC_eq, hL]
  have el : lent = L.filterMap lentP := by rw [← hlent, lentC_eq, hL]
  have htaken : takenC (flatTs args) (flatTs cargs) = frz ++ owns.map (·.1) := by rw [takenC, hfrz, howns]
  rw [htaken]
  obtain ⟨S1, hf1, hf2, hf3⟩ := freezeAll frz A.h
  have hne : ∀ p ∈ owns, p.1 ∉ frz ∧ p.1 ∉ lent := fun p hp => ⟨fun h => hd3 _ (List.mem_append_left _ h) (List.mem_map_of_mem (f := fun p : Nat × Nat => p.1) hp), fun h => hd3 _ (List.mem_append_right _ h) (List.mem_map_of_mem (f := fun p : Nat × Nat => p.1) hp)⟩
  -- the callee's history and what it borrows
  let ιc : Hist := fun t n => (own? owns t).bind fun t' => ι t' n
  have hιc : ∀ p ∈ owns, ∀ n, ιc p.2 n = ι p.1 n := fun p hp n => by
    show (own? owns p.2).bind _ = _
    rw [own?_of_mem hd2 hp]; rfl
  let Bc : Nat → Prop := fun b => C.Bw b ∨ ∃ t ∈ lent, ∃ r, sget st t = some r ∧ curBlk ι t r = some b
  have hcur : ∀ {t t' : Nat} {r : Row}, (t, t') ∈ owns → curBlk ιc t' r = curBlk ι t r := fun {t t' r} h => by
    cases r <;> simp only [curBlk, hιc _ h]
  have hrows : ∀ t' r, sget (cstOf st owns) t' = some r → ∃ t, (t, t') ∈ owns ∧ sget st t = some r ∧ sget (delAll st frz) t = some r := fun t' r h => by
    obtain ⟨t, h1, h2⟩ := cstOf_get h
    exact ⟨t, h1, h2, by rw [sget_delAll, if_neg (hne _ h1).1]; exact h2⟩
  have hsl : ∀ t t', (t, t') ∈ owns → ∃ e k es, sget st t = some (.sl e k es) := fun t t' h => by
    rw [eo] at h
    obtain ⟨q, hq, he⟩ := List.mem_filterMap.1 h
    have hp := hcells q hq
    obtain ⟨x, y⟩ := q
    cases x <;> cases y <;> simp [ownP] at he
    obtain ⟨rfl, rfl⟩ := he
    simp only [passC] at hp
    obtain ⟨e, k, es, hr, _⟩ := rowN_spec hp.2
    exact ⟨e, k, es, hr⟩
  have hcall := hcall.2 w S1 Bc ιc (above owns) vs
  have hMy : ∀ b, (w.heap.size ≤ b ∨ ∃ t r, sget (cstOf st owns) t = some r ∧ curBlk ιc t r = some b) → C.My b ∧ ¬ S1 b ∧ ¬ C.Bw b ∧ (∀ t r, t ∉ owns.map (·.1) → sget st t = some r → curBlk ι t r ≠ some b) := by
    intro b hb
    rcases hb with hb | ⟨t', r, h1, h2⟩
    · exact ⟨A.h.my b hb, fun h => absurd (hf1.dat b h).1 (by omega), fun h => absurd (A.h.bw b h) (by omega), fun t r _ hr hcb => absurd ((A.h.row t r hr).lt hcb) (by omega)⟩
    · obtain ⟨t, h3, h4, h5⟩ := hrows t' r h1
      rw [hcur h3] at h2
      obtain ⟨q1, q2, q3⟩ := hf1.mine t r b h5 h2
      exact ⟨q1, q2, q3, fun t2 r2 hn hr2 hcb => hn (by rw [A.h.sep t2 t r2 r b hr2 h4 hcb h2]; exact List.mem_map_of_mem (f := fun p : Nat × Nat => p.1) h3)⟩
  have hstart := hcall (by
    refine ⟨trivial, fun t' r hr => ?_, fun t1 t2 r1 r2 b h1 h2 h3 h4 => ?_, fun t r b h1 h2 => ⟨.inr ⟨t, r, h1, h2⟩, ?_⟩, fun b hb => ⟨(hf1.dat b hb).1, .inl hb⟩, fun b hb => hb, fun b hb => ?_, fun t n v h => ?_, fun b hb => .inl hb⟩
    · obtain ⟨t, h3, h4, h5⟩ := hrows t' r hr
      obtain ⟨e, k, es, h6⟩ := hsl t t' h3
      rw [h4] at h6
      injection h6 with h6
      subst h6
      cases hf1.row t _ h5 with
      | sl g1 g2 g3 g4 g5 => exact .sl (by rw [hιc _ h3]; exact g1) g2 g3 g4 fun n hn => g5 n (by rw [hιc _ h3] at hn; exact hn)
    · obtain ⟨u1, a1, a2, _⟩ := hrows t1 r1 h1
      obtain ⟨u2, b1, b2, _⟩ := hrows t2 r2 h2
      rw [hcur a1] at h3
      rw [hcur b1] at h4
      have hu := A.h.sep u1 u2 r1 r2 b a2 b2 h3 h4
      subst hu
      exact nodup_fst hd1 a1 b1
    · obtain ⟨t1, h3, h4, h5⟩ := hrows t r h1
      have h2' := h2
      rw [hcur h3] at h2'
      obtain ⟨q1, q2, q3⟩ := hf1.mine t1 r b h5 h2'
      refine ⟨q2, fun hB => ?_⟩
      rcases hB with hB | ⟨t2, ht2, r2, hr2, hb2⟩
      · exact q3 hB
      · have := A.h.sep t2 t1 r2 r b hr2 h4 hb2 h2'
        subst this
        exact (hne _ h3).2 ht2
    · rcases hb with hb | ⟨t, _, r, hr, hb⟩
      · exact A.h.bw b hb
      · exact (A.h.row t r hr).lt hb
    · have : (own? owns t).bind (fun t' => ι t' n) = some v := h
      cases ho : own? owns t with
      | none => rw [ho] at this; cases this
      | some t1 => exact above_lt (own?_mem ho)) (by
    refine ⟨by rw [hv.1, hlen], fun i y hy => ?_⟩
    have hi : i < args.length := by rw [hlen]; exact (List.getElem?_eq_some_iff.1 hy).1
    have hx := List.getElem?_eq_getElem hi
    obtain ⟨p1, p2⟩ := hpos i _ y hx hy
    exact tv_pass A.h (L := L) p1 p2 (hv.2 i _ hx) hf2.s (by rw [← ef]; exact hf3) (fun b hb => .inl hb) (fun t ht r hr b hb => .inr ⟨t, by rw [el]; exact ht, r, hr, hb⟩) (by rw [← eo]; exact hιc))
  refine hstart.mono fun e w' he => ?_
  obtain ⟨v, ι', S', rfl, hext, K, hres, hkeep⟩ := he
  generalize hkp : keptP owns (rst.map (·.1)) = kept at *
  refine ⟨v, rfl, hren kept tk ι ι', S', ?_⟩
  have hlt64 : ∀ t n v, ι' t n = some v → t < 64 := K.nx
  have hExt : Ext C.My w w' := ⟨hext.os, hext.tape, hext.output, hext.size, fun b hb hn => hext.block b hb fun hm => hn (hMy b hm).1⟩
  have hrst : ∀ t r, sget rst t = some r → t < 64 := fun t r hr => by
    obtain ⟨n, v, h⟩ := (K.row t r hr).hist
    exact hlt64 _ _ _ h
  have hstt : ∀ t r, sget st t = some r → ¬ (tk ≤ t ∧ t < tk + 64) := fun t r hr hh => by
    obtain ⟨n, v, h⟩ := (A.h.row t r hr).hist
    rw [A.free t n hh.1 hh.2] at h
    cases h
  have hkm : ∀ {t t'}, (t, t') ∈ kept → (t, t') ∈ owns ∧ t' ∈ rst.map (·.1) := fun h => by rw [← hkp] at h; exact keptP_mem.1 h
  have hkn : (kept.map (·.1)).Nodup := by rw [← hkp]; exact keptP_sub1 hd1
  have hkt : ∀ {t}, t ∈ kept.map (·.1) → t ∈ owns.map (·.1) := fun h => by
    obtain ⟨p, hp, he⟩ := List.mem_map.1 h
    exact he ▸ List.mem_map_of_mem (f := fun p : Nat × Nat => p.1) (hkm (t := p.1) (t' := p.2) hp).1
  have hkfar : ∀ t ∈ kept.map (·.1), ¬ (tk ≤ t ∧ t < tk + 64) := fun t h => by
    obtain ⟨p, hp, he⟩ := List.mem_map.1 (hkt h)
    obtain ⟨e, k, es, hr⟩ := hsl p.1 p.2 hp
    exact he ▸ hstt p.1 _ hr
  have hρ : ∀ t n, t < 64 → hren kept tk ι ι' (rho kept tk t) n = ι' t n := fun t n h => hren_rho hkn hkfar h
  have hmono : ∀ t n v, ι t n = some v → hren kept tk ι ι' t n = some v := fun t n v h => by
    by_cases hm : t ∈ kept.map (·.1)
    · obtain ⟨⟨t1, t'⟩, hp, he⟩ := List.mem_map.1 hm
      simp only at he
      subst he
      unfold hren
      rw [own?_swap hkn hp]
      obtain ⟨ho, hr⟩ := hkm hp
      refine hkeep t' n v ?_ ?_ (by rw [hιc _ ho]; exact h)
      · obtain ⟨e, k, es, hr1⟩ := hsl _ _ ho
        intro hnone
        have hc := cstOf_mem hd2 ho hr1
        rw [hnone] at hc
        cases hc
      · intro hnone
        obtain ⟨⟨a, r0⟩, hq, he⟩ := List.mem_map.1 hr
        simp only at he
        subst he
        exact sget_ne_none hq hnone
    · rw [hren_old (fun hh => by rw [A.free t n hh.1 hh.2] at h; cases h) hm]
      exact h
  have hL : Later C w w' S S' ι (hren kept tk ι ι') := by
    refine ⟨fun b hb => K.s0 b (hf2.s b hb), fun b hb => ?_, hmono⟩
    have hlt : b < w.heap.size := by
      rcases hb with hb | hb
      · exact (A.h.dat b hb).1
      · exact A.h.bw b hb
    refine hext.block b hlt fun hm => ?_
    obtain ⟨_, q2, q3, _⟩ := hMy b hm
    rcases hb with hb | hb
    · exact q2 (hf2.s b hb)
    · exact q3 hb
  have hold : ∀ t r b, t ∉ frz ++ owns.map (·.1) → sget st t = some r → curBlk ι t r = some b → w'.heap[b]? = w.heap[b]? ∧ ¬ S' b := fun t r b hn hr hb => by
    have hno : ¬ (w.heap.size ≤ b ∨ ∃ t r, sget (cstOf st owns) t = some r ∧ curBlk ιc t r = some b) := fun hm => (hMy b hm).2.2.2 t r (fun h => hn (List.mem_append_right _ h)) hr hb
    refine ⟨hext.block b ((A.h.row t r hr).lt hb) hno, fun hS => ?_⟩
    rcases (K.dat b hS).2 with h | h
    · exact (hf1.mine t r b (by rw [sget_delAll, if_neg (fun h => hn (List.mem_append_left _ h))]; exact hr) hb).2.1 h
    · exact hno h
  refine ⟨?_, ⟨A.hst _ _ _ A.h.fr hExt, fun t r hr => ?_, fun t1 t2 r1 r2 b h1 h2 h3 h4 => ?_, fun t r b h1 h2 => ?_, fun b hb => ?_, fun b hb => K.s0 b (hf2.s b (A.h.s0 b hb)), fun b hb => Nat.lt_of_lt_of_le (A.h.bw b hb) hext.size, fun t n v h => ?_, fun b hb => A.h.my b (Nat.le_trans hext.size hb)⟩, hL, hExt, fun t ht hnt n => ?_⟩
  · exact hres.ren hρ (fun b h => h) (fun l h => by cases h) hlt64
  · rcases supd_call_get hstt hrst hnr hr with ⟨t0, r0, rfl, ht0, hr0, rfl⟩ | ⟨hn, hr, ho⟩
    · exact (K.row t0 r0 hr0).ren hρ (fun b h => h) (fun l h => by cases h) hlt64
    · exact RowR.later hL (fun b hb => (hold t r b hn hr hb).1) (fun n => hren_old ho (fun h => hn (List.mem_append_right _ (hkt h)))) (A.h.row t r hr)
  · rcases supd_call_get hstt hrst hnr h1 with ⟨t0, r0, rfl, ht0, hr0, rfl⟩ | ⟨hn, hr, ho⟩ <;> rcases supd_call_get hstt hrst hnr h2 with ⟨t0', r0', rfl, ht0', hr0', rfl⟩ | ⟨hn', hr', ho'⟩
    · rw [curBlk_ren hρ ht0] at h3
      rw [curBlk_ren hρ ht0'] at h4
      rw [K.sep t0 t0' r0 r0' b hr0 hr0' h3 h4]
    · rw [curBlk_ren hρ ht0] at h3
      rw [curBlk_mono hmono (A.h.row _ _ hr')] at h4
      exact absurd h4 ((hMy b (K.mine t0 r0 b hr0 h3).1).2.2.2 t2 r2 (fun h => hn' (List.mem_append_right _ h)) hr')
    · rw [curBlk_ren hρ ht0'] at h4
      rw [curBlk_mono hmono (A.h.row _ _ hr)] at h3
      exact absurd h3 ((hMy b (K.mine t0' r0' b hr0' h4).1).2.2.2 t1 r1 (fun h => hn (List.mem_append_right _ h)) hr)
    · rw [curBlk_mono hmono (A.h.row _ _ hr)] at h3
      rw [curBlk_mono hmono (A.h.row _ _ hr')] at h4
      exact A.h.sep t1 t2 r1 r2 b hr hr' h3 h4
  · rcases supd_call_get hstt hrst hnr h1 with ⟨t0, r0, rfl, ht0, hr0, rfl⟩ | ⟨hn, hr, ho⟩
    · rw [curBlk_ren hρ ht0] at h2
      have hm := K.mine t0 r0 b hr0 h2
      obtain ⟨q1, _, q3, _⟩ := hMy b hm.1
      exact ⟨q1, hm.2.1, q3⟩
    · rw [curBlk_mono hmono (A.h.row _ _ hr)] at h2
      obtain ⟨q1, _, q3⟩ := A.h.mine t r b hr h2
      exact ⟨q1, (hold t r b hn hr h2).2, q3⟩
  · obtain ⟨q1, q2⟩ := K.dat b hb
    refine ⟨q1, ?_⟩
    rcases q2 with q2 | q2
    · exact (hf1.dat b q2).2
    · exact .inr (hMy b q2).1
  · by_cases hm : t ∈ kept.map (·.1)
    · obtain ⟨p, hp, he⟩ := List.mem_map.1 (hkt hm)
      obtain ⟨e, k, es, hr⟩ := hsl p.1 p.2 hp
      obtain ⟨n', v', hh⟩ := (A.h.row _ _ hr).hist
      rw [he] at hh
      exact Nat.lt_of_lt_of_le (A.h.nx _ _ _ hh) A.le
    · by_cases hh : tk ≤ t ∧ t < tk + 64
      · have := A.lt; omega
      · rw [hren_old hh hm] at h
        exact Nat.lt_of_lt_of_le (A.h.nx t n v h) A.le
  · have hm : t ∉ kept.map (·.1) := fun hm => by
      obtain ⟨p, hp, he⟩ := List.mem_map.1 (hkt hm)
      obtain ⟨e, k, es, hr⟩ := hsl p.1 p.2 hp
      obtain ⟨n', v', hh⟩ := (A.h.row _ _ hr).hist
      rw [he, ht n'] at hh
      cases hh
    rw [hren_old hnt hm]
    exact ht n

end Go.Proofs.VL
