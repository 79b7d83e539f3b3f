/- The value level is sound, 11: what an operation looks at. -/
import Derived.Test.YtoclhejbhefgeaaVL
set_option linter.unusedVariables false
set_option linter.unusedSimpArgs false
namespace Go.Proofs.VL
open Go

variable {C : Ctx} {w : World} {S : Nat → Prop} {ι : Hist} {P : Program} {tt : Tab} {st st' : Store} {nx nx' : Nat} {out : List (List D)} {tk : Nat} {tm tm' : List TV}

theorem mem_opTmps {op : Op} {t : Nat} (h : Operand.tmp t ∈ op.operands.toList) : t ∈ opTmps op := List.mem_filterMap.2 ⟨_, h, rfl⟩

/-! ### The frame's slots -/
theorem vstep_tm {op : Op} (h : ∀ x ∈ op.operands.toList, ev tm' x = ev tm x) : vstep tt tm' st tk op = vstep tt tm st tk op := by
  have hl : ∀ l : List Operand, (∀ x ∈ l, ev tm' x = ev tm x) → l.map (ev tm') = l.map (ev tm) := fun l hl => List.map_congr_left hl
  cases op with
  | build T ps =>
    simp only [vstep, vpure]
    congr 2
    refine List.map_congr_left fun p hp => ?_
    rw [h p.2 (by simp only [Op.operands]; exact List.mem_map_of_mem (f := fun p : Nat × Operand => p.2) hp)]
  | buildSlice T n ps =>
    simp only [vstep]
    congr 1
    refine List.map_congr_left fun p hp => ?_
    rw [h p.2 (by simp only [Op.operands]; exact List.mem_map_of_mem (f := fun p : Nat × Operand => p.2) hp)]
  | makeFunc f first cap =>
    simp only [vstep, vpure]
    rw [hl cap.toList fun x hx => h x (by simp [Op.operands]; exact .inr (by simpa using hx))]
  | slice T x lo hi mx =>
    simp only [vstep]
    have h1 : ev tm' x = ev tm x := h x (by simp [Op.operands])
    have h2 : lo.map (ev tm') = lo.map (ev tm) := by
      cases lo with
      | none => rfl
      | some y => simp only [Option.map_some]; rw [h y (by simp [Op.operands])]
    have h3 : hi.map (ev tm') = hi.map (ev tm) := by
      cases hi with
      | none => rfl
      | some y => simp only [Option.map_some]; rw [h y (by simp [Op.operands])]
    rw [h1, h2, h3]
  | call c =>
    obtain ⟨callee, args, ats⟩ := c
    simp only [vstep]
    rw [hl args.toList fun x hx => h x (by cases callee <;> simp [Op.operands, Call.operands] <;> simp_all)]
    cases callee with
    | value f => simp only [vcallc]; rw [h f (by simp [Op.operands, Call.operands])]
    | _ => rfl
  | _ => simp only [vstep, vpure] <;> (try rfl) <;> simp_all [Op.operands]

theorem ev_agree {x : Operand} (h : ∀ t, x = .tmp t → geti tm' t = geti tm t) : ev tm' x = ev tm x := by
  cases x with
  | tmp t => exact h t rfl
  | _ => rfl
theorem vstep_tm' {op : Op} (h : ∀ t ∈ opTmps op, geti tm' t = geti tm t) : vstep tt tm' st tk op = vstep tt tm st tk op :=
  vstep_tm fun x hx => ev_agree fun t ht => h t (mem_opTmps (ht ▸ hx))

/-! ### The store -/
theorem dOf_agree {x : CV} {y : D} {g : List Nat} (h : dOf st x = some (y, g)) (ha : ∀ t ∈ g, sget st' t = sget st t) : dOf st' x = some (y, g) := by
  unfold dOf at h ⊢
  split at h
  · exact h
  · exact h
  · exact h
  · rename_i t n
    split at h
    · rename_i e k es hr
      split at h
      · rename_i hn
        injection h with h
        injection h with e1 e2
        subst e1; subst e2
        have := ha t (by simp)
        simp only [this, hr, hn, if_true]
      · cases h
    · cases h
  · cases h
theorem dsOf_agree : ∀ {xs : List CV} {ys : List D} {g : List Nat}, dsOf st xs = some (ys, g) → (∀ t ∈ g, sget st' t = sget st t) → dsOf st' xs = some (ys, g)
  | [], ys, g, h, _ => h
  | x :: r, ys, g, h, ha => by
    simp only [dsOf] at h ⊢
    cases h1 : dOf st x with
    | none => rw [h1] at h; cases h
    | some p =>
      cases h2 : dsOf st r with
      | none => rw [h1, h2] at h; cases h
      | some q =>
        rw [h1, h2] at h
        simp only [Option.some.injEq, Prod.mk.injEq] at h
        obtain ⟨rfl, rfl⟩ := h
        rw [dOf_agree h1 (fun t ht => ha t (List.mem_append_left _ ht)), dsOf_agree h2 (fun t ht => ha t (List.mem_append_right _ ht))]
theorem elemsOf_agree {x : TV} {es : List (List D)} {g : List Nat} (h : elemsOf st x = some (es, g)) (ha : ∀ t ∈ g, sget st' t = sget st t) : elemsOf st' x = some (es, g) := by
  unfold elemsOf at h ⊢
  split at h
  · exact h
  · exact h
  · exact h
  · exact h
  · rename_i t n
    split at h
    · rename_i e k es' hr
      split at h
      · rename_i hn
        injection h with h
        injection h with e1 e2
        subst e1; subst e2
        have := ha t (by simp)
        simp only [this, hr, hn, if_true]
      · cases h
    · cases h
  · cases h
theorem setParts_agree {k : Nat} : ∀ {parts : List (Nat × TV)} {es zs : List (List D)} {g : List Nat}, setParts st k es parts = some (zs, g) → (∀ t ∈ g, sget st' t = sget st t) → setParts st' k es parts = some (zs, g)
  | [], es, zs, g, h, _ => h
  | (i, x) :: r, es, zs, g, h, ha => by
    simp only [setParts] at h ⊢
    cases hc : cellsOf x with
    | none => rw [hc] at h; cases h
    | some xs =>
      rw [hc] at h
      simp only [Option.bind_some] at h ⊢
      cases h1 : dsOf st xs with
      | none => rw [h1] at h; cases h
      | some p =>
        obtain ⟨ys, g1⟩ := p
        rw [h1] at h
        simp only at h
        split at h
        · rename_i hcond
          cases h2 : setParts st k (es.set i ys) r with
          | none => rw [h2] at h; cases h
          | some q =>
            obtain ⟨zs', g2⟩ := q
            rw [h2] at h
            simp only [Option.some.injEq, Prod.mk.injEq] at h
            obtain ⟨rfl, rfl⟩ := h
            rw [dsOf_agree h1 (fun t ht => ha t (List.mem_append_left _ ht))]
            simp only
            rw [if_pos hcond, setParts_agree h2 (fun t ht => ha t (List.mem_append_right _ ht))]
        · cases h

theorem vstep_st {op : Op} {tv : TV} {u : Upd} {r : List Nat} (hg : (vstep tt tm st tk op).gives tv u r) (ha : ∀ t ∈ r, sget st' t = sget st t) : (vstep tt tm st' tk op).gives tv u r := by
  cases op <;> simp only [vstep] at hg ⊢ <;> (try exact hg)
  case buildSlice T n parts =>
    unfold vbuildSlice at hg ⊢
    split at hg
    · rename_i e j he
      cases hs : setParts st j.size (List.replicate n (dzero j.zero)) (parts.toList.map fun p => (p.1, ev tm p.2)) with
      | none => rw [hs] at hg; exact hg.elim
      | some q =>
        obtain ⟨zs, g⟩ := q
        rw [hs] at hg
        simp only [vbsl] at hg
        have hg' := hg
        obtain ⟨_, _, _, rfl⟩ := hg
        rw [setParts_agree hs ha]
        exact hg'
    · exact hg.elim
  case load T x =>
    unfold vload at hg ⊢
    split at hg
    · rename_i i t off hi hx
      have hr : r = [t] := by
        unfold vloadAt at hg
        split at hg
        · split at hg
          · split at hg
            · exact hg.2.2.symm
            · exact hg.elim
          · exact hg.elim
        · exact hg.elim
      subst hr
      rw [ha t (by simp)]
      exact hg
    · rename_i i t n off hi hx
      have hr : r = [t] := by
        unfold vloadEl at hg
        split at hg
        · split at hg
          · exact hg.2.2.2.symm
          · exact hg.elim
        · exact hg.elim
      subst hr
      rw [ha t (by simp)]
      exact hg
    · exact hg
    · exact hg
  case store T x y =>
    unfold vstore at hg ⊢
    split at hg
    · rename_i i t off xs hi hx hc
      have hr : r = [t] := by
        unfold vstoreAt at hg
        split at hg
        · split at hg
          · exact hg.2.2.symm
          · exact hg.elim
        · exact hg.elim
      subst hr
      simp only [ha t (by simp)]
      exact hg
    · rename_i i t n off xs hi hx hc
      cases hd : dsOf st xs with
      | none => rw [hd] at hg; exact hg.elim
      | some q =>
        obtain ⟨ys, g⟩ := q
        cases hr : sget st t with
        | none => rw [hd, hr] at hg; exact hg.elim
        | some row =>
          cases row with
          | box _ _ => rw [hd, hr] at hg; exact hg.elim
          | sl e k es =>
            rw [hd, hr] at hg
            simp only [vstoreEl] at hg
            have hg' := hg
            obtain ⟨_, _, _, rfl⟩ := hg
            simp only [dsOf_agree hd (fun t' ht' => ha t' (List.mem_cons_of_mem _ ht')), ha t (by simp), hr]
            exact hg'
    · exact hg.elim
  case indexAddr T x j =>
    unfold vindex at hg ⊢
    split at hg
    · exact hg
    · exact hg
    · rename_i j' t m k n hj hx hn
      have hr : r = [t] := by
        unfold vindexOwn at hg
        split at hg
        · exact hg.2.2.2.symm
        · exact hg.elim
      subst hr
      simp only [ha t (by simp)]
      exact hg
    · exact hg.elim
  case call c =>
    obtain ⟨callee, args, ats⟩ := c
    cases callee with
    | invoke _ _ => exact hg.elim
    | value f =>
      simp only [vcallc] at hg
      unfold vcallv at hg
      split at hg <;> exact hg.elim
    | builtin b =>
      simp only [vcallc] at hg ⊢
      unfold vbuiltin at hg ⊢
      split at hg
      · exact hg
      · exact hg
      · exact hg
      · rename_i s x hx
        split at hg
        · split at hg
          · split at hg
            · rename_i T T' hTT e j he
              cases hes : elemsOf st x with
              | none => rw [hes] at hg; unfold vappend at hg; split at hg <;> simp_all [OpRes.gives]
              | some q =>
                obtain ⟨xs, g⟩ := q
                rw [hes] at hg
                unfold vappend at hg
                split at hg
                · rename_i ei xs' g' h1 h2
                  injection h2 with h2
                  injection h2 with e1 e2
                  subst e1; subst e2
                  have hg' := hg
                  obtain ⟨_, _, _, rfl⟩ := hg
                  rw [elemsOf_agree hes ha]
                  injection h1 with h1
                  subst h1
                  rw [if_pos (by assumption)]
                  exact hg'
                · rename_i ei t n xs' g' h1 h2
                  injection h2 with h2
                  injection h2 with e1 e2
                  subst e1; subst e2
                  injection h1 with h1
                  subst h1
                  cases hr : sget st t with
                  | none => rw [hr] at hg; exact hg.elim
                  | some row =>
                    cases row with
                    | box _ _ => rw [hr] at hg; exact hg.elim
                    | sl e' k es =>
                      rw [hr] at hg
                      simp only [vappOwn] at hg
                      have hg' := hg
                      obtain ⟨_, _, _, rfl⟩ := hg
                      rw [elemsOf_agree hes (fun t' ht' => ha t' (List.mem_cons_of_mem _ ht'))]
                      rw [if_pos (by assumption)]
                      simp only [vappend, ha t (by simp), hr]
                      exact hg'
                · exact hg.elim
            · exact hg.elim
          · exact hg.elim
        · exact hg.elim
      · exact hg.elim

end Go.Proofs.VL
