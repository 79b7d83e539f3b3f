/- The value level is sound, 13: regions, in the text's order and in any. -/
import Derived.Test.YtoclhejbhefgeaaVN
set_option linter.unusedVariables false
set_option linter.unusedSimpArgs false
namespace Go.Proofs.VL
open Go

variable {C : Ctx} {w : World} {S : Nat → Prop} {ι : Hist} {P : Program} {tt : Tab} {st st' : Store} {nx nx' : Nat} {out : List (List D)} {tk : Nat} {tm tm' : List TV}

theorem run_enter {f : FuncId} {fn : Func} {c : Code} (hf : P.funcs[f]? = some fn) (hname : (fn.name == "runtime.NumGoroutine") = false) (hb : fn.body = some c) (args : Array Value) (w : World) :
    (callFunc f args).run P w = .ok (.enter f args) w := by
  have h1 : fn.name ≠ "runtime.NumGoroutine" := by simpa using hname
  simp [callFunc, hf, h1, hb]

theorem Act.put_keeps (a : Act) (d : Option Tmp) (v : Value) : (a.put d v).defers = a.defers := by cases d <;> rfl
def Stab (C : Ctx) : Prop := ∀ out w w', C.Fr out w → Ext C.My w w' → C.Fr out w'

theorem tm_at {a : Act} (h : TmR C w S ι tm a.tmps) {d : Nat} {b : Bool} (hd : geti tm d = boo b) : a.tmps[d]? = some (.bool b) := by
  rw [geti_eq] at hd
  cases ht : tm[d]? with
  | none => rw [ht] at hd; cases hd
  | some x =>
    rw [ht] at hd
    simp only [Option.getD_some] at hd
    subst hd
    have h1 := h.2 d _ ht
    obtain ⟨h1, _⟩ := tvr_v h1
    have hl : d < a.tmps.size := by rw [h.1]; exact (List.getElem?_eq_some_iff.1 ht).1
    rw [arr_some hl, h1]

theorem execOp_enter {a : Act} {o : Oper} {g : FuncId} {args : List TV} (htm : TmR C w S ι tm a.tmps) (h : vstep tt tm st tk o.op = .call g args) (he : Enters P g) :
    ∃ vs, (execOp a.eval o).run P w = .ok (.enter g vs) w ∧ TmR C w S ι args vs := by
  have hev := ev_spec htm
  obtain ⟨dst, op, ty, pos, aft, gd⟩ := o
  have hcall : ∃ c, op = .call c := by
    cases op <;> simp only [vstep] at h <;> (try (unfold okOf at h; split at h <;> cases h; done)) <;> (try exact ⟨_, rfl⟩)
    all_goals exfalso
    all_goals (try unfold valloc at h)
    all_goals (try unfold vbox at h)
    all_goals (try unfold vbuildSlice at h)
    all_goals (try unfold vbsl at h)
    all_goals (try unfold vmakeSlice at h)
    all_goals (try unfold vload at h)
    all_goals (try unfold vloadAt at h)
    all_goals (try unfold vloadEl at h)
    all_goals (try unfold vstore at h)
    all_goals (try unfold vstoreAt at h)
    all_goals (try unfold vstoreEl at h)
    all_goals (try unfold vindex at h)
    all_goals (try unfold vipAt at h)
    all_goals (try unfold vindexOwn at h)
    all_goals (try unfold vsliceop at h)
    all_goals (try unfold vslice at h)
    all_goals (try unfold vslice2 at h)
    all_goals ((repeat' split at h) <;> cases h)
  obtain ⟨⟨callee, as, ats⟩, rfl⟩ := hcall
  cases callee with
  | invoke _ _ => simp [vstep, vcallc] at h
  | builtin b =>
    exfalso
    simp only [vstep, vcallc] at h
    unfold vbuiltin okOf vappend vappOwn at h
    (repeat' split at h) <;> cases h
  | value f =>
    simp only [vstep, vcallc] at h
    unfold vcallv at h
    split at h
    · rename_i g' cap hf
      injection h with h1 h2
      subst h1; subst h2
      have hfv := hev f
      rw [hf] at hfv
      generalize hfe : a.eval f = vf at hfv
      cases tvr_c hfv with
      | fn h1 h2 =>
        rename_i vs
        obtain ⟨fn, c, hfn, hname, hbody⟩ := he
        refine ⟨as.map a.eval ++ vs, ?_, ?_⟩
        · simp only [execOp, resolve, hfe, Deferred.ofValue, invoke, Sem.run_bind, Sem.run_pure, Result.andThen_ok, Array.empty_append]
          exact run_enter hfn hname hbody _ _
        · refine ⟨by simp [h1], fun i x hx => ?_⟩
          rw [List.getElem?_append] at hx
          simp only [List.length_map, Array.length_toList] at hx
          rw [Array.getD_eq_getD_getElem?, Array.getElem?_append]
          simp only [Array.size_map]
          split at hx
          · rename_i hi
            rw [if_pos hi]
            rw [List.getElem?_map] at hx
            cases hc : as.toList[i]? with
            | none => simp [hc] at hx
            | some y =>
              simp [hc] at hx
              subst hx
              simp only [Array.getElem?_toList] at hc
              simp only [Array.getElem?_map, hc, Option.map_some, Option.getD_some]
              exact hev y
          · rename_i hi
            rw [if_neg hi]
            rw [List.getElem?_map] at hx
            cases hc : cap[i - as.size]? with
            | none => simp [hc] at hx
            | some y =>
              simp [hc] at hx
              subst hx
              have := h2 _ y hc
              rw [Array.getD_eq_getD_getElem?] at this
              exact .c this
    · cases h
    · cases h

theorem vdo_not_defer {op : Op} {e : Eff} (h : VDo P tt op tk tm st e) : ∀ c, op ≠ .defer c := by
  intro c hc
  subst hc
  rcases h with h | ⟨f, args, h, _⟩
  · exact h
  · simp [vstep, vpure, okOf] at h

theorem region_step {n : Nat} {Q : Exit → Act → World → Prop} {full : Array Oper} (hT : TabOk P tt) (hst : Stab C) {s : List TV × Store} {X : Nat → Bool} {j : Nat} {o : Oper} {e : Eff} {a : Act} (hj : full[j]? = some o) (hjn : nx + 64 * j + 64 ≤ nx') (hX : X j = false)
    (hone : VOne P tt full o (nx + 64 * j) s.1 s.2 e) (hI : RI C out nx nx' s X a w) {K : Act → World → Prop} (hK : ∀ a' w', RI C out nx nx' (appE s o e) (fun k => X k || k == j) a' w' → K a' w') : wpOpIn Fence.wide n P full Q j K a w := by
  obtain ⟨ι, S, h1, h2, hdp, h3⟩ := hI
  have A : At C s.2 nx' nx' out w ι S (nx + 64 * j) := ⟨hst, h1, h3 j hX, Nat.le_refl _, hjn⟩
  have fin : ∀ v w', Out C (supd s.2 e.2.1) nx' out w ι S (nx + 64 * j) e.1 v w' → K (a.put o.dst v) w' := by
    intro v w' ⟨ι', S', q1, q2, q3, q4, q5⟩
    refine hK _ _ ⟨ι', S', q2, put_tm (h2.later q3) q1, by rw [Act.put_keeps]; exact hdp, fun k hk t n ht1 ht2 => ?_⟩
    simp only [Bool.or_eq_false_iff, beq_eq_false_iff_ne] at hk
    exact q5 t (fun n => h3 k hk.1 t n ht1 ht2) (by omega) n
  have hround : Fence.wide.round = none := rfl
  have doit : VDo P tt o.op (nx + 64 * j) s.1 s.2 e → o.wpIn Fence.wide n P a w K Q := by
    intro hd
    refine ⟨fun f _ => trivial, ?_⟩
    rw [Oper.semAt_plain _ _ _ (vdo_not_defer hd)]
    rcases hd with hd | ⟨f, args, hv, hc⟩
    · obtain ⟨nv, v, w', hr, hn, ho⟩ := vstep_sound A hT h2 o hd
      rw [hr]
      cases nv <;> simp only [nextVal, Option.some.injEq, reduceCtorEq] at hn
      · subst hn; exact fin _ _ ho
      · subst hn; exact fin _ _ ho
    · have hent : Enters P f := by obtain ⟨_, _, _, _, h, _⟩ := hc; exact h.1
      obtain ⟨vs, hr, hvs⟩ := execOp_enter h2 hv hent
      rw [hr]
      refine ⟨fun h => by simp [Fence.wide] at h, callsIn_wide.2 ((call_sound A hvs hc).mono fun e' w' he => ?_)⟩
      obtain ⟨v, rfl, ho⟩ := he
      exact fin _ _ ho
  have hyield : ∀ {g d wb b}, o.guard = some g → gslot full (some g) = some (d, wb) → geti s.1 d = boo b → g.2 = wb ∧ yielded full a.tmps g.1 = some b := by
    intro g d wb b hg hs hb
    obtain ⟨j', w0⟩ := g
    simp only [gslot] at hs
    cases hd : (full[j']?).bind (·.dst) with
    | none => rw [hd] at hs; cases hs
    | some d' =>
      rw [hd] at hs
      simp only [Option.some.injEq, Prod.mk.injEq] at hs
      obtain ⟨rfl, rfl⟩ := hs
      refine ⟨rfl, ?_⟩
      unfold yielded
      rw [hd]
      simp only [Option.bind_some]
      rw [tm_at h2 hb]
  unfold wpOpIn
  rw [hj]
  cases hone with
  | plain hg hd =>
    have hw : Region.wanted o (yielded full a.tmps) = true := by simp [Region.wanted, hg]
    simp only [hw, if_true]
    exact doit hd
  | yes hg hs hb hd =>
    rename_i g d wb
    obtain ⟨hgw, hy⟩ := hyield hg hs hb
    have hw : Region.wanted o (yielded full a.tmps) = true := by
      obtain ⟨j', w0⟩ := g
      simp only at hgw hy
      simp [Region.wanted, hg, hy, hgw]
    simp only [hw, if_true]
    exact doit hd
  | none hg hs hb he =>
    rename_i g d wb
    have hy : yielded full a.tmps g.1 = none := by
      obtain ⟨j', w0⟩ := g
      simp only [gslot] at hs
      unfold yielded
      cases hd : (full[j']?).bind (·.dst) with
      | none => rw [hd] at hs; cases hs
      | some d' =>
        rw [hd] at hs
        simp only [Option.some.injEq, Prod.mk.injEq] at hs
        obtain ⟨rfl, rfl⟩ := hs
        simp only [hd, Option.bind_some]
        have hv := ev_spec (a := a) h2 (.tmp d')
        simp only [ev, hb, Act.eval] at hv
        cases ht : a.tmps[d']? with
        | none => rfl
        | some v =>
          rw [Array.getD_eq_getD_getElem?, ht, Option.getD_some] at hv
          cases hv
          rfl
    have hw : Region.wanted o (yielded full a.tmps) = false := by
      obtain ⟨j', w0⟩ := g
      simp only at hy
      simp [Region.wanted, hg, hy]
    simp only [hw, Bool.false_eq_true, if_false]
    refine ⟨fun f _ => trivial, ?_⟩
    subst he
    exact fin undef w (Out.same h1 (Nat.le_refl _) (.tup rfl fun i x hx => by simp at hx))
  | no hg hs hb he =>
    rename_i g d wb
    obtain ⟨hgw, hy⟩ := hyield hg hs hb
    have hw : Region.wanted o (yielded full a.tmps) = false := by
      obtain ⟨j', w0⟩ := g
      simp only at hgw hy
      subst hgw
      simp [Region.wanted, hg, hy]
    simp only [hw, Bool.false_eq_true, if_false]
    refine ⟨fun f _ => trivial, ?_⟩
    subst he
    exact fin undef w (Out.same h1 (Nat.le_refl _) (.tup rfl fun i x hx => by simp at hx))

/-! ### In the text's order -/
theorem region_text {n : Nat} {Q : Exit → Act → World → Prop} {full : Array Oper} (hT : TabOk P tt) (hst : Stab C) {L : List (Oper × Eff)} (hL : L.map (·.1) = full.toList) (hnx : nx' = nx + 64 * full.size) {s0 : List TV × Store} (hch : VCh P tt full nx L 0 s0)
    (hQ : ∀ a w, RI C out nx nx' (appX (fun _ => true) L 0 s0) (fun k => decide (k < full.size)) a w → Q .normal a w) :
    ∀ (m i : Nat) (a : Act) (w : World), i + m = full.size → RI C out nx nx' (appX (fun k => decide (k < i)) L 0 s0) (fun k => decide (k < i)) a w → wpOpsIn Fence.wide n P full Q (List.range' i m) a w := by
  have hlen : L.length = full.size := by have := congrArg List.length hL; simpa using this
  intro m
  induction m with
  | zero =>
    intro i a w hi h
    simp only [List.range'_zero, wpOpsIn]
    have hi' : i = full.size := by omega
    subst hi'
    refine hQ a w (h.congr ?_ fun t => ?_)
    · refine tm_ext (by rw [appX_len, appX_len]) fun t => appX_geti _ _ _ _ rfl rfl fun k o e hk hne => ?_
      exact absurd (by have := (List.getElem?_eq_some_iff.1 hk).1; simp; omega) hne
    · refine appX_sget _ _ _ _ rfl fun k o e hk hne => ?_
      exact absurd (by have := (List.getElem?_eq_some_iff.1 hk).1; simp; omega) hne
  | succ m ih =>
    intro i a w hi h
    rw [List.range'_succ, wpOpsIn_cons]
    have hil : i < L.length := by omega
    obtain ⟨o, e, hLi⟩ : ∃ o e, L[i]? = some (o, e) := ⟨L[i].1, L[i].2, List.getElem?_eq_getElem hil⟩
    have hfi : full[i]? = some o := by
      have : (L.map (·.1))[i]? = some o := by rw [List.getElem?_map, hLi]; rfl
      rw [hL] at this
      simpa using this
    have hone := VCh_at L 0 s0 hch i i o e (by omega) hLi
    refine region_step hT hst hfi (by omega) (by simp) hone h fun a' w' h' => ih (i + 1) a' w' (by omega) ?_
    have hX : (fun k => decide (k < i) || k == i) = fun k => decide (k < i + 1) := funext fun k => by
      rw [Bool.eq_iff_iff]
      simp
      omega
    rw [hX] at h'
    have happ : ∀ (L : List (Oper × Eff)) (b : Nat) (s : List TV × Store), b ≤ i → L[i - b]? = some (o, e) → appX (fun k => decide (k < i + 1)) L b s = appE (appX (fun k => decide (k < i)) L b s) o e := by
      intro L
      induction L with
      | nil => intro b s _ hk; simp at hk
      | cons p L ih2 =>
        intro b s hb hk
        obtain ⟨o', e'⟩ := p
        simp only [appX]
        by_cases hbi : b = i
        · subst hbi
          simp at hk
          obtain ⟨rfl, rfl⟩ := hk
          rw [if_pos (by simp), if_neg (by simp), appX_below _ _ _ _ (Nat.le_refl _), appX_below _ _ _ _ (by omega)]
        · rw [if_pos (by simp; omega), if_pos (by simp; omega)]
          refine ih2 (b + 1) _ (by omega) ?_
          rw [show i - b = (i - (b + 1)) + 1 from by omega] at hk
          simpa using hk
    rw [happ L 0 s0 (Nat.zero_le _) (by simpa using hLi)]
    exact h'

/-! ### In any order -/
theorem pairsB_spec {full : Array Oper} {acc : Array (List Nat × List Nat)} (h : pairsB full acc full.size = true) (hs : acc.size = full.size) {k : Nat} {o' : Oper} (hk : full[k]? = some o') :
    (∀ e ∈ o'.after, Region.binds .any e = true → e.on < k) ∧ ∀ j o, j < k → full[j]? = some o → freeB full o o' (acc.getD j ([], [])) (acc.getD k ([], [])) = true ∨ afterB full j full.size k = true := by
  have hlt : k < full.size := (Array.getElem?_eq_some_iff.1 hk).1
  unfold pairsB at h
  rw [List.all_eq_true] at h
  have h1 := h k (by simpa using hlt)
  have hak : acc[k]? = some (acc.getD k ([], [])) := by simp [Array.getD_eq_getD_getElem?, Array.getElem?_eq_getElem (show k < acc.size by omega)]
  rw [hk, hak] at h1
  simp only [Bool.and_eq_true, List.all_eq_true, List.mem_range] at h1
  refine ⟨fun e he hb => ?_, fun j o hj ho => ?_⟩
  · have := Array.all_eq_true'.1 h1.1 e he
    simp [binds, hb] at this
    exact this
  · have h2 := h1.2 j hj
    have haj : acc[j]? = some (acc.getD j ([], [])) := by simp [Array.getD_eq_getD_getElem?, Array.getElem?_eq_getElem (show j < acc.size by omega)]
    rw [ho, haj] at h2
    simpa using h2

/-- The set of operations done is closed under what has to come before. -/
def Closed (full : Array Oper) (X : Nat → Bool) : Prop := ∀ k o, X k = true → full[k]? = some o → ∀ e ∈ o.after, Region.binds .any e = true → X e.on = true
theorem after_closed {full : Array Oper} {X : Nat → Bool} (hX : Closed full X) {j : Nat} : ∀ (fuel k : Nat), afterB full j fuel k = true → X k = true → X j = true := by
  intro fuel
  induction fuel with
  | zero => intro k h; simp [afterB] at h
  | succ fuel ih =>
    intro k h hk
    simp only [afterB] at h
    split at h
    · cases h
    · rename_i o ho
      rw [Array.any_eq_true'] at h
      obtain ⟨e, he, hb⟩ := h
      simp only [Bool.and_eq_true, Bool.or_eq_true, beq_iff_eq, decide_eq_true_eq, binds] at hb
      have hon := hX k o hk ho e he hb.1
      rcases hb.2 with h1 | ⟨_, h1⟩
      · rw [← h1]; exact hon
      · exact ih _ h1 hon
theorem hits_spec {a b : List Nat} (h : hits a b = false) {t : Nat} (ha : t ∈ a) : t ∉ b := by
  intro hb
  have : hits a b = true := by
    unfold hits
    rw [List.any_eq_true]
    exact ⟨t, ha, by simpa using hb⟩
  rw [h] at this; cases this

theorem freeB_spec {full : Array Oper} {o o' : Oper} {k k' : List Nat × List Nat} (h : freeB full o o' k k' = true) :
    (∀ t, o.dst = some t → o'.dst ≠ some t ∧ t ∉ looks full o') ∧ (∀ t, o'.dst = some t → t ∉ looks full o) ∧ (∀ t ∈ k.1, t ∉ k'.1 ∧ t ∉ k'.2) ∧ (∀ t ∈ k'.1, t ∉ k.2) := by
  simp only [freeB, Bool.and_eq_true, Bool.not_eq_true'] at h
  obtain ⟨⟨⟨h1, h2⟩, h3⟩, h4⟩ := h
  refine ⟨fun t ht => ?_, fun t ht => hits_spec h2 (by simp [ht]), fun t ht => ?_, fun t ht => hits_spec h4 ht⟩
  · have := hits_spec h1 (t := t) (by simp [ht])
    simp only [List.mem_append, not_or] at this
    exact ⟨fun e => this.1 (by simp [e]), this.2⟩
  · have := hits_spec h3 ht
    simp only [List.mem_append, not_or] at this
    exact this

/-- Of two operations in the text's order: where they clash, the second comes with the first. -/
structure Clash (full : Array Oper) (L : List (Oper × Eff)) (X : Nat → Bool) : Prop where
  lt : ∀ j k o e o' e', j < k → L[j]? = some (o, e) → L[k]? = some (o', e') → X k = true → X j = false → freeB full o o' e.key e'.key = true

theorem region_any_step {n : Nat} {Q : Exit → Act → World → Prop} {full : Array Oper} (hT : TabOk P tt) (hst : Stab C) {L : List (Oper × Eff)} (hL : L.map (·.1) = full.toList) (hnx : nx' = nx + 64 * full.size) {s0 : List TV × Store} (hch : VCh P tt full nx L 0 s0)
    {X : Nat → Bool} {j : Nat} {o : Oper} {e : Eff} (hLj : L[j]? = some (o, e)) (hXj : X j = false) (hc : ∀ Y : Nat → Bool, (Y = X ∨ Y = fun k => X k || k == j) → Clash full L Y) {a : Act} (h : RI C out nx nx' (appX X L 0 s0) X a w)
    {K : Act → World → Prop} (hK : ∀ a' w', RI C out nx nx' (appX (fun k => X k || k == j) L 0 s0) (fun k => X k || k == j) a' w' → K a' w') : wpOpIn Fence.wide n P full Q j K a w := by
  have hlen : L.length = full.size := by have := congrArg List.length hL; simpa using this
  have hjl : j < L.length := (List.getElem?_eq_some_iff.1 hLj).1
  have hfj : full[j]? = some o := by
    have : (L.map (·.1))[j]? = some o := by rw [List.getElem?_map, hLj]; rfl
    rw [hL] at this
    simpa using this
  have hX := hc X (.inl rfl)
  have hY := hc _ (.inr rfl)
  have hone := VCh_at L 0 s0 hch j j o e (by omega) hLj
  -- a clashing operation before 'j' is done, one behind 'j' is not
  have before : ∀ k o' e', k < j → L[k]? = some (o', e') → X k = false → freeB full o' o e'.key e.key = true := fun k o' e' hk hLk hXk =>
    hY.lt k j o' e' o e hk hLk hLj (by simp) (by simp [hXk]; omega)
  have behind : ∀ k o' e', j < k → L[k]? = some (o', e') → X k = true → freeB full o o' e.key e'.key = true := fun k o' e' hk hLk hXk =>
    hX.lt j k o e o' e' hk hLj hLk hXk hXj
  have atj : VOne P tt full o (nx + 64 * j) (appX X L 0 s0).1 (appX X L 0 s0).2 e := by
    refine hone.agree (fun t ht => ?_) (fun t ht => ?_)
    · refine appX_geti _ _ _ _ rfl rfl fun k o' e' hk hne hd => ?_
      rw [Nat.zero_add] at hne
      by_cases hkj : k < j
      · have hXk : X k = false := by simpa [hkj] using hne
        exact ((freeB_spec (before k o' e' hkj hk hXk)).1 t hd).2 ht
      · have hXk : X k = true := by simpa [hkj] using hne
        have hne' : j < k := by
          rcases Nat.lt_or_eq_of_le (Nat.not_lt.1 hkj) with h | h
          · exact h
          · subst h; rw [hXj] at hXk; cases hXk
        exact (freeB_spec (behind k o' e' hne' hk hXk)).2.1 t hd ht
    · refine appX_sget _ _ _ _ rfl fun k o' e' hk hne hd => ?_
      rw [Nat.zero_add] at hne
      by_cases hkj : k < j
      · have hXk : X k = false := by simpa [hkj] using hne
        exact ((freeB_spec (before k o' e' hkj hk hXk)).2.2.1 t hd).2 ht
      · have hXk : X k = true := by simpa [hkj] using hne
        have hne' : j < k := by
          rcases Nat.lt_or_eq_of_le (Nat.not_lt.1 hkj) with h | h
          · exact h
          · subst h; rw [hXj] at hXk; cases hXk
        exact (freeB_spec (behind k o' e' hne' hk hXk)).2.2.2 t hd ht
  refine region_step hT hst hfj (by omega) hXj atj h fun a' w' h' => hK a' w' (h'.congr ?_ fun t => ?_)
  · -- the slots
    refine tm_ext (by rw [appX_len]; simp [appE, len_sett, appX_len]) fun t => ?_
    by_cases hd : o.dst = some t
    · have h1 : geti (appX (fun k => X k || k == j) L 0 s0).1 t = geti (appX (fun k => decide (k < j + 1)) L 0 s0).1 t := by
        refine appX_geti _ _ _ _ rfl rfl fun k o' e' hk hne hd' => ?_
        rw [Nat.zero_add] at hne
        by_cases hkj : k < j
        · have hXk : X k = false := by
            cases hx : X k with
            | false => rfl
            | true => simp [hx] at hne; omega
          exact ((freeB_spec (before k o' e' hkj hk hXk)).1 t hd').1 hd
        · by_cases hkj' : k = j
          · subst hkj'; simp at hne
          · have hXk : X k = true := by
              cases hx : X k with
              | true => rfl
              | false =>
                have : decide (k < j + 1) = false := by simp; omega
                simp [hx, hkj', this] at hne
            exact ((freeB_spec (behind k o' e' (by omega) hk hXk)).1 t hd).1 hd'
      rw [h1]
      have h2 : appX (fun k => decide (k < j + 1)) L 0 s0 = appE (appX (fun k => decide (k < j)) L 0 s0) o e := by
        have happ : ∀ (L : List (Oper × Eff)) (b : Nat) (s : List TV × Store), b ≤ j → L[j - b]? = some (o, e) → appX (fun k => decide (k < j + 1)) L b s = appE (appX (fun k => decide (k < j)) L b s) o e := by
          intro L
          induction L with
          | nil => intro b s _ hk; simp at hk
          | cons p L ih2 =>
            intro b s hb hk
            obtain ⟨o', e'⟩ := p
            simp only [appX]
            by_cases hbi : b = j
            · subst hbi
              simp at hk
              obtain ⟨rfl, rfl⟩ := hk
              rw [if_pos (by simp), if_neg (by simp), appX_below _ _ _ _ (Nat.le_refl _), appX_below _ _ _ _ (by omega)]
            · rw [if_pos (by simp; omega), if_pos (by simp; omega)]
              refine ih2 (b + 1) _ (by omega) ?_
              rw [show j - b = (j - (b + 1)) + 1 from by omega] at hk
              simpa using hk
        exact happ L 0 s0 (Nat.zero_le _) (by simpa using hLj)
      rw [h2]
      simp only [appE, geti_sett, appX_len, hd, true_and]
      split
      · rfl
      · rename_i hlt
        rw [geti_eq, geti_eq, List.getElem?_eq_none (by rw [appX_len]; omega), List.getElem?_eq_none (by rw [appX_len]; omega)]
    · have h1 : geti (appX (fun k => X k || k == j) L 0 s0).1 t = geti (appX X L 0 s0).1 t := by
        refine appX_geti _ _ _ _ rfl rfl fun k o' e' hk hne hd' => ?_
        rw [Nat.zero_add] at hne
        by_cases hkj : k = j
        · subst hkj; rw [hLj] at hk; injection hk with hk; injection hk with hk1 _; subst hk1; exact hd hd'
        · simp [hkj] at hne
      rw [h1]
      simp only [appE, geti_sett, hd, false_and, if_false]
  · -- the tokens
    by_cases hd : t ∈ e.2.1.map (·.1)
    · have h1 : sget (appX (fun k => X k || k == j) L 0 s0).2 t = sget (appX (fun k => decide (k < j + 1)) L 0 s0).2 t := by
        refine appX_sget _ _ _ _ rfl fun k o' e' hk hne hd' => ?_
        rw [Nat.zero_add] at hne
        by_cases hkj : k < j
        · have hXk : X k = false := by
            cases hx : X k with
            | false => rfl
            | true => simp [hx] at hne; omega
          exact ((freeB_spec (before k o' e' hkj hk hXk)).2.2.1 t hd').1 hd
        · by_cases hkj' : k = j
          · subst hkj'; simp at hne
          · have hXk : X k = true := by
              cases hx : X k with
              | true => rfl
              | false =>
                have : decide (k < j + 1) = false := by simp; omega
                simp [hx, hkj', this] at hne
            exact ((freeB_spec (behind k o' e' (by omega) hk hXk)).2.2.1 t hd).1 hd'
      rw [h1]
      have h2 : appX (fun k => decide (k < j + 1)) L 0 s0 = appE (appX (fun k => decide (k < j)) L 0 s0) o e := by
        have happ : ∀ (L : List (Oper × Eff)) (b : Nat) (s : List TV × Store), b ≤ j → L[j - b]? = some (o, e) → appX (fun k => decide (k < j + 1)) L b s = appE (appX (fun k => decide (k < j)) L b s) o e := by
          intro L
          induction L with
          | nil => intro b s _ hk; simp at hk
          | cons p L ih2 =>
            intro b s hb hk
            obtain ⟨o', e'⟩ := p
            simp only [appX]
            by_cases hbi : b = j
            · subst hbi
              simp at hk
              obtain ⟨rfl, rfl⟩ := hk
              rw [if_pos (by simp), if_neg (by simp), appX_below _ _ _ _ (Nat.le_refl _), appX_below _ _ _ _ (by omega)]
            · rw [if_pos (by simp; omega), if_pos (by simp; omega)]
              refine ih2 (b + 1) _ (by omega) ?_
              rw [show j - b = (j - (b + 1)) + 1 from by omega] at hk
              simpa using hk
        exact happ L 0 s0 (Nat.zero_le _) (by simpa using hLj)
      rw [h2]
      simp only [appE]
      exact sget_supd_in _ _ _ _ hd
    · have h1 : sget (appX (fun k => X k || k == j) L 0 s0).2 t = sget (appX X L 0 s0).2 t := by
        refine appX_sget _ _ _ _ rfl fun k o' e' hk hne hd' => ?_
        rw [Nat.zero_add] at hne
        by_cases hkj : k = j
        · subst hkj; rw [hLj] at hk; injection hk with hk; injection hk with _ hk2; subst hk2; exact hd hd'
        · simp [hkj] at hne
      rw [h1]
      simp only [appE]
      exact (sget_supd_other _ _ _ hd).symm

/-- The operations done, as a set. -/
def setOf (listed : Array Bool) : Nat → Bool := fun k => listed.getD k false
theorem setOf_set {listed : Array Bool} {j : Nat} (hj : j < listed.size) : setOf (listed.setIfInBounds j true) = fun k => setOf listed k || k == j := by
  funext k
  simp only [setOf, Array.getD_eq_getD_getElem?]
  by_cases h : j = k
  · subst h; simp [Array.getElem?_setIfInBounds_self_of_lt hj]
  · rw [Array.getElem?_setIfInBounds_ne h]; simp [Ne.symm h]
def unlisted (listed : Array Bool) : Nat := listed.toList.countP (· == false)

theorem region_any {n : Nat} {Q : Exit → Act → World → Prop} {full : Array Oper} (hT : TabOk P tt) (hst : Stab C) {L : List (Oper × Eff)} (hL : L.map (·.1) = full.toList) (hnx : nx' = nx + 64 * full.size) {s0 : List TV × Store} (hch : VCh P tt full nx L 0 s0)
    (hok : drawOk full (L.map (·.2.key)) = true) (hQ : ∀ a w, RI C out nx nx' (appX (fun _ => true) L 0 s0) (fun k => decide (k < full.size)) a w → Q .normal a w) :
    ∀ (fuel : Nat) (listed : Array Bool) (a : Act) (w : World), listed.size = full.size → fuel = unlisted listed → Closed full (setOf listed) → RI C out nx nx' (appX (setOf listed) L 0 s0) (setOf listed) a w → wpAnyIn Fence.wide n P .any full Q fuel listed a w := by
  have hlen : L.length = full.size := by have := congrArg List.length hL; simpa using this
  have hfull : ∀ (k : Nat) (o : Oper) (e : Eff), L[k]? = some (o, e) → full[k]? = some o := fun k o e hk => by
    have : (L.map (·.1))[k]? = some o := by rw [List.getElem?_map, hk]; rfl
    rw [hL] at this
    simpa using this
  have hacc : (L.map (·.2.key)).toArray.size = full.size := by simp [hlen]
  have hkey : ∀ (k : Nat) (o : Oper) (e : Eff), L[k]? = some (o, e) → (L.map (·.2.key)).toArray.getD k ([], []) = e.key := fun k o e hk => by
    simp [Array.getD_eq_getD_getElem?, hk]
  have clash : ∀ X, Closed full X → Clash full L X := fun X hX => ⟨fun j k o e o' e' hjk hj hk hXk hXj => by
    have := (pairsB_spec hok hacc (hfull k o' e' hk)).2 j o hjk (hfull j o e hj)
    rw [hkey j o e hj, hkey k o' e' hk] at this
    refine this.resolve_right fun h => ?_
    rw [after_closed hX _ _ h hXk] at hXj
    cases hXj⟩
  -- nothing ready: all is done
  have alldone : ∀ listed : Array Bool, listed.size = full.size → Region.ready .any full listed = [] → ∀ k, k < full.size → setOf listed k = true := by
    intro listed hs hr k
    induction k using Nat.strongRecOn with
    | ind k ih =>
      intro hk
      cases hx : setOf listed k with
      | true => rfl
      | false =>
        exfalso
        obtain ⟨o, ho⟩ : ∃ o, full[k]? = some o := ⟨_, Array.getElem?_eq_getElem hk⟩
        have hm : k ∈ Region.ready .any full listed := by
          refine mem_ready.2 ⟨?_, o, ho, fun e he hb => ?_⟩
          · simp only [setOf, Array.getD_eq_getD_getElem?, Array.getElem?_eq_getElem (show k < listed.size by omega), Option.getD_some] at hx ⊢
            exact hx
          · have := (pairsB_spec hok hacc ho).1 e he hb
            exact ih e.on this (by omega)
        rw [hr] at hm
        cases hm
  have done : ∀ listed (a : Act) (w : World), listed.size = full.size → Region.ready .any full listed = [] → RI C out nx nx' (appX (setOf listed) L 0 s0) (setOf listed) a w → Q .normal a w := by
    intro listed a w hs hr h
    have hall := alldone listed hs hr
    obtain ⟨ι, S, q1, q2, qd, q3⟩ := h
    refine hQ a w ⟨ι, S, q1.congr fun t => ?_, ?_, qd, fun k hk t m h1 h2 => q3 k ?_ t m h1 h2⟩
    · refine appX_sget _ _ _ _ rfl fun k o e hk hne => ?_
      have hkl := (List.getElem?_eq_some_iff.1 hk).1
      exact absurd (by rw [Nat.zero_add, hall k (by omega)]) hne
    · have : (appX (fun _ => true) L 0 s0).1 = (appX (setOf listed) L 0 s0).1 := by
        refine tm_ext (by rw [appX_len, appX_len]) fun t => appX_geti _ _ _ _ rfl rfl fun k o e hk hne => ?_
        have hkl := (List.getElem?_eq_some_iff.1 hk).1
        exact absurd (by rw [Nat.zero_add, hall k (by omega)]) hne
      rw [this]
      exact q2
    · have hk' : full.size ≤ k := by simpa using hk
      simp [setOf, Array.getD_eq_getD_getElem?, Array.getElem?_eq_none (show listed.size ≤ k by omega)]
  intro fuel
  induction fuel with
  | zero =>
    intro listed a w hs hf hX h
    have hr : Region.ready .any full listed = [] := by
      rw [List.eq_nil_iff_forall_not_mem]
      intro j hj
      obtain ⟨h1, o, ho, _⟩ := mem_ready.1 hj
      have hjl : j < listed.size := by rw [hs]; exact (Array.getElem?_eq_some_iff.1 ho).1
      have : 0 < unlisted listed := by
        unfold unlisted
        refine List.countP_pos_iff.2 ⟨listed[j], by simp, ?_⟩
        rw [Array.getD_eq_getD_getElem?, Array.getElem?_eq_getElem hjl, Option.getD_some] at h1
        simp [h1]
      omega
    exact ⟨hr, done listed a w hs hr h⟩
  | succ fuel ih =>
    intro listed a w hs hf hX h
    refine ⟨fun hr => done listed a w hs hr h, fun j hj => ?_⟩
    obtain ⟨h1, o, ho, hall⟩ := mem_ready.1 hj
    have hjl : j < listed.size := by rw [hs]; exact (Array.getElem?_eq_some_iff.1 ho).1
    have hXj : setOf listed j = false := by
      simp only [setOf, Array.getD_eq_getD_getElem?, Array.getElem?_eq_getElem hjl, Option.getD_some] at h1 ⊢
      exact h1
    obtain ⟨o', e, hLj⟩ : ∃ o e, L[j]? = some (o, e) := ⟨(L[j]'(by omega)).1, (L[j]'(by omega)).2, List.getElem?_eq_getElem (by omega)⟩
    have hoo : o' = o := by have := hfull j o' e hLj; rw [ho] at this; injection this with this; exact this.symm
    subst hoo
    have hX' : Closed full (fun k => setOf listed k || k == j) := by
      intro k o2 hk ho2 e2 he2 hb2
      simp only [Bool.or_eq_true, beq_iff_eq] at hk ⊢
      rcases hk with hk | hk
      · exact .inl (hX k o2 hk ho2 e2 he2 hb2)
      · subst hk
        rw [ho] at ho2
        injection ho2 with ho2
        subst ho2
        exact .inl (hall e2 he2 hb2)
    refine region_any_step hT hst hL hnx hch hLj hXj (fun Y hY => clash Y (by
      rcases hY with rfl | rfl
      · exact hX
      · exact hX')) h fun a' w' h' => ?_
    refine ih (listed.setIfInBounds j true) a' w' (by simp [hs]) ?_ (by rw [setOf_set hjl]; exact hX') (by rw [setOf_set hjl]; exact h')
    -- one fewer
    have hlj : listed.toList[j]'(by simpa using hjl) = false := by
      rw [Array.getD_eq_getD_getElem?, Array.getElem?_eq_getElem hjl, Option.getD_some] at h1
      simpa using h1
    have hcount : unlisted listed = unlisted (listed.setIfInBounds j true) + 1 := by
      unfold unlisted
      rw [Array.toList_setIfInBounds]
      have gen : ∀ (l : List Bool) (j : Nat) (hj : j < l.length), l[j] = false → l.countP (· == false) = (l.set j true).countP (· == false) + 1 := by
        intro l
        induction l with
        | nil => intro j hj; simp at hj
        | cons b l ih =>
          intro j hj hb
          cases j with
          | zero => simp at hb; subst hb; simp
          | succ j =>
            simp only [List.set_cons_succ, List.countP_cons]
            rw [ih j (by simpa using hj) (by simpa using hb)]
            omega
      exact gen _ j (by simpa using hjl) hlj
    omega

end Go.Proofs.VL
