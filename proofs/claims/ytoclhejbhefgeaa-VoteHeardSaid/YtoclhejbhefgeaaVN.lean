/- The value level is sound, 12: regions. -/
import Derived.Test.YtoclhejbhefgeaaVM
import Derived.OwnWalkIn
set_option linter.unusedVariables false
set_option linter.unusedSimpArgs false
namespace Go.Proofs.VL
open Go

variable {C : Ctx} {w : World} {S : Nat → Prop} {ι : Hist} {P : Program} {tt : Tab} {st st' : Store} {nx nx' : Nat} {out : List (List D)} {tk : Nat} {tm tm' : List TV}

/-- What an operation left: a value, updates, what it read. -/
abbrev Eff := TV × Upd × List Nat
def Eff.key (e : Eff) : List Nat × List Nat := (e.2.1.map (·.1), e.2.2)

/-- An operation that is carried out. -/
def VDo (P : Program) (tt : Tab) (op : Op) (tk : Nat) (tm : List TV) (st : Store) (e : Eff) : Prop :=
  (vstep tt tm st tk op).gives e.1 e.2.1 e.2.2 ∨ ∃ f args, vstep tt tm st tk op = .call f args ∧ CallOk P st f args tk e.1 e.2.1 e.2.2
/-- An operation, whether carried out or not. -/
inductive VOne (P : Program) (tt : Tab) (full : Array Oper) (o : Oper) (tk : Nat) (tm : List TV) (st : Store) (e : Eff) : Prop
  | plain : o.guard = none → VDo P tt o.op tk tm st e → VOne P tt full o tk tm st e
  | yes {g d w} : o.guard = some g → gslot full (some g) = some (d, w) → geti tm d = boo w → VDo P tt o.op tk tm st e → VOne P tt full o tk tm st e
  | no {g d w} : o.guard = some g → gslot full (some g) = some (d, w) → geti tm d = boo (!w) → e = (.tup [], [], []) → VOne P tt full o tk tm st e
  | none {g d w} : o.guard = some g → gslot full (some g) = some (d, w) → geti tm d = .tup [] → e = (.tup [], [], []) → VOne P tt full o tk tm st e

theorem gives_ne_call {x : OpRes} {tv : TV} {u : Upd} {r : List Nat} (h : x.gives tv u r) {f : FuncId} {args : List TV} : x ≠ .call f args := by
  intro e; subst e; exact h
theorem callOk_agree {f : FuncId} {args : List TV} {tv : TV} {u : Upd} {r : List Nat} (h : CallOk P st f args tk tv u r) (ha : ∀ t ∈ r, sget st' t = sget st t) : CallOk P st' f args tk tv u r := by
  obtain ⟨cargs, cst, res, rst, h1, h2, h3, h4, h5, h6, h7, rfl⟩ := h
  have hread : ∀ (l : List CV) (t n : Nat), CV.own t n ∈ l → t ∈ readC l := by
    intro l
    induction l with
    | nil => intro t n h; simp at h
    | cons x l ih =>
      intro t n h
      rcases List.mem_cons.1 h with q | q
      · subst q; simp [readC]
      · cases x <;> simp only [readC] <;> (try exact ih t n q)
        exact List.mem_cons_of_mem _ (ih t n q)
  have hc : ∀ x y, x ∈ flatTs args → passC st x y → passC st' x y := by
    intro x y hx hp
    cases x with
    | own t n =>
      have := ha t (hread _ t n hx)
      cases y <;> simp only [passC, this] at hp ⊢ <;> exact hp
    | d x => cases x <;> cases y <;> exact hp
    | fn f cap =>
      cases y with
      | fn g cap' => cases cap <;> cases cap' <;> exact hp
      | _ => cases cap <;> exact hp
    | _ => cases y <;> exact hp
  have hcs : ∀ (xs ys : List CV), (∀ x ∈ xs, x ∈ flatTs args) → passCs st xs ys → passCs st' xs ys := by
    intro xs
    induction xs with
    | nil => intro ys _ h; cases ys <;> exact h
    | cons x xs ih =>
      intro ys hm h
      cases ys with
      | nil => exact h
      | cons y ys => exact ⟨hc x y (hm x (by simp)) h.1, ih ys (fun z hz => hm z (by simp [hz])) h.2⟩
  have hts : ∀ (xs ys : List TV), (∀ x ∈ flatTs xs, x ∈ flatTs args) → passTs st xs ys → passTs st' xs ys := by
    intro xs
    induction xs with
    | nil => intro ys _ h; cases ys <;> exact h
    | cons x xs ih =>
      intro ys hm h
      cases ys with
      | nil => exact h
      | cons y ys =>
        refine ⟨?_, ih ys (fun z hz => hm z (by simp only [flatTs]; exact List.mem_append_right _ hz)) h.2⟩
        have hx : ∀ z ∈ flatT x, z ∈ flatTs args := fun z hz => hm z (by simp only [flatTs]; exact List.mem_append_left _ hz)
        have h1 := h.1
        cases x <;> cases y <;> simp only [passT] at h1 ⊢
        · exact hc _ _ (hx _ (by simp [flatT])) h1
        · exact hcs _ _ (fun z hz => hx z (by simpa [flatT] using hz)) h1
  have ho : ∀ (xs ys : List CV), (∀ x ∈ xs, x ∈ flatTs args) → cstOf st' (ownsC xs ys) = cstOf st (ownsC xs ys) := by
    intro xs
    induction xs with
    | nil => intro ys _; cases ys <;> rfl
    | cons x xs ih =>
      intro ys hm
      cases ys with
      | nil => cases x <;> rfl
      | cons y ys =>
        have ih := ih ys (fun z hz => hm z (by simp [hz]))
        cases x <;> cases y <;> (try exact ih)
        rename_i t n t' n'
        have := ha t (hread _ t n (hm _ (by simp)))
        simp only [ownsC, cstOf, this, ih]
  exact ⟨cargs, cst, res, rst, h1, hts _ _ (fun _ h => h) h2, by rw [h3, ho _ _ fun _ h => h], h4, h5, h6, h7, rfl⟩

theorem VDo.agree {op : Op} {e : Eff} (h : VDo P tt op tk tm st e) (h1 : ∀ t ∈ opTmps op, geti tm' t = geti tm t) (h2 : ∀ t ∈ e.2.2, sget st' t = sget st t) : VDo P tt op tk tm' st' e := by
  have htm : ∀ st, vstep tt tm' st tk op = vstep tt tm st tk op := fun st => vstep_tm' h1
  rcases h with h | ⟨f, args, hv, hc⟩
  · exact .inl (by rw [htm]; exact vstep_st h h2)
  · refine .inr ⟨f, args, ?_, callOk_agree hc h2⟩
    rw [htm]
    cases op <;> simp only [vstep] at hv <;> (try (unfold okOf at hv; split at hv <;> cases hv; done))
    all_goals first
      | (exfalso; (try unfold valloc at hv); (try unfold vbox at hv); (try unfold vbuildSlice at hv); (try unfold vbsl at hv); (try unfold vmakeSlice at hv); (try unfold vload at hv); (try unfold vloadAt at hv); (try unfold vloadEl at hv); (try unfold vstore at hv); (try unfold vstoreAt at hv); (try unfold vstoreEl at hv); (try unfold vindex at hv); (try unfold vipAt at hv); (try unfold vindexOwn at hv); (try unfold vsliceop at hv); (try unfold vslice at hv); (try unfold vslice2 at hv); (repeat' split at hv) <;> cases hv; done)
      | skip
    rename_i c
    obtain ⟨callee, as, ats⟩ := c
    cases callee with
    | value f' => exact hv
    | invoke _ _ => exact hv
    | builtin b =>
      exfalso
      simp only [vcallc] at hv
      unfold vbuiltin okOf vappend vappOwn at hv
      (repeat' split at hv) <;> cases hv
theorem VOne.agree {full : Array Oper} {o : Oper} {e : Eff} (h : VOne P tt full o tk tm st e) (h1 : ∀ t ∈ looks full o, geti tm' t = geti tm t) (h2 : ∀ t ∈ e.2.2, sget st' t = sget st t) : VOne P tt full o tk tm' st' e := by
  have hop : ∀ t ∈ opTmps o.op, geti tm' t = geti tm t := fun t ht => h1 t (List.mem_append_right _ ht)
  cases h with
  | plain hg hd => exact .plain hg (hd.agree hop h2)
  | yes hg hs hb hd => exact .yes hg hs (by rw [h1 _ (List.mem_append_left _ (by simp [gtmp, hg, hs]))]; exact hb) (hd.agree hop h2)
  | no hg hs hb he => exact .no hg hs (by rw [h1 _ (List.mem_append_left _ (by simp [gtmp, hg, hs]))]; exact hb) he
  | none hg hs hb he => exact .none hg hs (by rw [h1 _ (List.mem_append_left _ (by simp [gtmp, hg, hs]))]; exact hb) he

/-! ### The text's order, as a chain of effects -/
def appE (s : List TV × Store) (o : Oper) (e : Eff) : List TV × Store := (sett s.1 o.dst e.1, supd s.2 e.2.1)
def appX (X : Nat → Bool) : List (Oper × Eff) → Nat → List TV × Store → List TV × Store
  | [], _, s => s
  | (o, e) :: r, i, s => appX X r (i + 1) (if X i then appE s o e else s)
def VCh (P : Program) (tt : Tab) (full : Array Oper) (nx : Nat) : List (Oper × Eff) → Nat → List TV × Store → Prop
  | [], _, _ => True
  | (o, e) :: r, i, s => VOne P tt full o (nx + 64 * i) s.1 s.2 e ∧ VCh P tt full nx r (i + 1) (appE s o e)

theorem seti_self {tm : List TV} {d : Nat} {x : TV} (h : geti tm d = x) : seti tm d x = tm := by
  subst h
  induction tm generalizing d with
  | nil => rfl
  | cons y s ih => cases d <;> simp [seti, geti, ih]
theorem wantBool_spec {x : TV} {b : Bool} (h : wantBool x = some b) : x = boo b := by
  unfold wantBool at h
  split at h
  · injection h with h; subst h; rfl
  · cases h
theorem guardOf_some {x : TV} {b : Bool} (h : guardOf x = some (some b)) : x = boo b := by
  unfold guardOf at h
  split at h <;> simp at h
  subst h; rfl
theorem guardOf_none {x : TV} (h : guardOf x = some none) : x = .tup [] := by
  unfold guardOf at h
  split at h <;> simp at h
  rfl
theorem vres_spec {st : Store} {K : TV → Upd → List Nat → Prop} {op : Op} (h : VRes P st tk K (vstep tt tm st tk op)) : ∃ e : Eff, VDo P tt op tk tm st e ∧ K e.1 e.2.1 e.2.2 := by
  cases hx : vstep tt tm st tk op with
  | bad => rw [hx] at h; exact h.elim
  | yld _ => rw [hx] at h; exact h.elim
  | ok tv u r => rw [hx] at h; exact ⟨(tv, u, r), .inl (by rw [hx]; exact ⟨rfl, rfl, rfl⟩), h⟩
  | need p tv u r => rw [hx] at h; exact ⟨(tv, u, r), .inl (by rw [hx]; exact ⟨h.1, rfl, rfl, rfl⟩), h.2⟩
  | call f args =>
    rw [hx] at h
    obtain ⟨tv, u, r, hc, hk⟩ := h
    exact ⟨(tv, u, r), .inr ⟨f, args, hx, hc⟩, hk⟩
theorem VOps_chain {full : Array Oper} {draw : Bool} {Q : Exit → Env → Prop} : ∀ (rest : List Oper) (i : Nat) (tm : List TV) (st : Store) (acc : List (List Nat × List Nat)), VOps P tt full draw Q rest i tm st out nx acc →
    ∃ L : List (Oper × Eff), L.map (·.1) = rest ∧ VCh P tt full nx L i (tm, st) ∧ (draw = true → drawOk full (acc.reverse ++ L.map (·.2.key)) = true) ∧
      Q .normal ⟨(appX (fun _ => true) L i (tm, st)).1, (appX (fun _ => true) L i (tm, st)).2, out, nx + 64 * full.size⟩ := by
  intro rest
  induction rest with
  | nil => intro i tm st acc h; exact ⟨[], rfl, trivial, by simpa using h.1, h.2⟩
  | cons o rest ih =>
    intro i tm st acc h
    have step : ∀ (s : List TV × Store) (e : Eff), s = (tm, st) → VOne P tt full o (nx + 64 * i) tm st e → VOps P tt full draw Q rest (i + 1) (sett tm o.dst e.1) (supd st e.2.1) out nx (e.key :: acc) →
        ∃ L : List (Oper × Eff), L.map (·.1) = o :: rest ∧ VCh P tt full nx L i s ∧ (draw = true → drawOk full (acc.reverse ++ L.map (·.2.key)) = true) ∧
          Q .normal ⟨(appX (fun _ => true) L i s).1, (appX (fun _ => true) L i s).2, out, nx + 64 * full.size⟩ := by
      intro s e hs he hr
      subst hs
      obtain ⟨L, h1, h2, h3, h4⟩ := ih _ _ _ _ hr
      refine ⟨(o, e) :: L, by rw [List.map_cons, h1], ⟨he, h2⟩, fun hd => ?_, h4⟩
      have := h3 hd
      rw [List.reverse_cons, List.append_assoc] at this
      exact this
    simp only [VOps] at h
    split at h
    · rename_i hg
      obtain ⟨e, he, hk⟩ := vres_spec h
      exact step _ e rfl (.plain hg he) hk
    · rename_i g hg
      split at h
      · exact h.elim
      · rename_i d w hs
        split at h
        · exact h.elim
        · rename_i hb
          exact step _ (.tup [], [], []) rfl (.none hg hs (guardOf_none hb) rfl) h
        · rename_i b hb
          have hb := guardOf_some hb
          by_cases hw : b = w
          · subst hw
            have h1 := h.1 rfl
            rw [seti_self hb] at h1
            obtain ⟨e, he, hk⟩ := vres_spec h1
            exact step _ e rfl (.yes hg hs hb he) hk
          · have hw' : b = !w := by cases b <;> cases w <;> simp_all
            have h1 := h.2 hw'
            rw [hw'] at hb
            rw [seti_self hb] at h1
            exact step _ (.tup [], [], []) rfl (.no hg hs hb rfl) h1

theorem appX_below (i : Nat) : ∀ (L : List (Oper × Eff)) (j : Nat) (s : List TV × Store), i ≤ j → appX (fun j => decide (j < i)) L j s = s := by
  intro L
  induction L with
  | nil => intro j s _; rfl
  | cons p L ih =>
    intro j s hj
    obtain ⟨o, e⟩ := p
    simp only [appX]
    rw [if_neg (by simp; omega), ih (j + 1) s (by omega)]
theorem VCh_at {full : Array Oper} : ∀ (L : List (Oper × Eff)) (i : Nat) (s : List TV × Store), VCh P tt full nx L i s → ∀ (k m : Nat) (o : Oper) (e : Eff), m = i + k → L[k]? = some (o, e) →
    VOne P tt full o (nx + 64 * m) (appX (fun j => decide (j < m)) L i s).1 (appX (fun j => decide (j < m)) L i s).2 e := by
  intro L
  induction L with
  | nil => intro i s _ k m o e _ hk; simp at hk
  | cons p L ih =>
    obtain ⟨o, e⟩ := p
    intro i s h k m o' e' hm hk
    cases k with
    | zero =>
      simp at hk
      obtain ⟨rfl, rfl⟩ := hk
      have hm : m = i := by omega
      subst hm
      rw [appX_below _ _ _ _ (Nat.le_refl _)]
      exact h.1
    | succ k =>
      have := ih (i + 1) (appE s o e) h.2 k m o' e' (by omega) (by simpa using hk)
      simp only [appX]
      rw [if_pos (by simp; omega)]
      exact this

theorem len_seti (tm : List TV) (d : Nat) (x : TV) : (seti tm d x).length = tm.length := by rw [seti_eq, List.length_set]
theorem len_sett (tm : List TV) (d : Option Nat) (x : TV) : (sett tm d x).length = tm.length := by cases d <;> simp [sett, len_seti]
theorem geti_sett (tm : List TV) (d : Option Nat) (x : TV) (t : Nat) : geti (sett tm d x) t = if d = some t ∧ t < tm.length then x else geti tm t := by
  cases d with
  | none => simp [sett]
  | some d =>
    simp only [sett, seti_eq, geti_eq, List.getElem?_set]
    by_cases h : d = t
    · subst h
      by_cases hl : d < tm.length <;> simp [hl]
    · simp [h]
theorem tm_ext {tm tm' : List TV} (hl : tm.length = tm'.length) (h : ∀ t, geti tm t = geti tm' t) : tm = tm' := by
  apply List.ext_getElem? 
  intro t
  have := h t
  rw [geti_eq, geti_eq] at this
  by_cases ht : t < tm.length
  · rw [List.getElem?_eq_getElem ht, List.getElem?_eq_getElem (hl ▸ ht)] at this ⊢
    simpa using this
  · rw [List.getElem?_eq_none (by omega), List.getElem?_eq_none (by omega)]

theorem sget_supd_same (u : Upd) : ∀ (st st' : Store) (t : Nat), sget st t = sget st' t → sget (supd st u) t = sget (supd st' u) t := by
  induction u with
  | nil => intro st st' t h; exact h
  | cons p u ih =>
    intro st st' t h
    obtain ⟨a, r⟩ := p
    cases r with
    | none => simp only [supd]; exact ih _ _ _ (by rw [sget_sdel, sget_sdel, h])
    | some r => simp only [supd]; exact ih _ _ _ (by rw [sget_sput, sget_sput, h])
theorem sget_supd_other (u : Upd) : ∀ (st : Store) (t : Nat), t ∉ u.map (·.1) → sget (supd st u) t = sget st t := by
  induction u with
  | nil => intro st t _; rfl
  | cons p u ih =>
    intro st t h
    obtain ⟨a, r⟩ := p
    simp only [List.map_cons, List.mem_cons, not_or] at h
    cases r with
    | none => simp only [supd]; rw [ih _ _ h.2, sget_sdel, if_neg (Ne.symm h.1)]
    | some r => simp only [supd]; rw [ih _ _ h.2, sget_sput, if_neg (Ne.symm h.1)]
/-- What an update makes of a token it names does not hang on what stood there. -/
theorem sget_supd_in (u : Upd) : ∀ (st st' : Store) (t : Nat), t ∈ u.map (·.1) → sget (supd st u) t = sget (supd st' u) t := by
  induction u with
  | nil => intro st st' t h; simp at h
  | cons p u ih =>
    intro st st' t h
    obtain ⟨a, r⟩ := p
    by_cases ht : t ∈ u.map (·.1)
    · cases r <;> (simp only [supd]; exact ih _ _ _ ht)
    · simp only [List.map_cons, List.mem_cons] at h
      have hat : t = a := h.resolve_right ht
      subst hat
      cases r <;> simp only [supd] <;> rw [sget_supd_other _ _ _ ht, sget_supd_other _ _ _ ht] <;> simp [sget_sdel, sget_sput]

theorem appX_len {X : Nat → Bool} : ∀ (L : List (Oper × Eff)) (i : Nat) (s : List TV × Store), (appX X L i s).1.length = s.1.length := by
  intro L
  induction L with
  | nil => intro i s; rfl
  | cons p L ih =>
    intro i s
    obtain ⟨o, e⟩ := p
    simp only [appX]
    rw [ih]
    split
    · simp [appE, len_sett]
    · rfl
theorem appX_geti {X Y : Nat → Bool} {t : Nat} : ∀ (L : List (Oper × Eff)) (i : Nat) (s s' : List TV × Store), s.1.length = s'.1.length → geti s.1 t = geti s'.1 t → (∀ k o e, L[k]? = some (o, e) → X (i + k) ≠ Y (i + k) → o.dst ≠ some t) →
    geti (appX X L i s).1 t = geti (appX Y L i s').1 t := by
  intro L
  induction L with
  | nil => intro i s s' _ h _; exact h
  | cons p L ih =>
    intro i s s' hl h hd
    obtain ⟨o, e⟩ := p
    simp only [appX]
    refine ih (i + 1) _ _ ?_ ?_ (fun k o' e' hk hne => hd (k + 1) o' e' (by simpa using hk) (by rw [show i + (k + 1) = i + 1 + k from by omega]; exact hne))
    · cases X i <;> cases Y i <;> simp [appE, len_sett, hl]
    · by_cases hxy : X i = Y i
      · rw [hxy]
        cases Y i
        · exact h
        · simp only [if_true, appE, geti_sett, hl, h]
      · have hne := hd 0 o e rfl (by simpa using hxy)
        have hside : ∀ s : List TV × Store, geti (appE s o e).1 t = geti s.1 t := fun s => by simp [appE, geti_sett, hne]
        cases X i <;> cases Y i <;> simp [hside, h]
theorem appX_sget {X Y : Nat → Bool} {t : Nat} : ∀ (L : List (Oper × Eff)) (i : Nat) (s s' : List TV × Store), sget s.2 t = sget s'.2 t → (∀ k o e, L[k]? = some (o, e) → X (i + k) ≠ Y (i + k) → t ∉ e.2.1.map (·.1)) →
    sget (appX X L i s).2 t = sget (appX Y L i s').2 t := by
  intro L
  induction L with
  | nil => intro i s s' h _; exact h
  | cons p L ih =>
    intro i s s' h hd
    obtain ⟨o, e⟩ := p
    simp only [appX]
    refine ih (i + 1) _ _ ?_ (fun k o' e' hk hne => hd (k + 1) o' e' (by simpa using hk) (by rw [show i + (k + 1) = i + 1 + k from by omega]; exact hne))
    by_cases hxy : X i = Y i
    · rw [hxy]
      cases Y i
      · exact h
      · simp only [if_true, appE]; exact sget_supd_same _ _ _ _ h
    · have hne := hd 0 o e rfl (by simpa using hxy)
      have hside : ∀ s : List TV × Store, sget (appE s o e).2 t = sget s.2 t := fun s => by simp only [appE]; exact sget_supd_other _ _ _ hne
      cases X i <;> cases Y i <;> simp [hside, h]

/-! ### One operation of a region, in the machine -/
/-- Where a region stands. -/
def RI (C : Ctx) (out : List (List D)) (nx nx' : Nat) (s : List TV × Store) (X : Nat → Bool) (a : Act) (w : World) : Prop :=
  ∃ ι S, StI C s.2 nx' out w ι S ∧ TmR C w S ι s.1 a.tmps ∧ C.Dp a.defers ∧ ∀ k, X k = false → ∀ t n, nx + 64 * k ≤ t → t < nx + 64 * k + 64 → ι t n = none
theorem RI.congr {s s' : List TV × Store} {X : Nat → Bool} {a : Act} {w : World} (h : RI C out nx nx' s X a w) (h1 : s'.1 = s.1) (h2 : ∀ t, sget s'.2 t = sget s.2 t) : RI C out nx nx' s' X a w := by
  obtain ⟨ι, S, q1, q2, q3, q4⟩ := h
  exact ⟨ι, S, q1.congr h2, h1 ▸ q2, q3, q4⟩

theorem put_tm {a : Act} {v : Value} {tv : TV} {d : Option Nat} (h : TmR C w S ι tm a.tmps) (hv : TVR C w S ι tv v) : TmR C w S ι (sett tm d tv) (a.put d v).tmps := by
  cases d with
  | none => exact h
  | some d =>
    refine ⟨by simp [sett, seti_eq, Act.put, h.1], fun i x hx => ?_⟩
    simp only [sett, seti_eq, List.getElem?_set] at hx
    simp only [Act.put]
    by_cases hd : d = i
    · subst hd
      simp at hx
      obtain ⟨hl, rfl⟩ := hx
      have : (a.tmps.setIfInBounds d v).getD d undef = v := by
        rw [Array.getD_eq_getD_getElem?, Array.getElem?_setIfInBounds_self_of_lt (by rw [h.1]; exact hl)]; rfl
      rw [this]; exact hv
    · rw [if_neg hd] at hx
      have : (a.tmps.setIfInBounds d v).getD i undef = a.tmps.getD i undef := by
        rw [Array.getD_eq_getD_getElem?, Array.getD_eq_getD_getElem?, Array.getElem?_setIfInBounds_ne hd]
      rw [this]; exact h.2 i x hx

end Go.Proofs.VL
