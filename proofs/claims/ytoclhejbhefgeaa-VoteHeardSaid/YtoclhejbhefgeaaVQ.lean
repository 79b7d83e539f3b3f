/- The value level is sound, 15: one frame read as another: renaming, forgetting, freezing, adopting. -/
import Derived.Test.YtoclhejbhefgeaaVP
set_option linter.unusedVariables false
set_option linter.unusedSimpArgs false
namespace Go.Proofs.VL
open Go

variable {C : Ctx} {w : World} {S : Nat → Prop} {ι : Hist} {P : Program} {tt : Tab} {st st' : Store} {nx nx' : Nat} {out : List (List D)} {tk : Nat} {tm tm' : List TV}

/-- How one frame is read as another: new tokens and the old ones they stand for; new tokens of empty rows; old tokens whose rows become data. -/
structure Ren where
  r : List (Nat × Nat) := []
  ad : List Nat := []
  fz : List Nat := []

/-! Cells: what is there, as what it is read. -/
mutual
def coeC (st : Store) (R : Ren) : CV → CV → Prop
  | .d x, y => (match y with
    | .d y => x = y
    | .bd es => x = .l es
    | _ => False)
  | .nil, y => (match y with
    | .nil => True
    | .d y => y = .l []
    | .own t' n' => n' = 0 ∧ t' ∈ R.ad
    | _ => False)
  | .emp, y => (match y with
    | .emp => True
    | .d y => y = .l []
    | _ => False)
  | .bd es, y => (match y with
    | .bd es' => es = es'
    | _ => False)
  | .own t n, y => (match y with
    | .own t' n' => n = n' ∧ (t', t) ∈ R.r
    | .d (.l es) => rowEs (sget st t) n es ∧ t ∈ R.fz
    | _ => False)
  | .ptr t o, y => (match y with
    | .ptr t' o' => o = o' ∧ (t', t) ∈ R.r
    | _ => False)
  | .ep t n o, y => (match y with
    | .ep t' n' o' => n = n' ∧ o = o' ∧ (t', t) ∈ R.r
    | _ => False)
  | .ip cs, y => (match y with
    | .ip cs' => cs = cs'
    | _ => False)
  | .fn f cap, y => (match y with
    | .fn g cap' => f = g ∧ coeCs st R cap cap'
    | _ => False)
  | .yld, y => (match y with
    | .yld => True
    | _ => False)
def coeCs (st : Store) (R : Ren) : List CV → List CV → Prop
  | [], ys => (match ys with
    | [] => True
    | _ => False)
  | x :: xs, ys => (match ys with
    | y :: ys => coeC st R x y ∧ coeCs st R xs ys
    | [] => False)
end
mutual
def coeT (st : Store) (R : Ren) : TV → TV → Prop
  | .c x, y => (match y with
    | .junk => True
    | .c y => coeC st R x y
    | _ => False)
  | .agg l, y => (match y with
    | .junk => True
    | .agg m => coeCs st R l m
    | _ => False)
  | .tup l, y => (match y with
    | .junk => True
    | .tup m => coeTs st R l m
    | _ => False)
  | .junk, y => (match y with
    | .junk => True
    | _ => False)
def coeTs (st : Store) (R : Ren) : List TV → List TV → Prop
  | [], ys => (match ys with
    | [] => True
    | _ => False)
  | x :: xs, ys => (match ys with
    | y :: ys => coeT st R x y ∧ coeTs st R xs ys
    | [] => False)
end
def coeR (st : Store) (R : Ren) : Row → Row → Prop
  | .box T cs, .box T' cs' => T = T' ∧ coeCs st R cs cs'
  | .sl e k es, .sl e' k' es' => e = e' ∧ k = k' ∧ es = es'
  | _, _ => False
def emptyR : Row → Prop
  | .sl _ _ [] => True
  | _ => False
def coeRo (st : Store) (R : Ren) (t : Nat) : Option Row → Row → Prop
  | some r, r' => coeR st R r r' ∧ t ∉ R.fz
  | none, _ => False
def coeRow (st : Store) (R : Ren) (t' : Nat) (r' : Row) : Option Nat → Prop
  | some t => coeRo st R t (sget st t) r'
  | none => t' ∈ R.ad ∧ emptyR r'
def coeS (st : Store) (R : Ren) : Store → Prop
  | [] => True
  | (t', r') :: s => coeRow st R t' r' (own? (R.r.map fun p => (p.2, p.1)) t') ∧ coeS st R s
def Ren.ok (R : Ren) (nx' : Nat) : Bool :=
  nodupB (R.r.map (·.1) ++ R.ad) && nodupB (R.r.map (·.2)) && (R.r.map (·.1) ++ R.ad).all fun t => decide (t < nx')

def Ren.h (R : Ren) (ι : Hist) : Hist := fun t' n =>
  match own? (R.r.map fun p => (p.2, p.1)) t' with
  | some t => ι t n
  | none => if t' ∈ R.ad ∧ n = 0 then some (.slice none 0 0) else none

structure Ren.Good (R : Ren) (nx' : Nat) : Prop where
  n1 : (R.r.map (·.1)).Nodup
  n2 : (R.r.map (·.2)).Nodup
  dis : ∀ t' ∈ R.ad, t' ∉ R.r.map (·.1)
  lt : ∀ t', t' ∈ R.r.map (·.1) ∨ t' ∈ R.ad → t' < nx'
theorem Ren.ok_spec {R : Ren} {nx' : Nat} (h : R.ok nx' = true) : R.Good nx' := by
  simp only [Ren.ok, Bool.and_eq_true] at h
  obtain ⟨⟨h1, h2⟩, h3⟩ := h
  have h1 := nodupB_spec h1
  rw [List.nodup_append] at h1
  refine ⟨h1.1, nodupB_spec h2, fun t' ht' hm => (h1.2.2 t' hm t' ht') rfl, fun t' ht' => ?_⟩
  rw [List.all_eq_true] at h3
  have := h3 t' (List.mem_append.2 ht')
  simpa using this
theorem Ren.get {R : Ren} {nx' : Nat} (G : R.Good nx') {t' t : Nat} (h : (t', t) ∈ R.r) (n : Nat) : R.h ι t' n = ι t n := by
  unfold Ren.h
  rw [own?_of_mem (l := R.r.map fun p => (p.2, p.1)) (by rw [List.map_map]; exact G.n1) (List.mem_map_of_mem (f := fun p : Nat × Nat => (p.2, p.1)) h)]
theorem Ren.get_ad {R : Ren} {nx' : Nat} (G : R.Good nx') {t' : Nat} (h : t' ∈ R.ad) : R.h ι t' 0 = some (.slice none 0 0) := by
  unfold Ren.h
  cases ho : own? (R.r.map fun p => (p.2, p.1)) t' with
  | none => simp [h]
  | some t =>
    have := own?_mem ho
    obtain ⟨p, hp, he⟩ := List.mem_map.1 this
    injection he with _ he
    subst he
    exact absurd (List.mem_map_of_mem (f := fun p : Nat × Nat => p.1) hp) (G.dis _ h)
theorem Ren.inv {R : Ren} {t' n : Nat} {v : Value} (h : R.h ι t' n = some v) : (∃ t, (t', t) ∈ R.r ∧ ι t n = some v) ∨ (t' ∈ R.ad ∧ n = 0 ∧ v = .slice none 0 0) := by
  unfold Ren.h at h
  cases ho : own? (R.r.map fun p => (p.2, p.1)) t' with
  | none =>
    rw [ho] at h
    simp only at h
    split at h
    · rename_i q; injection h with h; exact .inr ⟨q.1, q.2, h.symm⟩
    · cases h
  | some t =>
    rw [ho] at h
    obtain ⟨p, hp, he⟩ := List.mem_map.1 (own?_mem ho)
    injection he with he1 he2
    refine .inl ⟨t, ?_, h⟩
    rw [← he1, ← he2]
    exact hp

section
variable {R : Ren} {S1 : Nat → Prop}
mutual
theorem coeC_sound (G : R.Good nx') (h : StI C st nx out w ι S) (hS : ∀ b, S b → S1 b) (hc : Covers ι st R.fz S1) : ∀ (x : CV) {y : CV} {v : Value}, coeC st R x y → CVR C w S ι x v → CVR C w S1 (R.h ι) y v
  | .d x, y, v, hp, hx => by
    cases hx with | d hx =>
    have hx := Rd.mono (w' := w) (S' := S1) hS (fun _ _ => rfl) hx
    cases y <;> simp only [coeC] at hp
    · subst hp; exact .d hx
    · subst hp; exact slr_to_bd (slr_d hx)
  | .nil, y, v, hp, hx => by
    cases hx
    cases y <;> simp only [coeC] at hp
    · subst hp; exact .d (.e fun _ => rfl)
    · exact .nil
    · obtain ⟨rfl, hp⟩ := hp; exact .own (Ren.get_ad G hp)
  | .emp, y, v, hp, hx => by
    cases hx
    cases y <;> simp only [coeC] at hp
    · subst hp; exact .d (.e fun h => by cases h)
    · exact .emp
  | .bd es, y, v, hp, hx => by
    cases y <;> simp only [coeC] at hp
    subst hp
    cases hx with
    | bde h => exact .bde h
    | bd h1 h2 h3 h4 h5 => exact .bd h1 (h2.imp (hS _) id) h3 h4 (h5.mono hS (fun _ _ => rfl) rfl)
  | .own t n, y, v, hp, hx => by
    obtain ⟨hv, A, c, rfl⟩ := cvr_own hx
    cases y with
    | own t' n' =>
      simp only [coeC] at hp
      obtain ⟨rfl, hp⟩ := hp
      exact .own (by rw [Ren.get G hp]; exact hv)
    | d y =>
      cases y with
      | v _ => simp only [coeC] at hp
      | l es =>
        simp only [coeC] at hp
        obtain ⟨e, k, hr, hn⟩ := rowEs_spec hp.1
        subst hn
        exact .d ((h.row t _ hr).asData hv hS fun b hb => hc t hp.2 _ hr b (by simp [curBlk, hv, hb]))
    | _ => simp only [coeC] at hp
  | .ptr t o, y, v, hp, hx => by
    cases y <;> simp only [coeC] at hp
    obtain ⟨rfl, hp⟩ := hp
    cases hx with | ptr hx => exact .ptr (by rw [Ren.get G hp]; exact hx)
  | .ep t n o, y, v, hp, hx => by
    cases y <;> simp only [coeC] at hp
    obtain ⟨rfl, rfl, hp⟩ := hp
    cases hx with | ep hx => exact .ep (by rw [Ren.get G hp]; exact hx)
  | .ip cs, y, v, hp, hx => by
    cases y <;> simp only [coeC] at hp
    subst hp
    cases hx with | ip h1 h2 h3 => exact .ip h1 (h2.imp (hS _) id) (h3.mono hS (fun _ _ => rfl) rfl)
  | .fn f cap, y, v, hp, hx => by
    cases y <;> simp only [coeC] at hp
    rename_i g cap'
    obtain ⟨rfl, hp⟩ := hp
    cases hx with
    | fn h1 h2 =>
      rename_i vs
      obtain ⟨hl, hcs⟩ := coeCs_sound G h hS hc cap hp
      exact .fn (by rw [h1, hl]) fun i y hy => by
        have hi : i < cap.length := by rw [hl]; exact (List.getElem?_eq_some_iff.1 hy).1
        exact hcs i _ _ _ (List.getElem?_eq_getElem hi) hy (h2 i _ (List.getElem?_eq_getElem hi))
  | .yld, y, v, hp, hx => by
    cases y <;> simp only [coeC] at hp
    cases hx with | yld hx => exact .yld hx
theorem coeCs_sound (G : R.Good nx') (h : StI C st nx out w ι S) (hS : ∀ b, S b → S1 b) (hc : Covers ι st R.fz S1) : ∀ (xs : List CV) {ys : List CV}, coeCs st R xs ys →
    xs.length = ys.length ∧ ∀ (i : Nat) (x y : CV) (v : Value), xs[i]? = some x → ys[i]? = some y → CVR C w S ι x v → CVR C w S1 (R.h ι) y v
  | [], ys, hp => by
    cases ys <;> simp only [coeCs] at hp
    exact ⟨rfl, fun i x y v hx => by simp at hx⟩
  | x :: xs, ys, hp => by
    cases ys with
    | nil => simp only [coeCs] at hp
    | cons y ys =>
      simp only [coeCs] at hp
      obtain ⟨h1, h2⟩ := coeCs_sound G h hS hc xs hp.2
      refine ⟨by simp [h1], fun i a b v ha hb hr => ?_⟩
      cases i with
      | zero =>
        simp at ha hb
        subst ha; subst hb
        exact coeC_sound G h hS hc x hp.1 hr
      | succ i => exact h2 i a b v (by simpa using ha) (by simpa using hb) hr
end
mutual
theorem coeT_sound (G : R.Good nx') (h : StI C st nx out w ι S) (hS : ∀ b, S b → S1 b) (hc : Covers ι st R.fz S1) : ∀ (x : TV) {y : TV} {v : Value}, coeT st R x y → TVR C w S ι x v → TVR C w S1 (R.h ι) y v
  | .c x, y, v, hp, hx => by
    cases y <;> simp only [coeT] at hp
    · exact .c (coeC_sound G h hS hc x hp (tvr_c hx))
    · exact .junk
  | .agg l, y, v, hp, hx => by
    cases y <;> simp only [coeT] at hp
    · cases hx with
      | agg h1 h2 =>
        obtain ⟨hl, hcs⟩ := coeCs_sound G h hS hc l hp
        exact .agg (by rw [h1, hl]) fun i y hy => by
          have hi : i < l.length := by rw [hl]; exact (List.getElem?_eq_some_iff.1 hy).1
          exact hcs i _ _ _ (List.getElem?_eq_getElem hi) hy (h2 i _ (List.getElem?_eq_getElem hi))
    · exact .junk
  | .tup l, y, v, hp, hx => by
    cases y <;> simp only [coeT] at hp
    · cases hx with
      | tup h1 h2 =>
        obtain ⟨hl, hcs⟩ := coeTs_sound G h hS hc l hp
        exact .tup (by rw [h1, hl]) fun i y hy => by
          have hi : i < l.length := by rw [hl]; exact (List.getElem?_eq_some_iff.1 hy).1
          exact hcs i _ _ _ (List.getElem?_eq_getElem hi) hy (h2 i _ (List.getElem?_eq_getElem hi))
    · exact .junk
  | .junk, y, v, hp, hx => by
    cases y <;> simp only [coeT] at hp
    exact .junk
theorem coeTs_sound (G : R.Good nx') (h : StI C st nx out w ι S) (hS : ∀ b, S b → S1 b) (hc : Covers ι st R.fz S1) : ∀ (xs : List TV) {ys : List TV}, coeTs st R xs ys →
    xs.length = ys.length ∧ ∀ (i : Nat) (x y : TV) (v : Value), xs[i]? = some x → ys[i]? = some y → TVR C w S ι x v → TVR C w S1 (R.h ι) y v
  | [], ys, hp => by
    cases ys <;> simp only [coeTs] at hp
    exact ⟨rfl, fun i x y v hx => by simp at hx⟩
  | x :: xs, ys, hp => by
    cases ys with
    | nil => simp only [coeTs] at hp
    | cons y ys =>
      simp only [coeTs] at hp
      obtain ⟨h1, h2⟩ := coeTs_sound G h hS hc xs hp.2
      refine ⟨by simp [h1], fun i a b v ha hb hr => ?_⟩
      cases i with
      | zero =>
        simp at ha hb
        subst ha; subst hb
        exact coeT_sound G h hS hc x hp.1 hr
      | succ i => exact h2 i a b v (by simpa using ha) (by simpa using hb) hr
end

theorem coeS_get {st : Store} {R : Ren} : ∀ {s : Store} {t' : Nat} {r' : Row}, coeS st R s → sget s t' = some r' → coeRow st R t' r' (own? (R.r.map fun p => (p.2, p.1)) t')
  | (a, r) :: s, t', r', h, hr => by
    simp only [coeS] at h
    simp only [sget] at hr
    split at hr
    · rename_i e
      injection hr with hr
      subst e; subst hr
      exact h.1
    · exact coeS_get h.2 hr
/-- A row of the new reading. -/
theorem coeRow_cases {R : Ren} {t' : Nat} {r' : Row} (h : coeRow st R t' r' (own? (R.r.map fun p => (p.2, p.1)) t')) :
    (∃ t r, (t', t) ∈ R.r ∧ sget st t = some r ∧ coeR st R r r' ∧ t ∉ R.fz) ∨ (t' ∈ R.ad ∧ ∃ e k, r' = .sl e k []) := by
  cases ho : own? (R.r.map fun p => (p.2, p.1)) t' with
  | some t =>
    rw [ho] at h
    obtain ⟨p, hp, he⟩ := List.mem_map.1 (own?_mem ho)
    injection he with he1 he2
    simp only [coeRow] at h
    cases hr : sget st t with
    | none => rw [hr] at h; exact h.elim
    | some r =>
      rw [hr] at h
      exact .inl ⟨t, r, by rw [← he1, ← he2]; exact hp, hr, h.1, h.2⟩
  | none =>
    rw [ho] at h
    refine .inr ⟨h.1, ?_⟩
    have := h.2
    cases r' with
    | box _ _ => exact this.elim
    | sl e k es =>
      cases es with
      | nil => exact ⟨e, k, rfl⟩
      | cons _ _ => exact this.elim

/-- ONE FRAME READ AS ANOTHER. -/
theorem coe_sound (G : R.Good nx') (h : StI C st nx out w ι S) (hs : coeS st R st') : ∃ S1, StI C st' nx' out w (R.h ι) S1 ∧ (∀ b, S b → S1 b) ∧ (∀ x y v, coeT st R x y → TVR C w S ι x v → TVR C w S1 (R.h ι) y v) ∧
    ∀ xs ys vs, coeTs st R xs ys → TmR C w S ι xs vs → TmR C w S1 (R.h ι) ys vs := by
  obtain ⟨S1, hf1, hf2, hf3⟩ := freezeAll R.fz h
  have hcells : ∀ {cs cs' : List CV} {vs : Array Value}, coeCs st R cs cs' → vs.size = cs.length → (∀ (i : Nat) (x : CV), cs[i]? = some x → CVR C w S ι x (vs.getD i undef)) → vs.size = cs'.length ∧ ∀ (i : Nat) (x : CV), cs'[i]? = some x → CVR C w S1 (R.h ι) x (vs.getD i undef) := by
    intro cs cs' vs hc h1 h2
    obtain ⟨hl, hcs⟩ := coeCs_sound G h hf2.s hf3 cs hc
    refine ⟨by rw [h1, hl], fun i y hy => ?_⟩
    have hi : i < cs.length := by rw [hl]; exact (List.getElem?_eq_some_iff.1 hy).1
    exact hcs i _ _ _ (List.getElem?_eq_getElem hi) hy (h2 i _ (List.getElem?_eq_getElem hi))
  have hblk : ∀ {t' t : Nat} {r r' : Row}, (t', t) ∈ R.r → coeR st R r r' → curBlk (R.h ι) t' r' = curBlk ι t r := by
    intro t' t r r' hm hr
    cases r <;> cases r' <;> simp only [coeR] at hr
    · simp [curBlk, Ren.get G hm]
    · obtain ⟨_, _, rfl⟩ := hr; simp [curBlk, Ren.get G hm]
  have hnone : ∀ {t' e k : Nat}, t' ∈ R.ad → curBlk (R.h ι) t' (.sl e k []) = none := by
    intro t' e k ht
    simp [curBlk, Ren.get_ad G ht, blkOf]
  have hdel : ∀ {t : Nat} {r : Row}, sget st t = some r → t ∉ R.fz → sget (delAll st R.fz) t = some r := fun hr hn => by rw [sget_delAll, if_neg hn]; exact hr
  refine ⟨S1, ⟨hf1.fr, fun t' r' hr' => ?_, fun t1 t2 r1 r2 b h1 h2 h3 h4 => ?_, fun t' r' b hr' hb => ?_, hf1.dat, fun b hb => hf2.s b (h.s0 b hb), hf1.bw, fun t' n v hv => ?_, hf1.my⟩, hf2.s, fun x y v hc hx => coeT_sound G h hf2.s hf3 x hc hx, fun xs ys vs hc hx => ?_⟩
  · rcases coeRow_cases (coeS_get hs hr') with ⟨t, r, hm, hr, hco, hnf⟩ | ⟨had, e, k, rfl⟩
    · have hrow := h.row t r hr
      have hrow1 := hf1.row t r (hdel hr hnf)
      cases r with
      | box T cs =>
        cases r' with
        | sl _ _ _ => simp only [coeR] at hco
        | box T' cs' =>
          simp only [coeR] at hco
          obtain ⟨rfl, hco⟩ := hco
          cases hrow with
          | box h1 h2 h3 h4 =>
            obtain ⟨q1, q2⟩ := hcells hco h3 h4
            exact .box (by rw [Ren.get G hm]; exact h1) h2 q1 q2
      | sl e k es =>
        cases r' with
        | box _ _ => simp only [coeR] at hco
        | sl e' k' es' =>
          simp only [coeR] at hco
          obtain ⟨rfl, rfl, rfl⟩ := hco
          cases hrow1 with
          | sl h1 h2 h3 h4 h5 => exact .sl (by rw [Ren.get G hm]; exact h1) h2 h3 h4 fun n hn => h5 n (by rw [Ren.get G hm] at hn; exact hn)
    · refine .sl (Ren.get_ad G had) (World.ownsRow_nil w 0 e k) (fun x hx => by simp at hx) (fun j x hx => by simp at hx) fun n hn => ?_
      cases hv : R.h ι t' n with
      | none => exact absurd hv hn
      | some v =>
        rcases Ren.inv hv with ⟨t, hm, _⟩ | ⟨_, rfl, _⟩
        · exact absurd (List.mem_map_of_mem (f := fun p : Nat × Nat => p.1) hm) (G.dis _ had)
        · exact Nat.zero_le _
  · rcases coeRow_cases (coeS_get hs h1) with ⟨u1, q1, m1, g1, c1, f1⟩ | ⟨had, e, k, rfl⟩
    · rcases coeRow_cases (coeS_get hs h2) with ⟨u2, q2, m2, g2, c2, f2⟩ | ⟨had, e, k, rfl⟩
      · rw [hblk m1 c1] at h3
        rw [hblk m2 c2] at h4
        have := h.sep u1 u2 q1 q2 b g1 g2 h3 h4
        subst this
        exact nodup_fst (l := R.r.map fun p => (p.2, p.1)) (by rw [List.map_map]; exact G.n2) (List.mem_map_of_mem (f := fun p : Nat × Nat => (p.2, p.1)) m1) (List.mem_map_of_mem (f := fun p : Nat × Nat => (p.2, p.1)) m2)
      · rw [hnone had] at h4; cases h4
    · rw [hnone had] at h3; cases h3
  · rcases coeRow_cases (coeS_get hs hr') with ⟨t, r, hm, hr, hco, hnf⟩ | ⟨had, e, k, rfl⟩
    · rw [hblk hm hco] at hb
      exact hf1.mine t r b (hdel hr hnf) hb
    · rw [hnone had] at hb; cases hb
  · rcases Ren.inv hv with ⟨t, hm, _⟩ | ⟨had, _, _⟩
    · exact G.lt _ (.inl (List.mem_map_of_mem (f := fun p : Nat × Nat => p.1) hm))
    · exact G.lt _ (.inr had)
  · obtain ⟨hl, hts⟩ := coeTs_sound G h hf2.s hf3 xs hc
    refine ⟨by rw [hx.1, hl], fun i y hy => ?_⟩
    have hi : i < xs.length := by rw [hl]; exact (List.getElem?_eq_some_iff.1 hy).1
    exact hts i _ _ _ (List.getElem?_eq_getElem hi) hy (hx.2 i _ (List.getElem?_eq_getElem hi))
end

/-- As a weakening of frames. -/
theorem Wk.coe (R : Ren) {E E' : Env} (h1 : R.ok E'.nx = true) (h2 : coeS E.st R E'.st) (h3 : coeTs E.st R E.tm E'.tm) (h4 : E'.out = E.out) : Wk E E' := by
  intro C a w ⟨ι, S, q1, q2, q3⟩
  obtain ⟨S1, k1, _, _, k2⟩ := coe_sound (Ren.ok_spec h1) q1 h2
  exact ⟨_, S1, h4 ▸ k1, k2 _ _ _ h3 q2, q3⟩
theorem Wk.refl (E : Env) : Wk E E := fun _ _ _ h => h
theorem Wk.trans {E E' E'' : Env} (h : Wk E E') (k : Wk E' E'') : Wk E E'' := fun C a w x => k C a w (h C a w x)

end Go.Proofs.VL
