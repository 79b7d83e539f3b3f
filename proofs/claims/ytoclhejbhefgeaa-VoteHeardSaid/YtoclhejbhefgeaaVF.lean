/- The value level is sound, 4: operations on memory. -/
import Derived.Test.YtoclhejbhefgeaaVE
import Derived.Laws.Slices
import Derived.Laws.MakeOwn
set_option linter.unusedVariables false
set_option linter.unusedSimpArgs false
namespace Go.Proofs.VL
open Go

variable {C : Ctx} {w : World} {S : Nat → Prop} {ι : Hist} {P : Program} {tt : Tab}

/-! ### Rows of elements -/
theorem flat_len {es : List (List D)} {k : Nat} (h : ∀ x ∈ es, x.length = k) : es.flatten.length = es.length * k := by
  induction es with
  | nil => simp
  | cons e r ih =>
    rw [List.flatten_cons, List.length_append, h e (by simp), ih (fun x hx => h x (by simp [hx])), List.length_cons, Nat.succ_mul, Nat.add_comm]
theorem flat_drop {es : List (List D)} {k : Nat} (h : ∀ x ∈ es, x.length = k) (a : Nat) : (es.drop a).flatten = es.flatten.drop (a * k) := by
  induction es generalizing a with
  | nil => simp
  | cons e r ih =>
    have he := h e (by simp)
    cases a with
    | zero => simp
    | succ a =>
      rw [List.drop_succ_cons, ih (fun x hx => h x (by simp [hx])), List.flatten_cons, Nat.succ_mul, Nat.add_comm (a * k) k, ← List.drop_drop]
      congr 1
      rw [← he, List.drop_left]
theorem flat_take {es : List (List D)} {k : Nat} (h : ∀ x ∈ es, x.length = k) (a : Nat) : (es.take a).flatten = es.flatten.take (a * k) := by
  induction es generalizing a with
  | nil => simp
  | cons e r ih =>
    have he := h e (by simp)
    cases a with
    | zero => simp
    | succ a =>
      rw [List.take_succ_cons, List.flatten_cons, ih (fun x hx => h x (by simp [hx])), List.flatten_cons, Nat.succ_mul, Nat.add_comm (a * k) k]
      rw [List.take_append, he]
      congr 1
      · rw [List.take_of_length_le (by omega)]
      · congr 1
        omega

/-! ### Reading data -/
/-- Data behind a slice value, borrowed or not: an address from which its cells can be read. -/
def SlR (C : Ctx) (w : World) (S : Nat → Prop) (es : List (List D)) (v : Value) : Prop :=
  ∃ A c, v = .slice A es.length c ∧ es.length ≤ c ∧ (A = none → c = 0) ∧ (0 < es.length → ∃ ad, A = some ad ∧ ad.spot = none ∧ (S ad.block ∨ C.Bw ad.block) ∧ c ≤ 9223372036854775807 ∧ RdAt w S ad es.flatten)
theorem slr_d {es : List (List D)} {v : Value} (h : Rd w S (.l es) v) : SlR C w S es v := by
  cases h with
  | e h => exact ⟨_, _, rfl, Nat.zero_le _, h, fun h => absurd h (by simp)⟩
  | l h1 h2 h3 h4 h5 h6 => exact ⟨_, _, rfl, h3, (fun h => by cases h), fun _ => ⟨_, rfl, h1, .inl h2, h4, fun j x hx => ⟨_, h5 j x hx, h6 j x hx⟩⟩⟩
theorem slr_bd {es : List (List D)} {v : Value} (h : CVR C w S ι (.bd es) v) : SlR C w S es v := by
  cases h with
  | bde h => exact ⟨_, _, rfl, Nat.zero_le _, h, fun h => absurd h (by simp)⟩
  | bd h1 h2 h3 h4 h5 => exact ⟨_, _, rfl, h3, (fun h => by cases h), fun _ => ⟨_, rfl, h1, h2, h4, h5⟩⟩

theorem vlenS_sound {tx tv : TV} {vx : Value} (hx : TVR C w S ι tx vx) (h : vlenS tx = some tv) : ∃ A n c, vx = .slice A n c ∧ tv = int n := by
  unfold vlenS at h
  split at h <;> (first | (cases h; done) | (injection h with h; subst h))
  · obtain ⟨A, c, rfl, _⟩ := slr_d (C := C) (by cases tvr_c hx with | d h => exact h)
    exact ⟨_, _, _, rfl, rfl⟩
  · cases tvr_c hx
    exact ⟨_, _, _, rfl, rfl⟩
  · cases tvr_c hx
    exact ⟨_, _, _, rfl, rfl⟩
  · obtain ⟨A, c, rfl, _⟩ := slr_bd (tvr_c hx)
    exact ⟨_, _, _, rfl, rfl⟩
  · cases tvr_c hx
    exact ⟨_, _, _, rfl, rfl⟩
theorem vlen_sound {tx tv : TV} {vx : Value} {T U : TypeId} (hT : TabOk P tt) (hx : TVR C w S ι tx vx) (h : vlen (tt T) tx = some tv) :
    ∃ v, (Builtin.len_ #[T] U #[vx]).run P w = .ok v w ∧ TVR C w S ι tv v := by
  cases hi : tt T with
  | none => rw [hi] at h; simp [vlen] at h
  | some i =>
    rw [hi] at h
    simp only [vlen] at h
    split at h
    · rename_i hs
      obtain ⟨A, n, c, rfl, rfl⟩ := vlenS_sound hx h
      have hu := (hT T i hi).slice hs
      exact ⟨_, by simp [Builtin.len_, run_underlying hu, goInt], tvr_mk rfl⟩
    · split at h
      · rename_i hs
        have hu := (hT T i hi).string hs
        unfold vlenT at h
        split at h
        · injection h with h; subst h
          obtain ⟨rfl, _⟩ := tvr_v hx
          exact ⟨_, by simp [Builtin.len_, run_underlying hu, goInt], tvr_mk rfl⟩
        · cases h
      · cases h
theorem plainOf_spec {x : TV} {a : Value} (h : plainOf x = some a) : x = .c (.d (.v a)) := by
  unfold plainOf at h
  split at h
  · injection h with h; subst h; rfl
  · cases h

theorem fold_sound {f : Value → Value → Option Value} {g : Value → Value → Sem Value} (hf : ∀ a b c, f a b = some c → (g a b).run P w = .ok c w ∧ plain c = true) :
    ∀ (l : List TV) (x : TV) (vs : List Value) (vx : Value) (tv : TV), vs.length = l.length → (∀ (i : Nat) (y : TV), l[i]? = some y → ∃ v, vs[i]? = some v ∧ TVR C w S ι y v) → TVR C w S ι x vx → vfold f (x :: l) = some tv →
      ∃ v, (vs.foldlM g vx : Sem Value).run P w = .ok v w ∧ TVR C w S ι tv v
  | [], x, vs, vx, tv, hl, _, hx, h => by
    have : vs = [] := List.eq_nil_of_length_eq_zero hl
    subst this
    simp [vfold] at h
    subst h
    exact ⟨vx, by simp, hx⟩
  | y :: r, x, vs, vx, tv, hl, hr, hx, h => by
    cases vs with
    | nil => simp at hl
    | cons v s =>
      obtain ⟨v', hv', hy⟩ := hr 0 y rfl
      simp at hv'
      subst hv'
      rw [vfold] at h
      split at h
      · rename_i a b ha hb
        rw [plainOf_spec ha] at hx
        rw [plainOf_spec hb] at hy
        obtain ⟨rfl, _⟩ := tvr_v hx
        obtain ⟨rfl, _⟩ := tvr_v hy
        split at h
        · rename_i c hc
          obtain ⟨h1, h2⟩ := hf _ _ c hc
          obtain ⟨u, hu, hru⟩ := fold_sound hf r (.c (.d (.v c))) s c tv (by simpa using hl) (fun i z hz => by simpa using hr (i + 1) z (by simpa using hz)) (tvr_mk h2) h
          exact ⟨u, by simp [List.foldlM_cons, h1, hu], hru⟩
        · cases h
      · cases h
theorem vmin2_sound {a b c : Value} (h : vmin2 a b = some c) : (Builtin.min2 a b).run P w = .ok c w ∧ plain c = true := by
  unfold vmin2 at h
  split at h
  · split at h
    · injection h with h; subst h
      exact ⟨by simp [Builtin.min2], rfl⟩
    · cases h
  · cases h
theorem vmax2_sound {a b c : Value} (h : vmax2 a b = some c) : (Builtin.max2 a b).run P w = .ok c w ∧ plain c = true := by
  unfold vmax2 at h
  split at h
  · split at h
    · injection h with h; subst h
      exact ⟨by simp [Builtin.max2], rfl⟩
    · cases h
  · cases h

/-! ### New blocks -/
theorem ext_alloc (h : ∀ b, w.heap.size ≤ b → C.My b) (o : Obj) : Ext C.My w (w.alloc o) :=
  ⟨rfl, rfl, rfl, by simp, fun b hb _ => heap_alloc_old w o b hb⟩
theorem later_alloc {st : Store} {nx : Nat} {out : List (List D)} (h : StI C st nx out w ι S) (o : Obj) : Later C w (w.alloc o) S S ι ι :=
  ⟨fun _ h => h, fun b hb => heap_alloc_old w o b (by
    rcases hb with hb | hb
    · exact (h.dat b hb).1
    · exact h.bw b hb), fun _ _ _ h => h⟩
theorem fresh_block {st : Store} {nx : Nat} {out : List (List D)} (h : StI C st nx out w ι S) : C.My w.heap.size ∧ ¬ S w.heap.size ∧ ¬ C.Bw w.heap.size ∧ ∀ t' r', sget st t' = some r' → curBlk ι t' r' ≠ some w.heap.size :=
  ⟨h.my _ (Nat.le_refl _), fun hS => Nat.lt_irrefl _ (h.dat _ hS).1, fun hB => Nat.lt_irrefl _ (h.bw _ hB), fun t' r' hr hb => Nat.lt_irrefl _ ((h.row t' r' hr).lt hb)⟩

/-- What an operation owes. -/
def Out (C : Ctx) (st' : Store) (nx' : Nat) (out : List (List D)) (w : World) (ι : Hist) (S : Nat → Prop) (tk : Nat) (tv : TV) (v : Value) (w' : World) : Prop :=
  ∃ ι' S', TVR C w' S' ι' tv v ∧ StI C st' nx' out w' ι' S' ∧ Later C w w' S S' ι ι' ∧ Ext C.My w w' ∧ ∀ t, (∀ n, ι t n = none) → ¬ (tk ≤ t ∧ t < tk + 64) → ∀ n, ι' t n = none

theorem Out.same {st : Store} {nx nx' : Nat} {out : List (List D)} {tk : Nat} {tv : TV} {v : Value} (h : StI C st nx out w ι S) (hn : nx ≤ nx') (hv : TVR C w S ι tv v) : Out C st nx' out w ι S tk tv v w :=
  ⟨ι, S, hv, h.more hn, Later.refl _ _ _ _, Ext.refl _ _, fun t ht _ => ht⟩

/-- A new variable. -/
theorem new_box {st : Store} {nx nx' : Nat} {out : List (List D)} {tk : Nat} {T : TypeId} {cs : List CV} {vs : Array Value}
    (hst : ∀ out w w', C.Fr out w → Ext C.My w w' → C.Fr out w') (h : StI C st nx out w ι S) (hcs : CellsR C w S ι cs vs.toList) (hfree : ∀ t n, tk ≤ t → t < tk + 64 → ι t n = none) (hn : nx ≤ nx') (ht : tk + 64 ≤ nx') :
    Out C (sput st tk (.box T cs)) nx' out w ι S tk (.c (.ptr tk 0)) (.pointer (some ⟨w.heap.size, 0, none⟩)) (w.alloc (.cells vs T)) := by
  have hl := later_alloc h (.cells vs T)
  have hfr := fresh_block h
  have hv : ι tk 0 = none := hfree tk 0 (by omega) (by omega)
  have hm := hset_mono (ι := ι) (t := tk) (n := 0) (v := .pointer (some ⟨w.heap.size, 0, none⟩)) (.inl hv)
  have hl' : Later C w (w.alloc (.cells vs T)) S S ι (hset ι tk 0 (.pointer (some ⟨w.heap.size, 0, none⟩))) := ⟨hl.s, hl.w, hm⟩
  have hcur : curBlk (hset ι tk 0 (.pointer (some ⟨w.heap.size, 0, none⟩))) tk (.box T cs) = some w.heap.size := by simp [curBlk, hset_same, blkOf]
  obtain ⟨h1, h2⟩ := StI.put (t := tk) (n := 0) (v := .pointer (some ⟨w.heap.size, 0, none⟩)) (r := .box T cs) (g := none) (nx' := nx') hst h (ext_alloc h.my _) (fun b hb _ => heap_alloc_old w _ b hb) (.inl hv)
    (.box (hset_same _ _ _ _) (heap_alloc_new w _) (by simpa using hcs.1) (fun i x hx => by
      obtain ⟨u, hu, hc⟩ := hcs.2 i x hx
      rw [arr_getD (v := u) (by simpa using hu)]
      exact hc.later hl'))
    (fun b hb => by cases hb) (fun b hb => by
      rw [hcur] at hb
      injection hb with hb
      subst hb
      exact ⟨hfr.1, hfr.2.1, hfr.2.2.1, fun t' r' _ hr => hfr.2.2.2 t' r' hr⟩) hn (by omega)
  refine ⟨_, _, .c (.ptr (hset_same _ _ _ _)), h1, h2, ext_alloc h.my _, fun t ht hnt n => ?_⟩
  rw [hset_other _ _ _ _ (by intro e; subst e; omega)]
  exact ht n

/-- A new row. -/
theorem new_row {st : Store} {nx nx' : Nat} {out : List (List D)} {tk : Nat} {e k : Nat} {es : List (List D)} {vs : Array Value}
    (hst : ∀ out w w', C.Fr out w → Ext C.My w w' → C.Fr out w') (h : StI C st nx out w ι S) (hk : ∀ x ∈ es, x.length = k) (hvs : vs.size = es.length * k) (hmax : es.length ≤ 9223372036854775807)
    (hcs : ∀ (j : Nat) (x : D), es.flatten[j]? = some x → ∃ u, vs[j]? = some u ∧ Rd w S x u) (hfree : ∀ t n, tk ≤ t → t < tk + 64 → ι t n = none) (hn : nx ≤ nx') (ht : tk + 64 ≤ nx') :
    Out C (sput st tk (.sl e k es)) nx' out w ι S tk (.c (.own tk es.length)) (.slice (some ⟨w.heap.size, 0, none⟩) es.length es.length) (w.alloc (.cells vs e)) := by
  have hl := later_alloc h (.cells vs e)
  have hfr := fresh_block h
  have hv : ι tk es.length = none := hfree tk _ (by omega) (by omega)
  have hm := hset_mono (ι := ι) (t := tk) (n := es.length) (v := .slice (some ⟨w.heap.size, 0, none⟩) es.length es.length) (.inl hv)
  have hl' : Later C w (w.alloc (.cells vs e)) S S ι (hset ι tk es.length (.slice (some ⟨w.heap.size, 0, none⟩) es.length es.length)) := ⟨hl.s, hl.w, hm⟩
  have hcur : curBlk (hset ι tk es.length (.slice (some ⟨w.heap.size, 0, none⟩) es.length es.length)) tk (.sl e k es) = some w.heap.size := by simp [curBlk, hset_same, blkOf]
  obtain ⟨h1, h2⟩ := StI.put (t := tk) (n := es.length) (v := .slice (some ⟨w.heap.size, 0, none⟩) es.length es.length) (r := .sl e k es) (g := none) (nx' := nx') hst h (ext_alloc h.my _) (fun b hb _ => heap_alloc_old w _ b hb) (.inl hv)
    (.sl (hset_same _ _ _ _) (World.ownsRow_lit w vs es.length (Nat.zero_le _) hmax hvs) hk (fun j x hx => by
      obtain ⟨u, hu, hc⟩ := hcs j x hx
      exact ⟨u, by simpa using hu, hc.later hl'⟩) (fun n hne => by
        unfold hset at hne
        split at hne
        · rename_i q; exact Nat.le_of_eq q.2
        · exact absurd (hfree tk n (by omega) (by omega)) hne))
    (fun b hb => by cases hb) (fun b hb => by
      rw [hcur] at hb
      injection hb with hb
      subst hb
      exact ⟨hfr.1, hfr.2.1, hfr.2.2.1, fun t' r' _ hr => hfr.2.2.2 t' r' hr⟩) hn (by omega)
  refine ⟨_, _, .c (.own (hset_same _ _ _ _)), h1, h2, ext_alloc h.my _, fun t ht hnt n => ?_⟩
  rw [hset_other _ _ _ _ (by intro e; subst e; omega)]
  exact ht n
end Go.Proofs.VL
