/- The value level: code. -/
import Derived.Test.YtoclhejbhefgeaaVA
set_option linter.unusedVariables false
set_option linter.unusedSimpArgs false
namespace Go.Proofs.VL
open Go

variable (P : Program) (tt : TypeId → Option TI)

/-- What holds of one value-level frame holds of the other. -/
def Wk (E E' : Env) : Prop := ∀ C a w, St C E a w → St C E' a w

def VSeq (K : Env → Prop) (Q : Exit → Env → Prop) : Exit → Env → Prop
  | .normal, E => K E
  | e, E => Q e E
def VBlk (id : Nat) (Q : Exit → Env → Prop) : Exit → Env → Prop
  | .exit id', E => if id' = id then Q .normal E else Q (.exit id') E
  | e, E => Q e E

def VNg (Q : Exit → Env → Prop) : Exit → Env → Prop
  | .goto _, _ => False
  | e, E => Q e E
def fixc (tm : List TV) (c : Operand) (b : Bool) : List TV :=
  match c with
  | .tmp t => seti tm t (boo b)
  | _ => tm

def vwp : Code → (Exit → Env → Prop) → Env → Prop
  | .skip, Q, E => Q .normal E
  | .label _, Q, E => Q .normal E
  | .region _ ops draw, Q, E => VOps P tt ops draw Q ops.toList 0 E.tm E.st E.out E.nx []
  | .seq a b, Q, E => vwp a (VSeq (vwp b Q) Q) E
  | .cond c a b, Q, E => match wantBool (ev E.tm c) with
    | some t => (t = true → vwp a Q ⟨fixc E.tm c true, E.st, E.out, E.nx⟩) ∧ (t = false → vwp b Q ⟨fixc E.tm c false, E.st, E.out, E.nx⟩)
    | none => False
  | .block id c, Q, E => vwp c (VBlk id Q) E
  | .loop c, Q, E => ∃ (I : Env → Prop) (μ : Env → Nat) (E0 : Env), Wk E E0 ∧ I E0 ∧ ∀ E', I E' → vwp c (VSeq (fun E'' => ∃ E3, Wk E'' E3 ∧ I E3 ∧ μ E3 < μ E') Q) E'
  | .exit id, Q, E => Q (.exit id) E
  | .ret, Q, E => Q .ret E
  | .scope c, Q, E => vwp c (VNg Q) E
  | _, _, _ => False

/-! ### As rules of a simp set: what stands still stands still -/
section
variable (full : Array Oper) (draw : Bool) (Q : Exit → Env → Prop) (rest : List Oper) (i : Nat) (tm : List TV) (st : Store) (out : List (List D)) (nx : Nat) (acc : List (List Nat × List Nat))
def VPend (f : FuncId) (args : List TV) (dst : Option Nat) : Prop :=
  ∃ tv u r, CallOk P st f args (nx + 64 * i) tv u r ∧ VOps P tt full draw Q rest (i + 1) (sett tm dst tv) (supd st u) out nx ((u.map (·.1), r) :: acc)
def VRun (dst : Option Nat) : OpRes → Prop
  | .bad => False
  | .ok tv u r => VOps P tt full draw Q rest (i + 1) (sett tm dst tv) (supd st u) out nx ((u.map (·.1), r) :: acc)
  | .need p tv u r => p ∧ VOps P tt full draw Q rest (i + 1) (sett tm dst tv) (supd st u) out nx ((u.map (·.1), r) :: acc)
  | .call f args => VPend P tt full draw Q rest i tm st out nx acc f args dst
  | .yld _ => False
theorem VRes_run (dst : Option Nat) (x : OpRes) : VRes P st (nx + 64 * i) (fun tv u r => VOps P tt full draw Q rest (i + 1) (sett tm dst tv) (supd st u) out nx ((u.map (·.1), r) :: acc)) x = VRun P tt full draw Q rest i tm st out nx acc dst x := by
  cases x <;> rfl
def VGrd (dst : Option Nat) (op : Op) (d : Nat) (w : Bool) : Option (Option Bool) → Prop
  | none => False
  | some none => VOps P tt full draw Q rest (i + 1) (sett tm dst (.tup [])) st out nx (([], []) :: acc)
  | some (some b) => (b = w → VRun P tt full draw Q rest i (seti tm d (boo w)) st out nx acc dst (vstep tt (seti tm d (boo w)) st (nx + 64 * i) op)) ∧
      (b = !w → VOps P tt full draw Q rest (i + 1) (sett (seti tm d (boo (!w))) dst (.tup [])) st out nx (([], []) :: acc))
def VGo (dst : Option Nat) (op : Op) : Option (Nat × Bool) → Prop
  | none => False
  | some (d, w) => VGrd P tt full draw Q rest i tm st out nx acc dst op d w (guardOf (geti tm d))

theorem VOps_nil : VOps P tt full draw Q [] i tm st out nx acc = ((draw = true → drawOk full acc.reverse = true) ∧ Q .normal ⟨tm, st, out, nx + 64 * full.size⟩) := rfl
theorem VOps_one (dst : Option Nat) (op : Op) (ty : TypeId) (pos : String) (aft : Array Edge) :
    VOps P tt full draw Q (⟨dst, op, ty, pos, aft, none⟩ :: rest) i tm st out nx acc = VRun P tt full draw Q rest i tm st out nx acc dst (vstep tt tm st (nx + 64 * i) op) := by
  rw [← VRes_run]; rfl
theorem VOps_grd (dst : Option Nat) (op : Op) (ty : TypeId) (pos : String) (aft : Array Edge) (j : Nat) (w : Bool) :
    VOps P tt full draw Q (⟨dst, op, ty, pos, aft, some (j, w)⟩ :: rest) i tm st out nx acc = VGo P tt full draw Q rest i tm st out nx acc dst op (gslot full (some (j, w))) := by
  simp only [VOps]
  cases gslot full (some (j, w)) with
  | none => simp [VGo]
  | some g =>
    obtain ⟨d, w'⟩ := g
    simp only [VGo]
    cases guardOf (geti tm d) with
    | none => rfl
    | some x =>
      cases x with
      | none => rfl
      | some b => simp only [VGrd, VRes_run]
theorem VRun_ok (dst : Option Nat) (tv : TV) (u : Upd) (r : List Nat) : VRun P tt full draw Q rest i tm st out nx acc dst (.ok tv u r) = VOps P tt full draw Q rest (i + 1) (sett tm dst tv) (supd st u) out nx ((u.map (·.1), r) :: acc) := rfl
theorem VRun_need (dst : Option Nat) (p : Prop) (tv : TV) (u : Upd) (r : List Nat) : VRun P tt full draw Q rest i tm st out nx acc dst (.need p tv u r) = (p ∧ VOps P tt full draw Q rest (i + 1) (sett tm dst tv) (supd st u) out nx ((u.map (·.1), r) :: acc)) := rfl
theorem VRun_call (dst : Option Nat) (f : FuncId) (args : List TV) : VRun P tt full draw Q rest i tm st out nx acc dst (.call f args) = VPend P tt full draw Q rest i tm st out nx acc f args dst := rfl
theorem VRun_bad (dst : Option Nat) : VRun P tt full draw Q rest i tm st out nx acc dst .bad = False := rfl
theorem VGrd_t (dst : Option Nat) (op : Op) (d : Nat) : VGrd P tt full draw Q rest i tm st out nx acc dst op d true (some (some true)) = VRun P tt full draw Q rest i (seti tm d (boo true)) st out nx acc dst (vstep tt (seti tm d (boo true)) st (nx + 64 * i) op) := by simp [VGrd]
theorem VGrd_f (dst : Option Nat) (op : Op) (d : Nat) : VGrd P tt full draw Q rest i tm st out nx acc dst op d false (some (some false)) = VRun P tt full draw Q rest i (seti tm d (boo false)) st out nx acc dst (vstep tt (seti tm d (boo false)) st (nx + 64 * i) op) := by simp [VGrd]
theorem VGrd_tf (dst : Option Nat) (op : Op) (d : Nat) : VGrd P tt full draw Q rest i tm st out nx acc dst op d true (some (some false)) = VOps P tt full draw Q rest (i + 1) (sett (seti tm d (boo false)) dst (.tup [])) st out nx (([], []) :: acc) := by simp [VGrd]
theorem VGrd_ft (dst : Option Nat) (op : Op) (d : Nat) : VGrd P tt full draw Q rest i tm st out nx acc dst op d false (some (some true)) = VOps P tt full draw Q rest (i + 1) (sett (seti tm d (boo true)) dst (.tup [])) st out nx (([], []) :: acc) := by simp [VGrd]
theorem VGrd_some (dst : Option Nat) (op : Op) (d : Nat) (w b : Bool) : VGrd P tt full draw Q rest i tm st out nx acc dst op d w (some (some b)) =
    ((b = w → VRun P tt full draw Q rest i (seti tm d (boo w)) st out nx acc dst (vstep tt (seti tm d (boo w)) st (nx + 64 * i) op)) ∧
      (b = !w → VOps P tt full draw Q rest (i + 1) (sett (seti tm d (boo (!w))) dst (.tup [])) st out nx (([], []) :: acc))) := rfl
theorem VGrd_dec_t (dst : Option Nat) (op : Op) (d : Nat) (p : Prop) [Decidable p] : VGrd P tt full draw Q rest i tm st out nx acc dst op d true (some (some (decide p))) =
    ((p → VRun P tt full draw Q rest i (seti tm d (boo true)) st out nx acc dst (vstep tt (seti tm d (boo true)) st (nx + 64 * i) op)) ∧
      (¬ p → VOps P tt full draw Q rest (i + 1) (sett (seti tm d (boo false)) dst (.tup [])) st out nx (([], []) :: acc))) := by
  by_cases h : p <;> simp [VGrd, h]
theorem VGrd_dec_f (dst : Option Nat) (op : Op) (d : Nat) (p : Prop) [Decidable p] : VGrd P tt full draw Q rest i tm st out nx acc dst op d false (some (some (decide p))) =
    ((¬ p → VRun P tt full draw Q rest i (seti tm d (boo false)) st out nx acc dst (vstep tt (seti tm d (boo false)) st (nx + 64 * i) op)) ∧
      (p → VOps P tt full draw Q rest (i + 1) (sett (seti tm d (boo true)) dst (.tup [])) st out nx (([], []) :: acc))) := by
  by_cases h : p <;> simp [VGrd, h]
theorem VOps_nil_false : VOps P tt full false Q [] i tm st out nx acc = Q .normal ⟨tm, st, out, nx + 64 * full.size⟩ := by rw [VOps_nil]; simp
theorem VOps_nil_true : VOps P tt full true Q [] i tm st out nx acc = (drawOk full acc.reverse = true ∧ Q .normal ⟨tm, st, out, nx + 64 * full.size⟩) := by rw [VOps_nil]; simp
theorem VGo_some (dst : Option Nat) (op : Op) (d : Nat) (w : Bool) : VGo P tt full draw Q rest i tm st out nx acc dst op (some (d, w)) = VGrd P tt full draw Q rest i tm st out nx acc dst op d w (guardOf (geti tm d)) := rfl
theorem VGrd_skip (dst : Option Nat) (op : Op) (d : Nat) (w : Bool) : VGrd P tt full draw Q rest i tm st out nx acc dst op d w (some none) = VOps P tt full draw Q rest (i + 1) (sett tm dst (.tup [])) st out nx (([], []) :: acc) := rfl
end

def VLp (c : Code) (Q : Exit → Env → Prop) (E : Env) : Prop :=
  ∃ (I : Env → Prop) (μ : Env → Nat) (E0 : Env), Wk E E0 ∧ I E0 ∧ ∀ E', I E' → vwp P tt c (VSeq (fun E'' => ∃ E3, Wk E'' E3 ∧ I E3 ∧ μ E3 < μ E') Q) E'
section
variable (Q : Exit → Env → Prop) (E : Env) (tm : List TV) (st : Store) (out : List (List D)) (nx : Nat)
theorem vwp_skip : vwp P tt .skip Q E = Q .normal E := rfl
theorem vwp_label (l : Nat) : vwp P tt (.label l) Q E = Q .normal E := rfl
theorem vwp_region (id : Nat) (ops : Array Oper) (draw : Bool) : vwp P tt (.region id ops draw) Q ⟨tm, st, out, nx⟩ = VOps P tt ops draw Q ops.toList 0 tm st out nx [] := rfl
theorem vwp_seq (a b : Code) : vwp P tt (.seq a b) Q E = vwp P tt a (VSeq (vwp P tt b Q) Q) E := rfl
theorem vwp_block (id : Nat) (c : Code) : vwp P tt (.block id c) Q E = vwp P tt c (VBlk id Q) E := rfl
theorem vwp_loop (c : Code) : vwp P tt (.loop c) Q E = VLp P tt c Q E := rfl
theorem vwp_exit (id : Nat) : vwp P tt (.exit id) Q E = Q (.exit id) E := rfl
theorem vwp_ret : vwp P tt .ret Q E = Q .ret E := rfl
def VCond (c : Operand) (a b : Code) (Q : Exit → Env → Prop) (tm : List TV) (st : Store) (out : List (List D)) (nx : Nat) : Option Bool → Prop
  | some t => (t = true → vwp P tt a Q ⟨fixc tm c true, st, out, nx⟩) ∧ (t = false → vwp P tt b Q ⟨fixc tm c false, st, out, nx⟩)
  | none => False
theorem vwp_cond (c : Operand) (a b : Code) : vwp P tt (.cond c a b) Q ⟨tm, st, out, nx⟩ = VCond P tt c a b Q tm st out nx (wantBool (ev tm c)) := by
  simp only [vwp]
  cases wantBool (ev tm c) <;> rfl
theorem VCond_true (c : Operand) (a b : Code) : VCond P tt c a b Q tm st out nx (some true) = vwp P tt a Q ⟨fixc tm c true, st, out, nx⟩ := by simp [VCond]
theorem VCond_false (c : Operand) (a b : Code) : VCond P tt c a b Q tm st out nx (some false) = vwp P tt b Q ⟨fixc tm c false, st, out, nx⟩ := by simp [VCond]
theorem VCond_some (c : Operand) (a b : Code) (t : Bool) : VCond P tt c a b Q tm st out nx (some t) = ((t = true → vwp P tt a Q ⟨fixc tm c true, st, out, nx⟩) ∧ (t = false → vwp P tt b Q ⟨fixc tm c false, st, out, nx⟩)) := rfl
theorem VCond_dec (c : Operand) (a b : Code) (p : Prop) [Decidable p] : VCond P tt c a b Q tm st out nx (some (decide p)) = ((p → vwp P tt a Q ⟨fixc tm c true, st, out, nx⟩) ∧ (¬ p → vwp P tt b Q ⟨fixc tm c false, st, out, nx⟩)) := by
  by_cases h : p <;> simp [VCond, h]
theorem vwp_scope (c : Code) : vwp P tt (.scope c) Q E = vwp P tt c (VNg Q) E := rfl
theorem VNg_normal : VNg Q .normal E = Q .normal E := rfl
theorem VNg_ret : VNg Q .ret E = Q .ret E := rfl
theorem VNg_exit (id : Nat) : VNg Q (.exit id) E = Q (.exit id) E := rfl
theorem VSeq_normal (K : Env → Prop) : VSeq K Q .normal E = K E := rfl
theorem VSeq_ret (K : Env → Prop) : VSeq K Q .ret E = Q .ret E := rfl
theorem VSeq_exit (K : Env → Prop) (id : Nat) : VSeq K Q (.exit id) E = Q (.exit id) E := rfl
theorem VBlk_normal (id : Nat) : VBlk id Q .normal E = Q .normal E := rfl
theorem VBlk_ret (id : Nat) : VBlk id Q .ret E = Q .ret E := rfl
theorem VBlk_exit (id id' : Nat) : VBlk id Q (.exit id') E = if id' = id then Q .normal E else Q (.exit id') E := rfl
end

theorem VRes_mono {st : Store} {tk : Nat} {K K' : TV → Upd → List Nat → Prop} (h : ∀ tv u r, K tv u r → K' tv u r) : ∀ x : OpRes, VRes P st tk K x → VRes P st tk K' x
  | .bad, hx => hx
  | .ok _ _ _, hx => h _ _ _ hx
  | .need _ _ _ _, hx => ⟨hx.1, h _ _ _ hx.2⟩
  | .call _ _, ⟨tv, u, r, h1, h2⟩ => ⟨tv, u, r, h1, h _ _ _ h2⟩
  | .yld _, hx => hx
theorem VOps_mono {full : Array Oper} {draw : Bool} {Q Q' : Exit → Env → Prop} (h : ∀ e E, Q e E → Q' e E) : ∀ (rest : List Oper) (i : Nat) (tm : List TV) (st : Store) (out : List (List D)) (nx : Nat) (acc : List (List Nat × List Nat)),
    VOps P tt full draw Q rest i tm st out nx acc → VOps P tt full draw Q' rest i tm st out nx acc := by
  intro rest
  induction rest with
  | nil => intro i tm st out nx acc hx; exact ⟨hx.1, h _ _ hx.2⟩
  | cons o rest ih =>
    intro i tm st out nx acc hx
    simp only [VOps] at hx ⊢
    split
    · rename_i hg
      simp only [hg] at hx
      exact VRes_mono P (fun _ _ _ hk => ih _ _ _ _ _ _ hk) _ hx
    · rename_i g hg
      simp only [hg] at hx
      split
      · rename_i hs; simp only [hs] at hx
      · rename_i d w hs
        simp only [hs] at hx
        split
        · rename_i hb; simp only [hb] at hx
        · rename_i hb; simp only [hb] at hx; exact ih _ _ _ _ _ _ hx
        · rename_i b hb
          simp only [hb] at hx
          exact ⟨fun e => VRes_mono P (fun _ _ _ hk => ih _ _ _ _ _ _ hk) _ (hx.1 e), fun e => ih _ _ _ _ _ _ (hx.2 e)⟩
theorem vwp_mono : ∀ (c : Code) {Q Q' : Exit → Env → Prop} {E : Env}, (∀ e E, Q e E → Q' e E) → vwp P tt c Q E → vwp P tt c Q' E := by
  intro c
  induction c with
  | skip => intro Q Q' E h hx; exact h _ _ hx
  | label l => intro Q Q' E h hx; exact h _ _ hx
  | exit id => intro Q Q' E h hx; exact h _ _ hx
  | ret => intro Q Q' E h hx; exact h _ _ hx
  | region id ops draw => intro Q Q' E h hx; exact VOps_mono P tt h _ _ _ _ _ _ _ hx
  | seq a b iha ihb =>
    intro Q Q' E h hx
    refine iha (fun e E hq => ?_) hx
    cases e <;> first | exact ihb h hq | exact h _ _ hq
  | block id c ih =>
    intro Q Q' E h hx
    refine ih (fun e E hq => ?_) hx
    cases e with
    | exit id' => simp only [VBlk] at hq ⊢; split <;> rename_i hid <;> simp only [hid, if_true, if_false] at hq <;> exact h _ _ hq
    | _ => exact h _ _ hq
  | cond c a b iha ihb =>
    intro Q Q' E h hx
    simp only [vwp] at hx ⊢
    split
    · rename_i t ht
      simp only [ht] at hx
      exact ⟨fun e => iha h (hx.1 e), fun e => ihb h (hx.2 e)⟩
    · rename_i ht; simp only [ht] at hx
  | scope c ih =>
    intro Q Q' E h hx
    refine ih (fun e E hq => ?_) hx
    cases e <;> first | exact hq.elim | exact h _ _ hq
  | loop c ih =>
    intro Q Q' E h hx
    obtain ⟨I, μ, E0, h1, h2, h3⟩ := hx
    refine ⟨I, μ, E0, h1, h2, fun E' hI => ih (fun e E hq => ?_) (h3 E' hI)⟩
    cases e <;> first | exact hq | exact h _ _ hq
  | _ => intro Q Q' E h hx; exact hx.elim

end Go.Proofs.VL
