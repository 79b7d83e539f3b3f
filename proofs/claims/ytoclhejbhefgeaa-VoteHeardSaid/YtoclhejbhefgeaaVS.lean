/- slices.Clone, whatever the element. -/
import Derived.Test.YtoclhejbhefgeaaVU
set_option linter.unusedVariables false
set_option linter.unusedSimpArgs false
set_option maxRecDepth 100000
namespace Go.Proofs.VL
open Go

def cloneBody (T b : TypeId) : Code :=
  (Go.Code.region 0 #[{ dst := some 2, op := Go.Op.assign (Go.Operand.const (Go.Value.slice none 0 0)), type := T, pos := "slices.go:355", after := #[], guard := none }] false).seq
    (((Go.Code.region 1
        #[{ dst := some 3, op := Go.Op.move (Go.Operand.tmp 0), type := T, pos := "slices.go:357", after := #[], guard := none },
          { dst := some 4, op := Go.Op.binOp Go.BinOp.eql T (Go.Operand.tmp 3) (Go.Operand.const (Go.Value.slice none 0 0)) T, type := b, pos := "slices.go:357", after := #[{ on := 0, ground := Go.Ground.data }], guard := none }] false).seq
      (Go.Code.cond (Go.Operand.tmp 4)
        ((Go.Code.region 2 #[{ dst := some 2, op := Go.Op.assign (Go.Operand.const (Go.Value.slice none 0 0)), type := T, pos := "slices.go:358", after := #[], guard := none }] false).seq Go.Code.ret)
        Go.Code.skip)).seq
    ((Go.Code.region 3
        #[{ dst := some 5, op := Go.Op.buildSlice T 0 #[], type := T, pos := "slices.go:362", after := #[], guard := none },
          { dst := some 6, op := Go.Op.move (Go.Operand.tmp 0), type := T, pos := "slices.go:362", after := #[], guard := none },
          { dst := some 7, op := Go.Op.call { callee := Go.Callee.builtin Go.Builtin.append, args := #[Go.Operand.tmp 5, Go.Operand.tmp 6], argTypes := #[T, T] }, type := T, pos := "slices.go:362",
            after := #[{ on := 0, ground := Go.Ground.data }, { on := 1, ground := Go.Ground.data }], guard := none },
          { dst := some 2, op := Go.Op.assign (Go.Operand.tmp 7), type := T, pos := "slices.go:362",
            after := #[{ on := 2, ground := Go.Ground.data }, { on := 2, ground := Go.Ground.chain }, { on := 0, ground := Go.Ground.phase }, { on := 1, ground := Go.Ground.phase }, { on := 2, ground := Go.Ground.phase }], guard := none }] false).seq
      Go.Code.ret))

variable {P : Program} {tt : Tab}

theorem vcalls_bd_nil {f : FuncId} {st : Store} {res : TV} {rst : Store} (h1 : VCalls P f [.c .nil] st res rst) (h2 : VCalls P f [.c .emp] st res rst) : VCalls P f [.c (.bd [])] st res rst := by
  refine ⟨h1.1, fun w S Bw ι nx vs => ?_⟩
  intro C hI htm
  have h0 := htm.2 0 _ rfl
  have hl : vs.size = 1 := htm.1
  have one : ∀ x : TV, TVR C w S ι x (vs.getD 0 undef) → TmR C w S ι [x] vs := fun x hx => ⟨hl, fun i y hy => by
    cases i with
    | zero => simp at hy; subst hy; exact hx
    | succ i => simp at hy⟩
  generalize hv : vs.getD 0 undef = v at h0 one
  cases tvr_c h0 with
  | bde hA =>
    rename_i A c
    cases A with
    | none =>
      have := hA rfl
      subst this
      exact h1.2 w S Bw ι nx vs hI (one _ (.c .nil))
    | some ad => exact h2.2 w S Bw ι nx vs hI (one _ (.c .emp))
  | bd _ _ _ _ _ => exact h2.2 w S Bw ι nx vs hI (one _ (.c .emp))

theorem clone_calls (hT : TabOk P tt) (hm : P.follows .mixedOrders = true) {f : FuncId} {fn : Func} {T b e : TypeId} {i j : TI} (hf : P.funcs[f]? = some fn) (hname : (fn.name == "runtime.NumGoroutine") = false) (hb : fn.body = some (cloneBody T b))
    (hr : fn.results = #[.tmp 2]) (hn : fn.ntmps = 8) (hi : tt T = some i) (hsl : i.sl = true) (hel : i.elem = e) (hj : tt e = some j) {es : List (List D)} (hk : ∀ x ∈ es, x.length = j.size) (hby : es.length * j.bytes ≤ 140737488355328) :
    VCalls P f [.c (.bd es)] [] (.c (.own 0 es.length)) [(0, .sl e j.size es)] := by
  have hnil : es = [] → VCalls P f [.c .nil] [] (.c (.own 0 es.length)) [(0, .sl e j.size es)] := by
    intro h
    subst h
    refine vcalls_of (args0 := [.c .nil]) (st0 := []) hT hm hf hname hb {} rfl trivial ⟨trivial, trivial⟩ (fun _ => .inl rfl) ?_
    rw [hr, hn]
    simp -implicitDefEqProofs (maxSteps := 1000000) only [cloneBody, hi, hsl, hel, hj, isNil, vnilB, VPost, VRet, resN, res1, consO, VRetO, resOf, VSeq_normal, VSeq_ret, VSeq_exit, VBlk_normal, VBlk_ret, VBlk_exit, VNg_normal, VNg_ret, VNg_exit, vwp_scope, vwp_skip, vwp_label, vwp_region, vwp_seq, vwp_block, vwp_loop, vwp_exit, vwp_ret, vwp_cond, VCond_true, VCond_false, VCond_dec, VOps_one, VOps_nil_false, VOps_nil_true, VOps_grd, VRun_ok, VRun_need, VRun_call, VRun_bad, VGo_some, VGrd_skip, guardOf, VGrd_t, VGrd_f, VGrd_tf, VGrd_ft, VGrd_dec_t, VGrd_dec_f, gslot, vstep, cellsOf, ev, geti, seti, sett, supd, sput, sget, sdel, constTV, constCV, constCVs, tvAgg, tvOne, plain, vpure, vload, pAt, okOf, plainOf, tvOf, vbin, wantBool, vbox, valloc, vfaddr, vfaddrAt, vloadAt, vloadEl, vbinT, vbool, vstruct, eqlOf, neqOf, eqCells, eqCell, vpick, vun, vconv, vconvK, vnilc, vfield, vfieldAt, vextract, fillParts, aggOf, vbuild, cvsOf, vmkf, vstore, vstoreAt, vstoreEl, putCells, putDs, vindex, vipAt, vindexOwn, vlen, vlenS, vlenT, elemTI, vappend, vappOwn, elemsOf, dOf, dsOf, gone, setParts, dzero, vbsl, vbuildSlice, vmakeSlice, vslice, vslice2, vsliceop, lowOf, intOfT, vbuiltin, vcallv, vcallc, fixc, vfold, vmin2, vmax2, List.length_cons, List.length_nil, Nat.reduceAdd, Nat.reduceMul, Nat.reduceSub, Nat.reduceLeDiff, Nat.reduceLT, Nat.reduceEqDiff, Nat.reduceDiv, Nat.reduceMod, reduceIte, List.getElem?_cons_zero, List.getElem?_cons_succ, Option.map_some, Option.map_none, Option.bind_some, Option.bind_none, List.map_cons, List.map_nil, List.size_toArray, Bool.false_eq_true, false_implies, true_implies, true_and, and_true, false_and, and_false, List.getElem?_toArray, List.cons_append, List.nil_append, List.append_nil, Option.isSome_some, Nat.add_zero, Nat.zero_add, List.drop_zero, List.drop_succ_cons, List.take_zero, List.take_succ_cons, List.replicate, Bool.not_true, Bool.not_false, ne_eq, not_true_eq_false, not_false_eq_true, List.contains_nil, List.mem_cons, List.not_mem_nil, or_false, false_or, reduceCtorEq, List.headD_cons, Nat.zero_mul, Int.toNat_natCast, decide_true, decide_false, implies_true, List.set_cons_zero, List.set_cons_succ, Int.cast_ofNat_Int, Int.reduceAdd, Int.reduceSub, Int.reduceMul, Int.reduceLT, Int.reduceLE, Int.reduceNeg, gt_iff_lt, ge_iff_le, Int.reduceEq, renT, renTs, renS, renR, renC, renCs, takenC, frzC, ownsC, flatTs, flatT, readC, VPost, VRet, resN, res1, consO, VRetO, resOf, okTv, Option.getD_some, isNil, vnilB, rho, keptP, own?, Nat.mul_one, List.length_map, List.getElem?_map, List.map_map, Function.comp_apply, List.contains_cons, Nat.reduceBEq, Bool.true_or, Bool.false_or, Bool.or_false]
    exact ⟨{ ad := [0] }, rfl, ⟨⟨by simp, trivial⟩, trivial⟩, ⟨rfl, by simp⟩, rfl, rfl⟩
  have hemp : es = [] → VCalls P f [.c .emp] [] (.c (.own 0 es.length)) [(0, .sl e j.size es)] := by
    intro h
    subst h
    refine vcalls_of (args0 := [.c .emp]) (st0 := []) hT hm hf hname hb {} rfl trivial ⟨trivial, trivial⟩ (fun _ => .inl rfl) ?_
    rw [hr, hn]
    simp -implicitDefEqProofs (maxSteps := 1000000) only [cloneBody, hi, hsl, hel, hj, isNil, vnilB, VPost, VRet, resN, res1, consO, VRetO, resOf, VSeq_normal, VSeq_ret, VSeq_exit, VBlk_normal, VBlk_ret, VBlk_exit, VNg_normal, VNg_ret, VNg_exit, vwp_scope, vwp_skip, vwp_label, vwp_region, vwp_seq, vwp_block, vwp_loop, vwp_exit, vwp_ret, vwp_cond, VCond_true, VCond_false, VCond_dec, VOps_one, VOps_nil_false, VOps_nil_true, VOps_grd, VRun_ok, VRun_need, VRun_call, VRun_bad, VGo_some, VGrd_skip, guardOf, VGrd_t, VGrd_f, VGrd_tf, VGrd_ft, VGrd_dec_t, VGrd_dec_f, gslot, vstep, cellsOf, ev, geti, seti, sett, supd, sput, sget, sdel, constTV, constCV, constCVs, tvAgg, tvOne, plain, vpure, vload, pAt, okOf, plainOf, tvOf, vbin, wantBool, vbox, valloc, vfaddr, vfaddrAt, vloadAt, vloadEl, vbinT, vbool, vstruct, eqlOf, neqOf, eqCells, eqCell, vpick, vun, vconv, vconvK, vnilc, vfield, vfieldAt, vextract, fillParts, aggOf, vbuild, cvsOf, vmkf, vstore, vstoreAt, vstoreEl, putCells, putDs, vindex, vipAt, vindexOwn, vlen, vlenS, vlenT, elemTI, vappend, vappOwn, elemsOf, dOf, dsOf, gone, setParts, dzero, vbsl, vbuildSlice, vmakeSlice, vslice, vslice2, vsliceop, lowOf, intOfT, vbuiltin, vcallv, vcallc, fixc, vfold, vmin2, vmax2, List.length_cons, List.length_nil, Nat.reduceAdd, Nat.reduceMul, Nat.reduceSub, Nat.reduceLeDiff, Nat.reduceLT, Nat.reduceEqDiff, Nat.reduceDiv, Nat.reduceMod, reduceIte, List.getElem?_cons_zero, List.getElem?_cons_succ, Option.map_some, Option.map_none, Option.bind_some, Option.bind_none, List.map_cons, List.map_nil, List.size_toArray, Bool.false_eq_true, false_implies, true_implies, true_and, and_true, false_and, and_false, List.getElem?_toArray, List.cons_append, List.nil_append, List.append_nil, Option.isSome_some, Nat.add_zero, Nat.zero_add, List.drop_zero, List.drop_succ_cons, List.take_zero, List.take_succ_cons, List.replicate, Bool.not_true, Bool.not_false, ne_eq, not_true_eq_false, not_false_eq_true, List.contains_nil, List.mem_cons, List.not_mem_nil, or_false, false_or, reduceCtorEq, List.headD_cons, Nat.zero_mul, Int.toNat_natCast, decide_true, decide_false, implies_true, List.set_cons_zero, List.set_cons_succ, Int.cast_ofNat_Int, Int.reduceAdd, Int.reduceSub, Int.reduceMul, Int.reduceLT, Int.reduceLE, Int.reduceNeg, gt_iff_lt, ge_iff_le, Int.reduceEq, renT, renTs, renS, renR, renC, renCs, takenC, frzC, ownsC, flatTs, flatT, readC, VPost, VRet, resN, res1, consO, VRetO, resOf, okTv, Option.getD_some, isNil, vnilB, rho, keptP, own?, Nat.mul_one, List.length_map, List.getElem?_map, List.map_map, Function.comp_apply, List.contains_cons, Nat.reduceBEq, Bool.true_or, Bool.false_or, Bool.or_false]
    exact ⟨{ r := [(0, 256)] }, rfl, ⟨⟨⟨rfl, rfl, rfl⟩, by simp⟩, trivial⟩, ⟨rfl, by simp⟩, rfl, rfl⟩
  have hcons : ∀ y r, es = y :: r → VCalls P f [.c (.bd es)] [] (.c (.own 0 es.length)) [(0, .sl e j.size es)] := by
    intro y r h
    subst h
    refine vcalls_of (args0 := [.c (.bd (y :: r))]) (st0 := []) hT hm hf hname hb {} rfl trivial ⟨rfl, trivial⟩ (fun _ => .inl rfl) ?_
    rw [hr, hn]
    simp -implicitDefEqProofs (maxSteps := 1000000) only [cloneBody, hi, hsl, hel, hj, isNil, vnilB, VPost, VRet, resN, res1, consO, VRetO, resOf, VSeq_normal, VSeq_ret, VSeq_exit, VBlk_normal, VBlk_ret, VBlk_exit, VNg_normal, VNg_ret, VNg_exit, vwp_scope, vwp_skip, vwp_label, vwp_region, vwp_seq, vwp_block, vwp_loop, vwp_exit, vwp_ret, vwp_cond, VCond_true, VCond_false, VCond_dec, VOps_one, VOps_nil_false, VOps_nil_true, VOps_grd, VRun_ok, VRun_need, VRun_call, VRun_bad, VGo_some, VGrd_skip, guardOf, VGrd_t, VGrd_f, VGrd_tf, VGrd_ft, VGrd_dec_t, VGrd_dec_f, gslot, vstep, cellsOf, ev, geti, seti, sett, supd, sput, sget, sdel, constTV, constCV, constCVs, tvAgg, tvOne, plain, vpure, vload, pAt, okOf, plainOf, tvOf, vbin, wantBool, vbox, valloc, vfaddr, vfaddrAt, vloadAt, vloadEl, vbinT, vbool, vstruct, eqlOf, neqOf, eqCells, eqCell, vpick, vun, vconv, vconvK, vnilc, vfield, vfieldAt, vextract, fillParts, aggOf, vbuild, cvsOf, vmkf, vstore, vstoreAt, vstoreEl, putCells, putDs, vindex, vipAt, vindexOwn, vlen, vlenS, vlenT, elemTI, vappend, vappOwn, elemsOf, dOf, dsOf, gone, setParts, dzero, vbsl, vbuildSlice, vmakeSlice, vslice, vslice2, vsliceop, lowOf, intOfT, vbuiltin, vcallv, vcallc, fixc, vfold, vmin2, vmax2, List.length_cons, List.length_nil, Nat.reduceAdd, Nat.reduceMul, Nat.reduceSub, Nat.reduceLeDiff, Nat.reduceLT, Nat.reduceEqDiff, Nat.reduceDiv, Nat.reduceMod, reduceIte, List.getElem?_cons_zero, List.getElem?_cons_succ, Option.map_some, Option.map_none, Option.bind_some, Option.bind_none, List.map_cons, List.map_nil, List.size_toArray, Bool.false_eq_true, false_implies, true_implies, true_and, and_true, false_and, and_false, List.getElem?_toArray, List.cons_append, List.nil_append, List.append_nil, Option.isSome_some, Nat.add_zero, Nat.zero_add, List.drop_zero, List.drop_succ_cons, List.take_zero, List.take_succ_cons, List.replicate, Bool.not_true, Bool.not_false, ne_eq, not_true_eq_false, not_false_eq_true, List.contains_nil, List.mem_cons, List.not_mem_nil, or_false, false_or, reduceCtorEq, List.headD_cons, Nat.zero_mul, Int.toNat_natCast, decide_true, decide_false, implies_true, List.set_cons_zero, List.set_cons_succ, Int.cast_ofNat_Int, Int.reduceAdd, Int.reduceSub, Int.reduceMul, Int.reduceLT, Int.reduceLE, Int.reduceNeg, gt_iff_lt, ge_iff_le, Int.reduceEq, renT, renTs, renS, renR, renC, renCs, takenC, frzC, ownsC, flatTs, flatT, readC, VPost, VRet, resN, res1, consO, VRetO, resOf, okTv, Option.getD_some, isNil, vnilB, rho, keptP, own?, Nat.mul_one, List.length_map, List.getElem?_map, List.map_map, Function.comp_apply, List.contains_cons, Nat.reduceBEq, Bool.true_or, Bool.false_or, Bool.or_false]
    exact ⟨⟨by simpa using hby, by simpa using hk⟩, { r := [(0, 256)] }, rfl, ⟨⟨⟨rfl, rfl, rfl⟩, by simp⟩, trivial⟩, ⟨rfl, by simp⟩, rfl, rfl⟩
  cases es with
  | nil => exact vcalls_bd_nil (hnil rfl) (hemp rfl)
  | cons y r => exact hcons y r rfl
#print axioms clone_calls
end Go.Proofs.VL
