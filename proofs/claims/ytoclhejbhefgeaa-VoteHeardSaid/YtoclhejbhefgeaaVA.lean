/- The value level: values, stores, and the weakest precondition over values. Definitions alone. -/
import Derived.CallsIn
import Derived.OrdersIn
import Derived.Laws.AppendOwn
set_option linter.unusedVariables false
namespace Go.Proofs.VL
open Go

inductive D where
  | v (x : Value)
  | l (es : List (List D))
instance : Inhabited D := ⟨.l []⟩

inductive CV where
  | d (x : D)
  | nil
  | emp
  | bd (es : List (List D))
  | own (t n : Nat)
  | ptr (t off : Nat)
  | ep (t n off : Nat)
  | ip (cs : List D)
  | fn (f : Fn) (cap : List CV)
  | yld
instance : Inhabited CV := ⟨.nil⟩

inductive TV where
  | c (x : CV)
  | agg (cs : List CV)
  | tup (vs : List TV)
  | junk
instance : Inhabited TV := ⟨.junk⟩

inductive Row where
  | box (ty : TypeId) (cs : List CV)
  | sl (e k : Nat) (es : List (List D))

abbrev Store := List (Nat × Row)
def sget : Store → Nat → Option Row
  | [], _ => none
  | (a, r) :: s, t => if a = t then some r else sget s t
def sdel : Store → Nat → Store
  | [], _ => []
  | (a, r) :: s, t => if a = t then sdel s t else (a, r) :: sdel s t
def sput : Store → Nat → Row → Store
  | [], t, r' => [(t, r')]
  | (a, r) :: s, t, r' => if a = t then (t, r') :: sdel s t else (a, r) :: sput s t r'
/-- Updates: a row, or none where the token is gone. -/
abbrev Upd := List (Nat × Option Row)
def supd : Store → Upd → Store
  | s, [] => s
  | s, (t, some r) :: u => supd (sput s t r) u
  | s, (t, none) :: u => supd (sdel s t) u

structure Env where
  tm : List TV
  st : Store
  out : List (List D)
  nx : Nat

/-- What the value level wants to know of a type. -/
structure TI where
  size : Nat
  agg : Bool
  bytes : Nat
  zero : List CV := []
  fields : List (Nat × Nat × Bool) := []   -- of a struct: offset, size, aggregate
  elem : Nat := 0                            -- of a slice
  sl : Bool := false
  kind : Option IntKind := none
  cls : Nat := 0                              -- 1: bool, 2: string
  eqs : Option (List Nat) := none            -- of a flat struct that can be compared: its fields' classes

def geti : List TV → Nat → TV
  | [], _ => .junk
  | x :: _, 0 => x
  | _ :: s, n + 1 => geti s n
def seti : List TV → Nat → TV → List TV
  | [], _, _ => []
  | _ :: s, 0, y => y :: s
  | x :: s, n + 1, y => x :: seti s n y
def plain : Value → Bool
  | .bool _ | .int _ _ | .float _ _ | .complex _ _ _ | .string _ | .pointer none | .map none | .chan none | .nilFunc | .nilIface => true
  | _ => false
def constCV : Value → Option CV
  | .slice none 0 0 => some .nil
  | x => if plain x = true then some (.d (.v x)) else none
def constCVs : List Value → Option (List CV)
  | [] => some []
  | x :: r => match constCV x, constCVs r with
    | some y, some l => some (y :: l)
    | _, _ => none
def tvAgg : Option (List CV) → TV
  | some l => .agg l
  | none => .junk
def tvOne : Option CV → TV
  | some x => .c x
  | none => .junk
def constTV : Value → TV
  | .agg cs => tvAgg (constCVs cs.toList)
  | x => tvOne (constCV x)
def ev (tm : List TV) : Operand → TV
  | .tmp t => geti tm t
  | .const v => constTV v
  | .global _ => .junk
  | .func f => .c (.fn (.func f) [])
def sett (tm : List TV) (dst : Option Nat) (tv : TV) : List TV :=
  match dst with
  | some d => seti tm d tv
  | none => tm

abbrev int (n : Int) : TV := .c (.d (.v (.int .i64 n)))
abbrev boo (b : Bool) : TV := .c (.d (.v (.bool b)))
abbrev cint (n : Int) : CV := .d (.v (.int .i64 n))
abbrev dint (n : Int) : D := .v (.int .i64 n)

/-- Whole numbers and bools: what a binary operation makes of plain values. -/
def vbin : BinOp → Value → Value → Option Value
  | .add, .int k a, .int k' b => if k = k' then some (.int k (k.wrap (a + b))) else none
  | .sub, .int k a, .int k' b => if k = k' then some (.int k (k.wrap (a - b))) else none
  | .mul, .int k a, .int k' b => if k = k' then some (.int k (k.wrap (a * b))) else none
  | .quo, .int k a, .int k' b => if k = k' ∧ b ≠ 0 then some (.int k (k.wrap (a.tdiv b))) else none
  | .rem, .int k a, .int k' b => if k = k' ∧ b ≠ 0 then some (.int k (a.tmod b)) else none
  | .eql, .int k a, .int k' b => if k = k' then some (.bool (decide (a = b))) else none
  | .neq, .int k a, .int k' b => if k = k' then some (.bool (decide (a ≠ b))) else none
  | .lss, .int k a, .int k' b => if k = k' then some (.bool (decide (a < b))) else none
  | .leq, .int k a, .int k' b => if k = k' then some (.bool (decide (a ≤ b))) else none
  | .gtr, .int k a, .int k' b => if k = k' then some (.bool (decide (a > b))) else none
  | .geq, .int k a, .int k' b => if k = k' then some (.bool (decide (a ≥ b))) else none
  | .eql, .string a, .string b => some (.bool (decide (a = b)))
  | .neq, .string a, .string b => some (.bool (decide (a ≠ b)))
  | .lss, .string a, .string b => some (.bool (Op.bytesLess a.toList b.toList))
  | .gtr, .string a, .string b => some (.bool (!(Op.bytesLess a.toList b.toList || decide (a = b))))
  | .leq, .string a, .string b => some (.bool (Op.bytesLess a.toList b.toList || decide (a = b)))
  | .geq, .string a, .string b => some (.bool (!Op.bytesLess a.toList b.toList))
  | _, _, _ => none
/-- Two cells of a class alike. -/
def eqCell : Nat → CV → CV → Option Bool
  | 0, .d (.v (.int k a)), .d (.v (.int k' b)) => if k = k' then some (decide (a = b)) else none
  | 1, .d (.v (.bool a)), .d (.v (.bool b)) => some (decide (a = b))
  | 2, .d (.v (.string a)), .d (.v (.string b)) => some (decide (a = b))
  | _, _, _ => none
def eqCells : List Nat → List CV → List CV → Option Bool
  | [], [], [] => some true
  | c :: cs, x :: xs, y :: ys => match eqCell c x y, eqCells cs xs ys with
    | some a, some b => some (a && b)
    | _, _ => none
  | _, _, _ => none
def vmin2 : Value → Value → Option Value
  | .int k a, .int k' b => if k = k' then some (.int k (if b < a then b else a)) else none
  | _, _ => none
def vmax2 : Value → Value → Option Value
  | .int k a, .int k' b => if k = k' then some (.int k (if b > a then b else a)) else none
  | _, _ => none
def plainOf : TV → Option Value
  | .c (.d (.v x)) => some x
  | _ => none
def tvOf : Option Value → Option TV
  | some x => some (.c (.d (.v x)))
  | none => none
def vfold (f : Value → Value → Option Value) : List TV → Option TV
  | [] => none
  | [x] => some x
  | x :: y :: r => match plainOf x, plainOf y with
    | some a, some b => match f a b with
      | some c => vfold f (.c (.d (.v c)) :: r)
      | none => none
    | _, _ => none
  termination_by l => l.length
def cellsOf : TV → Option (List CV)
  | .c x => some [x]
  | .agg cs => some cs
  | _ => none
/-- Cells at an offset, as a value. -/
def pAt (i : TI) (cs : List CV) (off : Nat) : Option TV :=
  if i.agg then some (.agg ((cs.drop off).take i.size)) else match cs[off]? with
    | some x => some (.c x)
    | none => none
def putCells : List CV → Nat → List CV → List CV
  | cs, _, [] => cs
  | cs, off, x :: r => putCells (cs.set off x) (off + 1) r
def putDs : List D → Nat → List D → List D
  | cs, _, [] => cs
  | cs, off, x :: r => putDs (cs.set off x) (off + 1) r

/-! ### How values stand in memory -/
inductive Rd (w : World) (S : Nat → Prop) : D → Value → Prop
  | v {x : Value} : plain x = true → Rd w S (.v x) x
  | e {A : Option Addr} {c : Nat} : (A = none → c = 0) → Rd w S (.l []) (.slice A 0 c)
  | l {es : List (List D)} {ad : Addr} {c : Nat} {u : Nat → Value} : ad.spot = none → S ad.block → es.length ≤ c → c ≤ 9223372036854775807 →
      (∀ (j : Nat) (x : D), es.flatten[j]? = some x → w.cell? (ad.add j) = some (u j)) → (∀ (j : Nat) (x : D), es.flatten[j]? = some x → Rd w S x (u j)) →
      Rd w S (.l es) (.slice (some ad) es.length c)

/-- Cells from an address on. -/
def RdAt (w : World) (S : Nat → Prop) (ad : Addr) (cs : List D) : Prop := ∀ (j : Nat) (x : D), cs[j]? = some x → ∃ u, w.cell? (ad.add j) = some u ∧ Rd w S x u

/-- What is fixed while a function runs: which blocks may be its own, what stands around it, which data it was handed and which it borrows. -/
structure Ctx where
  My : Nat → Prop
  Fr : List (List D) → World → Prop
  S0 : Nat → Prop
  Bw : Nat → Prop
  yl : Value
  Dp : List Deferred → Prop

abbrev Hist := Nat → Nat → Option Value

inductive CVR (C : Ctx) (w : World) (S : Nat → Prop) (ι : Hist) : CV → Value → Prop
  | d {x v} : Rd w S x v → CVR C w S ι (.d x) v
  | nil : CVR C w S ι .nil (.slice none 0 0)
  | emp {ad c} : CVR C w S ι .emp (.slice (some ad) 0 c)
  | bde {A c} : (A = none → c = 0) → CVR C w S ι (.bd []) (.slice A 0 c)
  | bd {es : List (List D)} {ad : Addr} {c : Nat} : ad.spot = none → (S ad.block ∨ C.Bw ad.block) → es.length ≤ c → c ≤ 9223372036854775807 → RdAt w S ad es.flatten → CVR C w S ι (.bd es) (.slice (some ad) es.length c)
  | own {t n A c} : ι t n = some (.slice A n c) → CVR C w S ι (.own t n) (.slice A n c)
  | ptr {t off g} : ι t 0 = some (.pointer (some ⟨g, 0, none⟩)) → CVR C w S ι (.ptr t off) (.pointer (some ⟨g, off, none⟩))
  | ep {t n off g c} : ι t n = some (.slice (some ⟨g, 0, none⟩) n c) → CVR C w S ι (.ep t n off) (.pointer (some ⟨g, off, none⟩))
  | ip {cs : List D} {ad : Addr} : ad.spot = none → (S ad.block ∨ C.Bw ad.block) → RdAt w S ad cs → CVR C w S ι (.ip cs) (.pointer (some ad))
  | fn {f : Fn} {cap : List CV} {vs : Array Value} : vs.size = cap.length → (∀ (i : Nat) (x : CV), cap[i]? = some x → CVR C w S ι x (vs.getD i undef)) → CVR C w S ι (.fn f cap) (.func f #[] vs)
  | yld {l} : C.yl = .func (.yield l) #[] #[] → CVR C w S ι .yld (.func (.yield l) #[] #[])

inductive TVR (C : Ctx) (w : World) (S : Nat → Prop) (ι : Hist) : TV → Value → Prop
  | c {x v} : CVR C w S ι x v → TVR C w S ι (.c x) v
  | agg {cs : List CV} {vs : Array Value} : vs.size = cs.length → (∀ (i : Nat) (x : CV), cs[i]? = some x → CVR C w S ι x (vs.getD i undef)) → TVR C w S ι (.agg cs) (.agg vs)
  | tup {ts : List TV} {vs : Array Value} : vs.size = ts.length → (∀ (i : Nat) (x : TV), ts[i]? = some x → TVR C w S ι x (vs.getD i undef)) → TVR C w S ι (.tup ts) (.tuple vs)
  | junk {v} : TVR C w S ι .junk v

inductive RowR (C : Ctx) (w : World) (S : Nat → Prop) (ι : Hist) (t : Nat) : Row → Prop
  | box {ty : TypeId} {cs : List CV} {g : Nat} {vs : Array Value} : ι t 0 = some (.pointer (some ⟨g, 0, none⟩)) → w.heap[g]? = some (.cells vs ty (0, 0)) → vs.size = cs.length →
      (∀ (i : Nat) (x : CV), cs[i]? = some x → CVR C w S ι x (vs.getD i undef)) → RowR C w S ι t (.box ty cs)
  | sl {e k : Nat} {es : List (List D)} {v : Value} {xs : List Value} : ι t es.length = some v → w.ownsRow 0 e k v es.length xs → (∀ x ∈ es, x.length = k) →
      (∀ (j : Nat) (x : D), es.flatten[j]? = some x → ∃ u : Value, xs[j]? = some u ∧ Rd w S x u) → (∀ n : Nat, ι t n ≠ none → n ≤ es.length) → RowR C w S ι t (.sl e k es)

def blkOf : Value → Option Nat
  | .pointer (some a) => some a.block
  | .slice (some a) _ _ => some a.block
  | _ => none
/-- The block in which a token's row lies now. -/
def curBlk (ι : Hist) (t : Nat) : Row → Option Nat
  | .box _ _ => (ι t 0).bind blkOf
  | .sl _ _ es => (ι t es.length).bind blkOf

/-- From one world to the next only blocks of 'My' have turned. -/
structure Ext (My : Nat → Prop) (w w' : World) : Prop where
  os : w'.os = w.os
  tape : w'.tape = w.tape
  output : w'.output = w.output
  size : w.heap.size ≤ w'.heap.size
  block : ∀ b, b < w.heap.size → ¬ My b → w'.heap[b]? = w.heap[b]?

structure Ctx.Ok (C : Ctx) (w : World) : Prop where
  stab : ∀ out w w', C.Fr out w → Ext C.My w w' → C.Fr out w'
  fresh : ∀ b, w.heap.size ≤ b → C.My b

structure StI (C : Ctx) (st : Store) (nx : Nat) (out : List (List D)) (w : World) (ι : Hist) (S : Nat → Prop) : Prop where
  fr : C.Fr out w
  row : ∀ t r, sget st t = some r → RowR C w S ι t r
  sep : ∀ t t' r r' b, sget st t = some r → sget st t' = some r' → curBlk ι t r = some b → curBlk ι t' r' = some b → t = t'
  mine : ∀ t r b, sget st t = some r → curBlk ι t r = some b → C.My b ∧ ¬ S b ∧ ¬ C.Bw b
  dat : ∀ b, S b → b < w.heap.size ∧ (C.S0 b ∨ C.My b)
  s0 : ∀ b, C.S0 b → S b
  bw : ∀ b, C.Bw b → b < w.heap.size
  nx : ∀ t n v, ι t n = some v → t < nx
  my : ∀ b, w.heap.size ≤ b → C.My b

/-- The frame's slots. -/
def TmR (C : Ctx) (w : World) (S : Nat → Prop) (ι : Hist) (tm : List TV) (vs : Array Value) : Prop :=
  vs.size = tm.length ∧ ∀ (i : Nat) (x : TV), tm[i]? = some x → TVR C w S ι x (vs.getD i undef)

def St (C : Ctx) (E : Env) (a : Act) (w : World) : Prop :=
  ∃ ι S, StI C E.st E.nx E.out w ι S ∧ TmR C w S ι E.tm a.tmps ∧ C.Dp a.defers

/-- A CONTRACT AT VALUE LEVEL: called at arguments that stand for 'args', with rows 'st' of which it may do what it likes, a function gives 'res', with rows 'rst'. -/
def Enters (P : Program) (f : FuncId) : Prop := ∃ fn c, P.funcs[f]? = some fn ∧ (fn.name == "runtime.NumGoroutine") = false ∧ fn.body = some c
def VCalls (P : Program) (f : FuncId) (args : List TV) (st : Store) (res : TV) (rst : Store) : Prop :=
  Enters P f ∧ ∀ (w : World) (S Bw : Nat → Prop) (ι : Hist) (nx : Nat) (vs : Array Value),
    let C : Ctx := { My := fun b => w.heap.size ≤ b ∨ ∃ t r, sget st t = some r ∧ curBlk ι t r = some b, Fr := fun _ _ => True, S0 := S, Bw := Bw, yl := undef, Dp := fun _ => True }
    StI C st nx [] w ι S → TmR C w S ι args vs →
    Calls P f vs w fun e w' => ∃ v ι' S', e = .returned v ∧ Ext C.My w w' ∧
      StI { C with Bw := fun _ => False } rst 64 [] w' ι' S' ∧ TVR { C with Bw := fun _ => False } w' S' ι' res v ∧
      ∀ t n v, sget st t ≠ none → sget rst t ≠ none → ι t n = some v → ι' t n = some v

/-! ### One operation -/
inductive OpRes where
  | bad
  | ok (tv : TV) (u : Upd) (reads : List Nat)
  | need (p : Prop) (tv : TV) (u : Upd) (reads : List Nat)
  | call (f : FuncId) (args : List TV)
  | yld (args : List TV)

def okOf : Option TV → OpRes
  | some tv => .ok tv [] []
  | none => .bad

/-- Data out of one cell; what of our own becomes data with it. -/
def dOf (st : Store) : CV → Option (D × List Nat)
  | .d x => some (x, [])
  | .nil => some (.l [], [])
  | .emp => some (.l [], [])
  | .own t n => match sget st t with
    | some (.sl _ _ es) => if es.length = n then some (.l es, [t]) else none
    | _ => none
  | _ => none
def dsOf (st : Store) : List CV → Option (List D × List Nat)
  | [] => some ([], [])
  | x :: r => match dOf st x, dsOf st r with
    | some (y, a), some (ys, b) => some (y :: ys, a ++ b)
    | _, _ => none
def gone (l : List Nat) : Upd := l.map fun t => (t, none)

/-- What is appended, as elements. -/
def elemsOf (st : Store) : TV → Option (List (List D) × List Nat)
  | .c (.d (.l es)) => some (es, [])
  | .c .nil => some ([], [])
  | .c .emp => some ([], [])
  | .c (.bd es) => some (es, [])
  | .c (.own t n) => match sget st t with
    | some (.sl _ _ es) => if es.length = n then some (es, [t]) else none
    | _ => none
  | _ => none

def vpick : TV → TV → TV → Option TV
  | .c (.d (.v (.bool t))), a, b => some (if t then a else b)
  | _, _, _ => none
def neqOf : Option Bool → Option TV
  | some b => some (boo (!b))
  | none => none
def eqlOf : Option Bool → Option TV
  | some b => some (boo b)
  | none => none
def vbool (op : BinOp) (a b : Bool) : Nat → Option TV
  | 1 => match op with
    | .eql => some (boo (a == b))
    | .neq => some (boo (a != b))
    | _ => none
  | _ => none
def vstruct (op : BinOp) (xs ys : List CV) : Option (List Nat) → Option TV
  | some cs => match op with
    | .eql => eqlOf (eqCells cs xs ys)
    | .neq => neqOf (eqCells cs xs ys)
    | _ => none
  | none => none
/-- Is a slice nil? -/
def isNil : CV → Option Bool
  | .nil => some true
  | .emp => some false
  | .bd (_ :: _) => some false
  | .d (.l (_ :: _)) => some false
  | _ => none
def vnilB (op : BinOp) : Option Bool → Option TV
  | some b => match op with
    | .eql => some (boo b)
    | .neq => some (boo (!b))
    | _ => none
  | none => none
def vbinT (op : BinOp) : Option TI → TV → TV → Option TV
  | some i, .c (.d (.v (.bool a))), .c (.d (.v (.bool b))) => vbool op a b i.cls
  | _, .c (.d (.v a)), .c (.d (.v b)) => tvOf (vbin op a b)
  | some i, .agg xs, .agg ys => vstruct op xs ys i.eqs
  | some i, .c x, .c .nil => if i.sl = true then vnilB op (isNil x) else none
  | _, _, _ => none
def vun : UnOp → TV → Option TV
  | .not, .c (.d (.v (.bool t))) => some (boo (!t))
  | .neg, .c (.d (.v (.int k n))) => some (.c (.d (.v (.int k (k.wrap (0 - n))))))
  | _, _ => none
def vconvK : Option IntKind → Int → Option TV
  | some k, n => some (.c (.d (.v (.int k (k.wrap n)))))
  | none, _ => none
def vconv : Option TI → TV → Option TV
  | some i, .c (.d (.v (.int _ n))) => vconvK i.kind n
  | _, _ => none
def vnilc : TV → Option TV
  | .c (.ptr t o) => some (.c (.ptr t o))
  | .c (.ep t n o) => some (.c (.ep t n o))
  | .c (.ip cs) => some (.c (.ip cs))
  | _ => none
def vfaddrAt : Option (Nat × Nat × Bool) → CV → Option TV
  | some (off, _, _), .ptr t o => some (.c (.ptr t (o + off)))
  | some (off, _, _), .ep t n o => some (.c (.ep t n (o + off)))
  | some (off, _, _), .ip cs => some (.c (.ip (cs.drop off)))
  | _, _ => none
def vfaddr : Option TI → TV → Nat → Option TV
  | some i, .c x, f => vfaddrAt (i.fields[f]?) x
  | _, _, _ => none
def vfieldAt : Option (Nat × Nat × Bool) → List CV → Option TV
  | some (off, sz, ag), cs => pAt { size := sz, agg := ag, bytes := 0 } cs off
  | none, _ => none
def vfield : Option TI → TV → Nat → Option TV
  | some i, .agg cs, f => vfieldAt (i.fields[f]?) cs
  | _, _, _ => none
def vextract : TV → Nat → Option TV
  | .tup l, n => l[n]?
  | _, _ => none
def fillParts (fs : List (Nat × Nat × Bool)) : List CV → List (Nat × TV) → Option (List CV)
  | cs, [] => some cs
  | cs, (j, x) :: r => match fs[j]?, cellsOf x with
    | some (off, sz, _), some xs => if xs.length = sz then fillParts fs (putCells cs off xs) r else none
    | _, _ => none
def aggOf : Option (List CV) → Option TV
  | some l => some (.agg l)
  | none => none
def vbuild : Option TI → List (Nat × TV) → Option TV
  | some i, parts => if i.agg = true then aggOf (fillParts i.fields i.zero parts) else none
  | none, _ => none
def cvsOf : List TV → Option (List CV)
  | [] => some []
  | .c x :: r => match cvsOf r with
    | some l => some (x :: l)
    | none => none
  | _ => none
def vmkf (f : Fn) : List Operand → List TV → Option TV
  | [], cap => match cvsOf cap with
    | some l => some (.c (.fn f l))
    | none => none
  | _, _ => none
def vpure (tt : TypeId → Option TI) (tm : List TV) : Op → Option TV
  | .move x => some (ev tm x)
  | .assign x => some (ev tm x)
  | .pick c a b => vpick (ev tm c) (ev tm a) (ev tm b)
  | .binOp op T x y _ => vbinT op (tt T) (ev tm x) (ev tm y)
  | .unOp op _ x => vun op (ev tm x)
  | .convert src dst x => if (tt src).isSome = true then vconv (tt dst) (ev tm x) else none
  | .nilCheck x => vnilc (ev tm x)
  | .fieldAddr s x f => vfaddr (tt s) (ev tm x) f
  | .field s x f => vfield (tt s) (ev tm x) f
  | .extract x n => vextract (ev tm x) n
  | .build t parts => vbuild (tt t) (parts.toList.map fun p => (p.1, ev tm p.2))
  | .makeFunc f first cap => vmkf f first.toList (cap.toList.map (ev tm))
  | _ => none

def vloadAt (i : TI) (t off : Nat) : Option Row → OpRes
  | some (.box _ cs) => if off + i.size ≤ cs.length then (match pAt i cs off with
    | some tv => .ok tv [] [t]
    | none => .bad) else .bad
  | _ => .bad
def vloadEl (i : TI) (t n off : Nat) : Option Row → OpRes
  | some (.sl _ k es) => match pAt i (es.flatten.map CV.d) off with
    | some tv => .need (es.length = n ∧ off + i.size ≤ n * k) tv [] [t]
    | none => .bad
  | _ => .bad
def vload (st : Store) : Option TI → TV → OpRes
  | some i, .c (.ptr t off) => vloadAt i t off (sget st t)
  | some i, .c (.ep t n off) => vloadEl i t n off (sget st t)
  | some i, .c (.ip cs) => match pAt i (cs.map CV.d) 0 with
    | some tv => .need (i.size ≤ cs.length) tv [] []
    | none => .bad
  | _, _ => .bad

/-- A cell of a row of elements is written. -/
def setElem (k : Nat) (es : List (List D)) (off : Nat) (xs : List D) : List (List D) := es.modify (off / k) fun e => putDs e (off % k) xs

def vstoreAt (i : TI) (t off : Nat) (xs : List CV) : Option Row → OpRes
  | some (.box T cs) => if xs.length = i.size ∧ off + i.size ≤ cs.length then .ok (.tup []) [(t, some (.box T (putCells cs off xs)))] [t] else .bad
  | _ => .bad
def vstoreEl (i : TI) (t n off : Nat) (m : Nat) : Option (List D × List Nat) → Option Row → OpRes
  | some (ys, g), some (.sl e k es) => .need (es.length = n ∧ m = i.size ∧ off % k + i.size ≤ k ∧ off / k < es.length ∧ t ∉ g) (.tup []) (gone g ++ [(t, some (.sl e k (setElem k es off ys)))]) (t :: g)
  | _, _ => .bad
def vstore (st : Store) : Option TI → TV → Option (List CV) → OpRes
  | some i, .c (.ptr t off), some xs => vstoreAt i t off xs (sget st t)
  | some i, .c (.ep t n off), some xs => vstoreEl i t n off xs.length (dsOf st xs) (sget st t)
  | _, _, _ => .bad

def vipAt (j : TI) (es : List (List D)) (n : Int) : OpRes :=
  .need (0 ≤ n ∧ n.toNat < es.length ∧ ∀ e ∈ es, e.length = j.size) (.c (.ip (es.flatten.drop (n.toNat * j.size)))) [] []
def vindexOwn (j : TI) (t m : Nat) (n : Int) : Option Row → OpRes
  | some (.sl _ _ es) => .need (0 ≤ n ∧ n.toNat < m ∧ es.length = m) (.c (.ep t m (n.toNat * j.size))) [] [t]
  | _ => .bad
def vindex (st : Store) : Option TI → TV → Option Value → OpRes
  | some j, .c (.d (.l es)), some (.int _ n) => vipAt j es n
  | some j, .c (.bd es), some (.int _ n) => vipAt j es n
  | some j, .c (.own t m), some (.int _ n) => vindexOwn j t m n (sget st t)
  | _, _, _ => .bad

def vlenS : TV → Option TV
  | .c (.d (.l es)) => some (int es.length)
  | .c .nil => some (int 0)
  | .c .emp => some (int 0)
  | .c (.bd es) => some (int es.length)
  | .c (.own _ n) => some (int n)
  | _ => none
def vlenT : TV → Option TV
  | .c (.d (.v (.string s))) => some (int s.size)
  | _ => none
def vlen : Option TI → TV → Option TV
  | some i, x => if i.sl = true then vlenS x else if i.cls = 2 then vlenT x else none
  | none, _ => none

def vappOwn (e : Nat) (ei : TI) (t n : Nat) (xs : List (List D)) (g : List Nat) : Option Row → OpRes
  | some (.sl e' k es) => .need (es.length = n ∧ k = ei.size ∧ e' = e ∧ t ∉ g ∧ (n + xs.length) * ei.bytes ≤ 140737488355328 ∧ ∀ x ∈ xs, x.length = ei.size)
          (.c (.own t (n + xs.length))) [(t, some (.sl e' k (es ++ xs)))] (t :: g)
  | _ => .bad
def vappend (st : Store) (tk : Nat) (e : Nat) : Option TI → TV → Option (List (List D) × List Nat) → OpRes
  | some ei, .c .nil, some (xs, g) => .need (xs.length * ei.bytes ≤ 140737488355328 ∧ ∀ x ∈ xs, x.length = ei.size) (.c (.own tk xs.length)) [(tk, some (.sl e ei.size xs))] g
  | some ei, .c (.own t n), some (xs, g) => vappOwn e ei t n xs g (sget st t)
  | _, _, _ => .bad

def intOfT : Option TV → Option Int
  | some (.c (.d (.v (.int _ n)))) => some n
  | _ => none
def vslice2 (k : Nat) (es : List (List D)) (mk : List (List D) → CV) : Int → Option TV → OpRes
  | a, none => .need (0 ≤ a ∧ a ≤ es.length ∧ ∀ e ∈ es, e.length = k) (.c (mk (es.drop a.toNat))) [] []
  | a, some (.c (.d (.v (.int _ b)))) => .need (0 ≤ a ∧ a ≤ b ∧ b ≤ es.length ∧ ∀ e ∈ es, e.length = k) (.c (mk ((es.take b.toNat).drop a.toNat))) [] []
  | _, _ => .bad
def lowOf : Option TV → Option Int
  | none => some 0
  | x => intOfT x
def vslice : Option (Nat × TI) → TV → Option Int → Option TV → OpRes
  | some (_, j), .c (.d (.l es)), some a, hi => vslice2 j.size es (fun x => .d (.l x)) a hi
  | some (_, j), .c (.bd es), some a, hi => vslice2 j.size es .bd a hi
  | _, _, _, _ => .bad

def setParts (st : Store) (k : Nat) : List (List D) → List (Nat × TV) → Option (List (List D) × List Nat)
  | es, [] => some (es, [])
  | es, (i, x) :: r => match (cellsOf x).bind (dsOf st) with
    | some (ys, g) => if ys.length = k ∧ i < es.length then (match setParts st k (es.set i ys) r with
      | some (zs, h) => some (zs, g ++ h)
      | none => none) else none
    | none => none

def dzero (l : List CV) : List D := l.map fun
  | .d x => x
  | _ => .l []

def valloc (tk T : Nat) : Option TI → OpRes
  | some j => .ok (.c (.ptr tk 0)) [(tk, some (.box T j.zero))] []
  | none => .bad
def vbox (tk T : Nat) : Option TI → Option (List CV) → OpRes
  | some j, some cs => if cs.length = j.size then .ok (.c (.ptr tk 0)) [(tk, some (.box T cs))] [] else .bad
  | _, _ => .bad
def vbsl (tk e n : Nat) (j : TI) : Option (List (List D) × List Nat) → OpRes
  | some (es, g) => .need (n * j.size ≤ 16777216) (.c (.own tk n)) (gone g ++ [(tk, some (.sl e j.size es))]) g
  | none => .bad
def elemTI (tt : TypeId → Option TI) (T : TypeId) : Option (Nat × TI) :=
  match tt T with
  | some j => if j.sl then (match tt j.elem with
    | some k => some (j.elem, k)
    | none => none) else none
  | none => none
def vbuildSlice (st : Store) (tk n : Nat) (parts : List (Nat × TV)) : Option (Nat × TI) → OpRes
  | some (e, j) => vbsl tk e n j (setParts st j.size (List.replicate n (dzero j.zero)) parts)
  | none => .bad
def vmakeSlice (tk : Nat) : Option (Nat × TI) → Option Value → Option Value → OpRes
  | some (e, j), some (.int _ m), some (.int _ c) => .need (0 ≤ m ∧ c = m ∧ m ≤ 9223372036854775807 ∧ m * j.bytes ≤ 140737488355328) (.c (.own tk m.toNat)) [(tk, some (.sl e j.size (List.replicate m.toNat (dzero j.zero))))] []
  | _, _, _ => .bad

def vbuiltin (tt : TypeId → Option TI) (st : Store) (tk : Nat) (ats : List TypeId) : Builtin → List TV → OpRes
  | .len, [x] => match ats with
    | [T] => okOf (vlen (tt T) x)
    | _ => .bad
  | .min, l => okOf (vfold vmin2 l)
  | .max, l => okOf (vfold vmax2 l)
  | .append, [s, x] => match ats with
    | [T, T'] => if T = T' then (match elemTI tt T with
      | some (e, j) => vappend st tk e (some j) s (elemsOf st x)
      | none => .bad) else .bad
    | _ => .bad
  | _, _ => .bad
def vcallv (l : List TV) : TV → OpRes
  | .c (.fn (.func g) cap) => .call g (l ++ cap.map TV.c)
  | .c .yld => .yld l
  | _ => .bad
def vcallc (tt : TypeId → Option TI) (tm : List TV) (st : Store) (tk : Nat) (args : List TV) (ats : List TypeId) : Callee → OpRes
  | .builtin b => vbuiltin tt st tk ats b args
  | .value f => vcallv args (ev tm f)
  | .invoke _ _ => .bad
def vsliceop (j : Option (Nat × TI)) (x : TV) (lo hi : Option TV) : Option Operand → OpRes
  | none => vslice j x (lowOf lo) hi
  | some _ => .bad

def vstep (tt : TypeId → Option TI) (tm : List TV) (st : Store) (tk : Nat) : Op → OpRes
  | .alloc T => valloc tk T (tt T)
  | .box T x => vbox tk T (tt T) (cellsOf (ev tm x))
  | .buildSlice T n parts => vbuildSlice st tk n (parts.toList.map fun p => (p.1, ev tm p.2)) (elemTI tt T)
  | .makeSlice T n c => vmakeSlice tk (elemTI tt T) (plainOf (ev tm n)) (plainOf (ev tm c))
  | .load T a => vload st (tt T) (ev tm a)
  | .store T a x => vstore st (tt T) (ev tm a) (cellsOf (ev tm x))
  | .indexAddr T x j => vindex st ((elemTI tt T).map (·.2)) (ev tm x) (plainOf (ev tm j))
  | .slice T x lo hi mx => vsliceop (elemTI tt T) (ev tm x) (lo.map (ev tm)) (hi.map (ev tm)) mx
  | .call c => vcallc tt tm st tk (c.args.toList.map (ev tm)) c.argTypes.toList c.callee
  | .move x => .ok (ev tm x) [] []
  | .assign x => .ok (ev tm x) [] []
  | op => okOf (vpure tt tm op)

/-- How an argument is handed over: what the caller has, what the contract has. -/
def rowEs : Option Row → Nat → List (List D) → Prop
  | some (.sl _ _ es), n, es' => es = es' ∧ es.length = n
  | _, _, _ => False
def rowN : Option Row → Nat → Prop
  | some (.sl _ _ es), n => es.length = n
  | _, _ => False
def passC (st : Store) : CV → CV → Prop
  | .own t n, y => (match y with
    | .bd es => rowEs (sget st t) n es
    | .d (.l es) => rowEs (sget st t) n es
    | .own _ n' => n = n' ∧ rowN (sget st t) n
    | _ => False)
  | .d (.l es), .bd es' => es = es'
  | .d x, .d y => x = y
  | .nil, .d y => y = .l []
  | .nil, .nil => True
  | .nil, .bd es => es = []
  | .emp, .d y => y = .l []
  | .emp, .emp => True
  | .emp, .bd es => es = []
  | .bd es, .bd es' => es = es'
  | .ip cs, .ip cs' => cs = cs'
  | .fn f [], .fn g [] => f = g
  | _, _ => False
def passCs (st : Store) : List CV → List CV → Prop
  | [], [] => True
  | x :: r, y :: s => passC st x y ∧ passCs st r s
  | _, _ => False
def passT (st : Store) : TV → TV → Prop
  | .c x, .c y => passC st x y
  | .agg l, .agg m => passCs st l m
  | _, _ => False
def passTs (st : Store) : List TV → List TV → Prop
  | [], [] => True
  | x :: r, y :: s => passT st x y ∧ passTs st r s
  | _, _ => False
def flatT : TV → List CV
  | .c x => [x]
  | .agg l => l
  | _ => []
def flatTs : List TV → List CV
  | [] => []
  | x :: r => flatT x ++ flatTs r
/-- Own rows that go over as own: the caller's token, the contract's. -/
def ownsC : List CV → List CV → List (Nat × Nat)
  | .own t _ :: r, .own t' _ :: s => (t, t') :: ownsC r s
  | _ :: r, _ :: s => ownsC r s
  | _, _ => []
/-- Own rows that become data. -/
def frzC : List CV → List CV → List Nat
  | .own t _ :: r, .d _ :: s => t :: frzC r s
  | _ :: r, _ :: s => frzC r s
  | _, _ => []
/-- Own rows that are lent. -/
def lentC : List CV → List CV → List Nat
  | .own t _ :: r, .bd _ :: s => t :: lentC r s
  | _ :: r, _ :: s => lentC r s
  | _, _ => []
def readC : List CV → List Nat
  | .own t _ :: r => t :: readC r
  | _ :: r => readC r
  | [] => []
def nodupB : List Nat → Bool
  | [] => true
  | x :: r => !r.contains x && nodupB r
def disB (args cargs : List CV) : Bool :=
  nodupB ((ownsC args cargs).map (·.1)) && nodupB ((ownsC args cargs).map (·.2)) && (frzC args cargs ++ lentC args cargs).all fun t => !((ownsC args cargs).map (·.1)).contains t
def cstOf (st : Store) : List (Nat × Nat) → Store
  | [] => []
  | (t, t') :: r => match sget st t with
    | some row => (t', row) :: cstOf st r
    | none => cstOf st r
def takenC (args cargs : List CV) : List Nat := frzC args cargs ++ (ownsC args cargs).map (·.1)
def own? : List (Nat × Nat) → Nat → Option Nat
  | [], _ => none
  | (t, t') :: r, x => if t' = x then some t else own? r x
/-- Own rows that come back under their names. -/
def keptP (owns : List (Nat × Nat)) (rst : List Nat) : List (Nat × Nat) := match owns with
  | [] => []
  | p :: r => if rst.contains p.2 = true then p :: keptP r rst else keptP r rst
/-- The caller's name of a token of the contract's. -/
def rho (kept : List (Nat × Nat)) (tk t : Nat) : Nat := match own? kept t with
  | some t0 => t0
  | none => tk + t
mutual
def renC (ρ : Nat → Nat) : CV → CV
  | .own t n => .own (ρ t) n
  | .ptr t o => .ptr (ρ t) o
  | .ep t n o => .ep (ρ t) n o
  | .fn f cap => .fn f (renCs ρ cap)
  | .d x => .d x
  | .nil => .nil
  | .emp => .emp
  | .bd es => .bd es
  | .ip cs => .ip cs
  | .yld => .yld
def renCs (ρ : Nat → Nat) : List CV → List CV
  | [] => []
  | x :: r => renC ρ x :: renCs ρ r
end
mutual
def renT (ρ : Nat → Nat) : TV → TV
  | .c x => .c (renC ρ x)
  | .agg l => .agg (renCs ρ l)
  | .tup l => .tup (renTs ρ l)
  | .junk => .junk
def renTs (ρ : Nat → Nat) : List TV → List TV
  | [] => []
  | x :: r => renT ρ x :: renTs ρ r
end
def renR (ρ : Nat → Nat) : Row → Row
  | .box ty cs => .box ty (renCs ρ cs)
  | .sl e k es => .sl e k es
def renS (ρ : Nat → Nat) : Store → Upd
  | [] => []
  | (t, r) :: s => (ρ t, some (renR ρ r)) :: renS ρ s

/-! ### A region, in the order of its text -/
def wantBool : TV → Option Bool
  | .c (.d (.v (.bool b))) => some b
  | _ => none

/-- What a guard's slot says: a bool, or that the guard itself was not carried out. -/
def guardOf : TV → Option (Option Bool)
  | .c (.d (.v (.bool b))) => some (some b)
  | .tup [] => some none
  | _ => none

variable (P : Program) (tt : TypeId → Option TI)

def opTmps (op : Op) : List Nat := op.operands.toList.filterMap fun
  | .tmp t => some t
  | _ => none

/-- The guard's slot. -/
def gslot (full : Array Oper) (g : Option (Nat × Bool)) : Option (Nat × Bool) :=
  match g with
  | none => none
  | some (j, w) => match (full[j]?).bind (·.dst) with
    | some d => some (d, w)
    | none => none

/-! Which operations have to stand in an order: what each writes and reads. -/
def gtmp (full : Array Oper) (o : Oper) : List Nat := match gslot full o.guard with
  | some (d, _) => [d]
  | none => []
def looks (full : Array Oper) (o : Oper) : List Nat := gtmp full o ++ opTmps o.op
def hits (a b : List Nat) : Bool := a.any fun x => b.contains x
/-- 'o' and 'o'' may stand either way. -/
def freeB (full : Array Oper) (o o' : Oper) (k k' : List Nat × List Nat) : Bool :=
  !hits o.dst.toList (o'.dst.toList ++ looks full o') && !hits o'.dst.toList (looks full o) && !hits k.1 (k'.1 ++ k'.2) && !hits k'.1 k.2
/-- Edges that bind whatever the order. -/
def binds (e : Edge) : Bool := Region.binds .any e
/-- 'k' comes after 'j' in every order. -/
def afterB (full : Array Oper) (j : Nat) : Nat → Nat → Bool
  | 0, _ => false
  | fuel + 1, k => match full[k]? with
    | none => false
    | some o => o.after.any fun e => binds e && (e.on == j || (decide (j < e.on) && afterB full j fuel e.on))
def pairsB (full : Array Oper) (acc : Array (List Nat × List Nat)) (n : Nat) : Bool :=
  (List.range n).all fun k => match full[k]?, acc[k]? with
    | some o', some kk => (o'.after.all fun e => !binds e || decide (e.on < k)) && (List.range k).all fun j => match full[j]?, acc[j]? with
      | some o, some jj => freeB full o o' jj kk || afterB full j n k
      | _, _ => false
    | _, _ => false
def drawOk (full : Array Oper) (acc : List (List Nat × List Nat)) : Bool := pairsB full acc.toArray full.size

def CallOk (st : Store) (f : FuncId) (args : List TV) (tk : Nat) (tv : TV) (u : Upd) (r : List Nat) : Prop :=
  ∃ cargs cst res rst, VCalls P f cargs cst res rst ∧ passTs st args cargs ∧ cst = cstOf st (ownsC (flatTs args) (flatTs cargs)) ∧ disB (flatTs args) (flatTs cargs) = true ∧ nodupB (rst.map (·.1)) = true ∧
    tv = renT (rho (keptP (ownsC (flatTs args) (flatTs cargs)) (rst.map (·.1))) tk) res ∧
    u = gone (takenC (flatTs args) (flatTs cargs)) ++ renS (rho (keptP (ownsC (flatTs args) (flatTs cargs)) (rst.map (·.1))) tk) rst ∧ r = readC (flatTs args)

section
variable (full : Array Oper) (draw : Bool) (Q : Exit → Env → Prop)
/-- The rest 'K' of a region, behind the answer of an operation. -/
def VRes (st : Store) (tk : Nat) (K : TV → Upd → List Nat → Prop) : OpRes → Prop
  | .bad => False
  | .ok tv u r => K tv u r
  | .need p tv u r => p ∧ K tv u r
  | .call f args => ∃ tv u r, CallOk P st f args tk tv u r ∧ K tv u r
  | .yld _ => False
def VOps : List Oper → Nat → List TV → Store → List (List D) → Nat → List (List Nat × List Nat) → Prop
  | [], _, tm, st, out, nx, acc => (draw = true → drawOk full acc.reverse = true) ∧ Q .normal ⟨tm, st, out, nx + 64 * full.size⟩
  | o :: rest, i, tm, st, out, nx, acc =>
    match o.guard with
    | none => VRes P st (nx + 64 * i) (fun tv u r => VOps rest (i + 1) (sett tm o.dst tv) (supd st u) out nx ((u.map (·.1), r) :: acc)) (vstep tt tm st (nx + 64 * i) o.op)
    | some g => match gslot full (some g) with
      | none => False
      | some (d, w) => match guardOf (geti tm d) with
        | none => False
        | some none => VOps rest (i + 1) (sett tm o.dst (.tup [])) st out nx (([], []) :: acc)
        | some (some b) => (b = w → VRes P st (nx + 64 * i) (fun tv u r => VOps rest (i + 1) (sett (seti tm d (boo w)) o.dst tv) (supd st u) out nx ((u.map (·.1), r) :: acc)) (vstep tt (seti tm d (boo w)) st (nx + 64 * i) o.op)) ∧
            (b = !w → VOps rest (i + 1) (sett (seti tm d (boo (!w))) o.dst (.tup [])) st out nx (([], []) :: acc))
end

end Go.Proofs.VL
