/- The model's code brought into the compact form: types resolved, edges checked and struck. -/
import Derived.Test.YtbnhmahkgeaajaaVsSteps
namespace Go.Proofs.Ytbnhmahkgeaajaa
namespace VS

def atomsOf : List Value → Option (List AV)
  | [] => some []
  | x :: r => if atom x then (atomsOf r).map (AV.v x :: ·) else none

def ofVal : Value → Option AV
  | .agg cs => (atomsOf cs.toList).map .agg
  | .func (.func f) first caps => if first.isEmpty && caps.isEmpty then some (.fn f []) else none
  | x => if atom x then some (.v x) else none

def stripX : Operand → Option SX
  | .tmp t => some (.t t)
  | .const x => (ofVal x).map .c
  | .func f => some (.c (.fn f []))
  | .global _ => none

def stripXs : List Operand → Option (List SX)
  | [] => some []
  | x :: r => match stripX x, stripXs r with
    | some a, some l => some (a :: l)
    | _, _ => none

def stripO : Option Operand → Option (Option SX)
  | none => some none
  | some x => (stripX x).map some

def zeroOf (P : Program) (t : TypeId) : Option (List AV) :=
  match P.info? t with
  | some i => match i.zero with
    | some z => atomsOf z.cells.toList
    | none => none
  | none => none

def zeroV (P : Program) (t : TypeId) : Option AV :=
  match P.info? t with
  | some i => match i.zero with
    | some z => ofVal z
    | none => none
  | none => none

def aggK (P : Program) (t : TypeId) : Option (Option Nat) :=
  match P.underlying t with
  | some (.struct _) | some (.array _ _) => match P.info? t with
    | some i => some (some i.size)
    | none => none
  | some _ => some none
  | none => none

def placesOf (P : Program) : List Field → Option (List (Nat × Nat))
  | [] => some []
  | f :: r => match P.info? f.type, placesOf P r with
    | some i, some l => some ((f.offset, i.size) :: l)
    | _, _ => none

def partsBy (place : Nat → Option (Nat × Nat)) : List (Nat × Operand) → Option (List (Nat × Nat × SX))
  | [] => some []
  | (i, x) :: r => match place i, stripX x, partsBy place r with
    | some (off, size), some a, some l => some ((off, size, a) :: l)
    | _, _, _ => none

/-- Types whose values are whole numbers through and through, laid without gaps: their size in cells. -/
def sized (P : Program) (t : TypeId) (n : Option Nat) : Option Nat :=
  match n, P.info? t with
  | some k, some i => if i.size = k then some k else none
  | _, _ => none

def fieldsInts (f : TypeId → Option Nat) : List Field → Nat → Option Nat
  | [], n => some n
  | x :: r, n => match f x.type with
    | some k => if x.offset = n ∧ x.name ≠ "_" then fieldsInts f r (n + k) else none
    | none => none

def intsOnly (P : Program) : Nat → TypeId → Option Nat
  | 0, _ => none
  | d + 1, t => match P.underlying t with
    | some (.int _) => sized P t (some 1)
    | some (.struct fs) => if P.stoodInHeld t = false then sized P t (fieldsInts (intsOnly P d) fs.toList 0) else none
    | some (.array n e) => sized P t ((intsOnly P d e).map fun k => n * k)
    | _ => none

def isConstX : Operand → Bool
  | .const _ => true
  | _ => false

def eqkOf (P : Program) (t : TypeId) (x y : Operand) : EqK :=
  match P.underlying t with
  | some .bool => .bool
  | some (.slice _) => .nilS
  | some (.func _ _ _) => .nilF
  | some (.pointer _) => .nilP
  | some (.interface _) => .iface (isConstX x || isConstX y)
  | some (.struct _) | some (.array _ _) => match P.eqGuardType P.depth t, intsOnly P 8 t with
    | false, some n => .cells n
    | _, _ => .none
  | _ => .none

def stripB (P : Program) : Builtin → List Operand → List TypeId → Option SOp
  | .append, [s, x], [t, u] => match P.underlying t, stripX s, stripX x with
    | some (.slice e), some s, some x => match P.info? e, zeroOf P e with
      | some i, some z => if z.length = i.size ∧ t = u then some (.append i.size i.bytes s x) else none
      | _, _ => none
    | _, _, _ => none
  | .len, [x], [t] => match P.underlying t, stripX x with
    | some (.slice _), some x => some (.len x)
    | _, _ => none
  | .max, [x, y], _ => match stripX x, stripX y with
    | some x, some y => some (.minmax true x y)
    | _, _ => none
  | .min, [x, y], _ => match stripX x, stripX y with
    | some x, some y => some (.minmax false x y)
    | _, _ => none
  | _, _, _ => none

def stripCall (P : Program) (c : Call) : Option SOp :=
  match c.callee with
  | .value f => match stripX f, stripXs c.args.toList with
    | some f, some l => some (.call f l)
    | _, _ => none
  | .builtin b => stripB P b c.args.toList c.argTypes.toList
  | .invoke _ _ => none

def stripOp (P : Program) (o : Oper) : Option SOp :=
  match o.op with
  | .move x | .assign x => (stripX x).map .mv
  | .pick c a b => match stripX c, stripX a, stripX b with
    | some c, some a, some b => some (.pick c a b)
    | _, _, _ => none
  | .alloc t => (zeroOf P t).map .alloc
  | .box _ x => (stripX x).map .box
  | .build t ps => match zeroOf P t, P.underlying t with
    | some z, some (.struct fs) => match placesOf P fs.toList with
      | some pl => (partsBy (fun i => pl[i]?) ps.toList).map (.build z)
      | none => none
    | some z, some (.array _ e) => match P.info? e with
      | some i => (partsBy (fun j => some (j * i.size, i.size)) ps.toList).map (.build z)
      | none => none
    | _, _ => none
  | .buildSlice t n ps => match P.underlying t with
    | some (.slice e) => match P.info? e, zeroOf P e with
      | some i, some z => if n * i.size ≤ 2 ^ 24 ∧ z.length = i.size ∧ 0 < i.size then (partsBy (fun j => some (j * i.size, i.size)) ps.toList).map (.bslice z n) else none
      | _, _ => none
    | _ => none
  | .load t a => match aggK P t, stripX a with
    | some k, some a => some (.load k a)
    | _, _ => none
  | .store t a x => match P.info? t, stripX a, stripX x with
    | some i, some a, some x => some (.store i.size a x)
    | _, _, _ => none
  | .nilCheck x => (stripX x).map .nilck
  | .binOp op t x y _ => match stripX x, stripX y with
    | some a, some b => some (.bin op (eqkOf P t x y) a b)
    | _, _ => none
  | .unOp op _ x => (stripX x).map (.un op)
  | .convert s d x => match P.underlying s, P.underlying d, stripX x with
    | some _, some (.int k), some a => some (.conv k a)
    | some (.slice e), some .string, some a => (match P.underlying e with
      | some (.int .u8) => some (.tostr a)
      | _ => none)
    | _, _, _ => none
  | .sliceToArrayPointer t x => match P.underlying t, stripX x with
    | some (.array n _), some a => some (.s2ap n a)
    | _, _ => none
  | .makeInterface t x => match P.underlying t, stripX x with
    | some (.interface _), _ => none
    | some _, some a => some (.mkifc t a)
    | _, _ => none
  | .makeFunc fn first caps => match fn with
    | .func f => if first.isEmpty then (stripXs caps.toList).map (.mkfn f) else none
    | _ => none
  | .makeSlice t l c => match P.underlying t with
    | some (.slice e) => match P.info? e, zeroOf P e, stripX l, stripX c with
      | some i, some z, some l, some c => if z.length = i.size ∧ 0 < i.size then some (.mkslice z i.bytes l c) else none
      | _, _, _, _ => none
    | _ => none
  | .slice t x lo hi mx => match mx with
    | some _ => none
    | none => match P.underlying t, stripX x, stripO lo, stripO hi with
      | some (.slice e), some x, some lo, some hi => (P.info? e).map fun i => .slice i.size x lo hi
      | some (.array n e), some x, some lo, some hi => if n ≤ maxLen then (P.info? e).map fun i => .arrslice n i.size x lo hi else none
      | _, _, _, _ => none
  | .fieldAddr t x f => match P.underlying t, stripX x with
    | some (.struct fs), some x => match fs[f]? with
      | some fd => match P.info? fd.type with
        | some i => if i.size = 0 then none else some (.faddr fd.offset x)
        | none => none
      | none => none
    | _, _ => none
  | .field t x f => match P.underlying t, stripX x with
    | some (.struct fs), some x => match fs[f]? with
      | some fd => match aggK P fd.type with
        | some k => some (.field fd.offset k x)
        | none => none
      | none => none
    | _, _ => none
  | .indexAddr t x i => match P.underlying t, stripX x, stripX i with
    | some (.slice e), some x, some i => (P.info? e).map fun j => .iaddr j.size none x i
    | some (.array n e), some x, some i => (P.info? e).map fun j => .iaddr j.size (some n) x i
    | _, _, _ => none
  | .index t x i => match P.underlying t, stripX x, stripX i with
    | some (.array n e), some x, some i => match P.info? e, aggK P e with
      | some j, some k => some (.index n j.size k x i)
      | _, _ => none
    | _, _, _ => none
  | .extract x i => (stripX x).map fun a => .extract a i
  | .call c => stripCall P c
  | .typeAssert x _ t ok => match P.underlying t, stripX x with
    | some (.interface _), _ => none
    | some _, some a => (zeroV P t).map fun z => .tassert t ok z a
    | _, _ => none
  | .panic x => (stripX x).map .panic
  | .defer c => match c.callee with
    | .value f => if c.args.isEmpty then (stripX f).map .defer else none
    | _ => none
  | _ => none

def stripG (ops : Array Oper) : Option (Nat × Bool) → Option (Option (Nat × Bool))
  | none => some none
  | some (j, want) => match ops[j]? with
    | some o => match o.dst with
      | some d => some (some (d, want))
      | none => none
    | none => none

def stripOne (P : Program) (N : Nat) (ops : Array Oper) (o : Oper) : Option SO :=
  if o.dst.all (fun d => decide (d < N)) then
    match stripOp P o, stripG ops o.guard with
    | some op, some g => some { dst := o.dst, g := g, op := op }
    | _, _ => none
  else none

def stripOps (P : Program) (N : Nat) (ops : Array Oper) : List Oper → Option (List SO)
  | [] => some []
  | o :: r => match stripOne P N ops o, stripOps P N ops r with
    | some s, some l => some (s :: l)
    | _, _ => none

/-- How an operation touches the state: not at all; it reads it; it adds to it; it writes it. -/
def callClass (kd : FuncId → Kind) : SX → Nat
  | .c (.fn f []) => if kd f = .whole then 3 else if kd f = .pure then 1 else 2
  | _ => 3

def opClass (kd : FuncId → Kind) : SOp → Nat
  | .load _ _ => 1
  | .alloc _ | .box _ | .append _ _ _ _ | .mkslice _ _ _ _ | .bslice _ _ _ => 2
  | .call f _ => callClass kd f
  | .store _ _ _ | .arrslice _ _ _ _ _ | .panic _ | .defer _ => 3
  | _ => 0

def clash (a b : Nat) : Bool := (2 ≤ a && 2 ≤ b) || (a == 1 && b == 3) || (a == 3 && b == 1)

def xSlots : SX → List Nat
  | .t i => [i]
  | .c _ => []

def oSlots : Option SX → List Nat
  | some x => xSlots x
  | none => []

def opSlots : SOp → List Nat
  | .mv x | .box x | .nilck x | .un _ x | .conv _ x | .tostr x | .s2ap _ x | .mkifc _ x | .faddr _ x | .field _ _ x | .extract x _ | .len x | .tassert _ _ _ x | .panic x | .defer x | .load _ x => xSlots x
  | .pick c a b => xSlots c ++ xSlots a ++ xSlots b
  | .alloc _ => []
  | .build _ ps | .bslice _ _ ps => ps.flatMap fun p => xSlots p.2.2
  | .store _ a b | .bin _ _ a b | .mkslice _ _ a b | .iaddr _ _ a b | .index _ _ _ a b | .append _ _ a b | .minmax _ a b => xSlots a ++ xSlots b
  | .mkfn _ l => l.flatMap xSlots
  | .slice _ x lo hi | .arrslice _ _ x lo hi => xSlots x ++ oSlots lo ++ oSlots hi
  | .call f l => xSlots f ++ l.flatMap xSlots

def soSlots (o : SO) : List Nat := (match o.g with | some (s, _) => [s] | none => []) ++ opSlots o.op

/-- Sets of numbers, as ordered lists. -/
def ins (i : Nat) : List Nat → List Nat
  | [] => [i]
  | j :: r => if i < j then i :: j :: r else if i = j then j :: r else j :: ins i r

def uni : List Nat → List Nat → List Nat
  | [], l => l
  | i :: r, l => uni r (ins i l)

/-- Which operations must have been carried out before each, as the edges say. -/
def ancOf (acc : List (List Nat)) : List Edge → List Nat
  | [] => []
  | e :: r => if Region.binds .any e then ins e.on (uni (acc.getD e.on []) (ancOf acc r)) else ancOf acc r

def ancs (ops : List Oper) : List (List Nat) :=
  ops.foldl (fun acc o => acc ++ [ancOf acc o.after.toList]) []

def before (an : List (List Nat)) (i j : Nat) : Bool := (an.getD j []).contains i

/-- A load and a store. -/
def loadStore : SOp → SOp → Bool
  | .load _ _, .store _ _ _ => true
  | .store _ _ _, .load _ _ => true
  | _, _ => false

def drawOk (free : Bool) (kd : FuncId → Kind) (ops : List Oper) (so : List SO) : Bool :=
  let an := ancs ops
  let n := so.length
  so.all (fun o => match o.op with | .defer _ => false | _ => true) &&
  (List.range n).all fun j => (ops.getD j default).after.toList.all (fun e => !Region.binds .any e || decide (e.on < j)) &&
    (List.range n).all fun i => i == j || before an i j || before an j i ||
      match so[i]?, so[j]? with
      | some a, some b => (!(clash (opClass kd a.op) (opClass kd b.op)) || (free && loadStore a.op b.op)) &&
        (match a.dst with | some d => !((soSlots b).contains d) && b.dst != some d | none => true) &&
        (match b.dst with | some d => !((soSlots a).contains d) | none => true)
      | _, _ => false

def strip (P : Program) (kd : FuncId → Kind) (N : Nat) : Code → Option SCode
  | .skip => some .skip
  | .region _ ops draw => match stripOps P N ops ops.toList with
    | some l => if draw then (if drawOk false kd ops.toList l then some (.region l true) else if drawOk true kd ops.toList l then some (.regionF l) else none) else some (.region l false)
    | none => none
  | .seq a b => match strip P kd N a, strip P kd N b with
    | some x, some y => some (.seq [] x y)
    | _, _ => none
  | .cond c a b => match stripX c, strip P kd N a, strip P kd N b with
    | some c, some x, some y => some (.cond c x y)
    | _, _, _ => none
  | .block id c => (strip P kd N c).map (.block id)
  | .loop c => (strip P kd N c).map (.loop [])
  | .exit id => some (.exit id)
  | .ret => some .ret
  | _ => none

def liveOps : List SO → List Nat → List Nat
  | [], l => l
  | o :: r, l => uni (soSlots o) (match o.dst with | some d => (liveOps r l).filter (fun i => !(i == d)) | none => liveOps r l)

def liveAt : List (Nat × List Nat) → Nat → List Nat
  | [], _ => []
  | (i, l) :: r, k => if i = k then l else liveAt r k

/-- The code with the slots that are live named; and those live where it begins. It need not be right: what it says is only what the evaluator keeps. -/
def mark : SCode → List (Nat × List Nat) → List Nat → List Nat → SCode × List Nat
  | .skip, _, _, l => (.skip, l)
  | .region ops d, _, _, l => (.region ops d, liveOps ops l)
  | .regionF ops, _, _, l => (.regionF ops, liveOps ops l)
  | .seq _ a b, ex, r, l =>
    let q := mark b ex r l
    let p := mark a ex r q.2
    (.seq q.2 p.1 q.1, p.2)
  | .cond c a b, ex, r, l =>
    let p := mark a ex r l
    let q := mark b ex r l
    (.cond c p.1 q.1, uni (xSlots c) (uni p.2 q.2))
  | .block id c, ex, r, l =>
    let p := mark c ((id, l) :: ex) r l
    (.block id p.1, p.2)
  | .loop _ c, ex, r, _ =>
    let h := (mark c ex r []).2
    (.loop h (mark c ex r h).1, h)
  | .exit id, ex, _, _ => (.exit id, liveAt ex id)
  | .ret, _, r, _ => (.ret, r)

def erase : SCode → SCode
  | .seq _ a b => .seq [] (erase a) (erase b)
  | .cond c a b => .cond c (erase a) (erase b)
  | .block id c => .block id (erase c)
  | .loop _ c => .loop [] (erase c)
  | c => c

theorem erase_mark : ∀ (c : SCode) (ex : List (Nat × List Nat)) (r l : List Nat), erase (mark c ex r l).1 = erase c
  | .skip, _, _, _ => rfl
  | .region _ _, _, _, _ => rfl
  | .regionF _, _, _, _ => rfl
  | .seq _ a b, ex, r, l => by simp only [mark, erase, erase_mark a, erase_mark b]
  | .cond _ a b, ex, r, l => by simp only [mark, erase, erase_mark a, erase_mark b]
  | .block _ c, ex, r, l => by simp only [mark, erase, erase_mark c]
  | .loop _ c, ex, r, l => by simp only [mark, erase, erase_mark c]
  | .exit _, _, _, _ => rfl
  | .ret, _, _, _ => rfl

def liveRes : List SRes → List Nat
  | [] => []
  | .tmp t :: r => ins t (liveRes r)
  | .cell a _ :: r => ins a (liveRes r)

def stripRes (P : Program) : List ResultVar → Option (List SRes)
  | [] => some []
  | .tmp t :: r => (stripRes P r).map (.tmp t :: ·)
  | .cell a t :: r => match aggK P t, stripRes P r with
    | some k, some l => some (.cell a k :: l)
    | _, _ => none

/-- Code that leaves the variables that there are. -/
def mildC (kd : FuncId → Kind) : SCode → Bool
  | .region ops _ => ops.all fun o => decide (opClass kd o.op ≤ 2)
  | .regionF ops => ops.all fun o => decide (opClass kd o.op ≤ 2)
  | .seq _ a b => mildC kd a && mildC kd b
  | .cond _ a b => mildC kd a && mildC kd b
  | .block _ c => mildC kd c
  | .loop _ c => mildC kd c
  | _ => true

/-- The code of a closure behind its 'x := recover()'. -/
def headOff (N r x : Nat) : Code → Option Code
  | .seq (.region _ ops false) c => match ops.toList with
    | [o0, o1] => match o0.op, o1.op with
      | .call ci, .assign (.tmp t) => match ci.callee, ci.args.toList with
        | .builtin .recover, [] => if o0.dst = some r ∧ o0.guard = none ∧ t = r ∧ o1.dst = some x ∧ o1.guard = none ∧ r < N ∧ x < N ∧ r ≠ x then some c else none
        | _, _ => none
      | _, _ => none
    | _ => none
  | _ => none

def bodyOf (k : Kind) (N : Nat) (c : Code) : Option Code := match k with
  | .catch r x => headOff N r x c
  | _ => some c

def stripFn (P : Program) (kd : FuncId → Kind) (f : FuncId) (fn : Func) : Option SFn :=
  if fn.name = "runtime.NumGoroutine" then none else
  match fn.body with
  | some c0 => match bodyOf (kd f) fn.ntmps c0 with
    | some c => if fn.params.size + fn.nfree ≤ fn.ntmps then
        match strip P kd fn.ntmps c, stripRes P fn.results.toList with
        | some b, some r => if decide (kd f = .grow) && !mildC kd (mark b [] (liveRes r) (liveRes r)).1 then none else some { kind := kd f, np := fn.params.size + fn.nfree, res := r, body := (mark b [] (liveRes r) (liveRes r)).1 }
        | _, _ => none
      else none
    | none => none
  | none => none

/-- The table of functions. -/
def table (P : Program) (kd : FuncId → Kind) (f : FuncId) : Option SFn :=
  match P.funcs[f]? with
  | some fn => stripFn P kd f fn
  | none => none

end VS
end Go.Proofs.Ytbnhmahkgeaajaa
