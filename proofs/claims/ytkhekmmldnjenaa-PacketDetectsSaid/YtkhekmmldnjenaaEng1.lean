/- A value semantics for the model's code: the abstract values, the compact form of code, the evaluator. Nothing of Go's memory here: its meaning is proved in the texts behind this one. -/
import Derived.Calls
import Derived.Below
import Derived.Orders
import Derived.Laws.BytesArg
import Derived.WalkKit
namespace Go.Proofs.Ytkhekmmldnjenaa
namespace VS

/-- What is known of the room behind a slice: nothing (ro); none (full); it may be appended to (own: row and virtual end); its elements are pointers or closures (ptrs). -/
inductive Tag where
  | ro
  | full
  | ptrs
  | own (r e : Nat)
  deriving DecidableEq

/-- Abstract values. Cells are flattened: a struct of k cells is 'agg' of k values of one cell each. -/
inductive AV where
  | v (x : Value)
  | sl (cs : List AV) (n : Nat) (t : Tag)
  | agg (cs : List AV)
  | tup (vs : List AV)
  | ptr (b off : Nat)
  | ep (cs : List AV) (off : Nat)
  | hs (b o n sz : Nat)
  | fn (f : FuncId) (caps : List AV)
  | ifc (t : TypeId) (x : AV)

def und : AV := .tup []

/-- A block of variables of one's own. 'fz': nothing is stored into it any more. -/
structure HB where
  cells : List AV
  fz : Bool

/-- The abstract memory: blocks; rows that may be appended to (virtual end, cells of an element). -/
structure St where
  H : List HB
  F : List (Nat × Nat)

def St.mt : St := { H := [], F := [] }

structure Fr where
  s : List (Nat × AV)
  d : List (FuncId × List AV)

def look : List (Nat × AV) → Nat → Option AV
  | [], _ => none
  | (k, x) :: r, i => if k = i then some x else look r i

def Fr.put (fr : Fr) (d : Option Nat) (a : AV) : Fr :=
  match d with
  | some k => { fr with s := (k, a) :: fr.s }
  | none => fr

/-- An operand. -/
inductive SX where
  | t (i : Nat)
  | c (a : AV)

def evX (fr : Fr) : SX → Option AV
  | .t i => look fr.s i
  | .c a => some a

def evXs (fr : Fr) : List SX → Option (List AV)
  | [] => some []
  | x :: r => match evX fr x, evXs fr r with
    | some a, some l => some (a :: l)
    | _, _ => none

/-- Cells of a value. -/
def AV.cells : AV → List AV
  | .agg cs => cs
  | a => [a]

def AV.isTup : AV → Bool
  | .tup _ => true
  | _ => false

/-- An equality's kind. -/
inductive EqK where
  | bool | nilS | nilF | nilP | iface (c : Bool) | cells (n : Nat) | none

/-- Operations, their types resolved. -/
inductive SOp where
  | mv (x : SX)
  | pick (c a b : SX)
  | alloc (z : List AV)
  | box (x : SX)
  | build (z : List AV) (ps : List (Nat × Nat × SX))
  | bslice (z : List AV) (n : Nat) (ps : List (Nat × Nat × SX))
  | load (k : Option Nat) (a : SX)
  | store (k : Nat) (a x : SX)
  | nilck (x : SX)
  | bin (op : BinOp) (q : EqK) (x y : SX)
  | un (op : UnOp) (x : SX)
  | conv (k : IntKind) (x : SX)
  | tostr (x : SX)
  | s2ap (n : Nat) (x : SX)
  | mkifc (t : TypeId) (x : SX)
  | mkfn (f : FuncId) (caps : List SX)
  | mkslice (z : List AV) (bytes : Nat) (l c : SX)
  | slice (sz : Nat) (x : SX) (lo hi : Option SX)
  | arrslice (n sz : Nat) (x : SX) (lo hi : Option SX)
  | faddr (off : Nat) (x : SX)
  | field (off : Nat) (k : Option Nat) (x : SX)
  | iaddr (sz : Nat) (arr : Option Nat) (x i : SX)
  | index (n sz : Nat) (k : Option Nat) (x i : SX)
  | extract (x : SX) (i : Nat)
  | call (f : SX) (args : List SX)
  | append (sz bytes : Nat) (s x : SX)
  | len (x : SX)
  | minmax (mx : Bool) (x y : SX)
  | tassert (t : TypeId) (ok : Bool) (z : AV) (x : SX)
  | panic (x : SX)
  | defer (f : SX)
  | callF (f : SX) (args : List SX)

structure SO where
  dst : Option Nat
  g : Option (Nat × Bool)
  op : SOp

inductive SCode where
  | skip
  | region (ops : List SO) (draw : Bool)
  | regionF (ops : List SO)
  | seq (ks : List Nat) (a b : SCode)
  | cond (c : SX) (a b : SCode)
  | block (id : Nat) (c : SCode)
  | loop (ks : List Nat) (c : SCode)
  | exit (id : Nat)
  | ret

inductive SRes where
  | tmp (t : Nat)
  | cell (a : Nat) (k : Option Nat)

inductive Kind where
  | plain | keep | whole | grow | guard | fresh | pure
  | catch (r x : Nat)
  deriving DecidableEq

structure SFn where
  kind : Kind
  np : Nat
  res : List SRes
  body : SCode

inductive Ex where
  | nx
  | ex (id : Nat)
  | rt
  | pn (a : AV)

abbrev Out := Ex × Fr × St

inductive Res where
  | ret (a : AV)
  | pan (a : AV)

inductive ORes where
  | ret (a : AV)
  | pan (a : AV)
  | dfr (f : FuncId) (caps : List AV)

abbrev CallF := FuncId → List AV → St → Option (Res × St)

/-- Shallow: may it stand in a slice that is handed to others, or go to a callee that has a memory of its own? Its tags are forgotten. -/
def clean1 : AV → Option AV
  | .v x => some (.v x)
  | .sl cs n t => if t = .ptrs then none else some (.sl cs n .ro)
  | .fn f [] => some (.fn f [])
  | _ => none

def cleanL : List AV → Option (List AV)
  | [] => some []
  | a :: r => match clean1 a, cleanL r with
    | some x, some l => some (x :: l)
    | _, _ => none

def St.freeze (st : St) (b : Nat) (hb : HB) : St := { st with H := st.H.set b { hb with fz := true } }

/-- A value of one cell, as it goes out of a memory: a slice of a block of one's own is frozen. -/
def exp0 (st : St) : AV → Option (AV × St)
  | .hs b o n sz => match st.H[b]? with
    | some hb => if o + n * sz ≤ hb.cells.length then
        match cleanL ((hb.cells.drop o).take (n * sz)) with
        | some cs => some (.sl cs n .ro, st.freeze b hb)
        | none => none
      else none
    | none => none
  | a => match clean1 a with
    | some x => some (x, st)
    | none => none

def expL : St → List AV → Option (List AV × St)
  | st, [] => some ([], st)
  | st, a :: r => match exp0 st a with
    | some (x, st1) => match expL st1 r with
      | some (l, st2) => some (x :: l, st2)
      | none => none
    | none => none

def exp1 (st : St) : AV → Option (AV × St)
  | .agg cs => match expL st cs with
    | some (l, st1) => some (.agg l, st1)
    | none => none
  | a => exp0 st a

def expA : St → List AV → Option (List AV × St)
  | st, [] => some ([], st)
  | st, a :: r => match exp1 st a with
    | some (x, st1) => match expA st1 r with
      | some (l, st2) => some (x :: l, st2)
      | none => none
    | none => none

/-- A result, out of a callee's memory. -/
def expR (st : St) : AV → Option AV
  | .tup vs => (expA st vs).map fun p => .tup p.1
  | .ifc t x => (exp1 st x).map fun p => .ifc t p.1
  | a => (exp1 st a).map fun p => p.1

def AV.isV : AV → Bool
  | .v _ => true
  | _ => false

/-- Nothing that points anywhere. -/
def scal1 : AV → Bool
  | .v _ => true
  | .agg cs => cs.all AV.isV
  | _ => false

/-- Which blocks of one's own a value reaches as slices. -/
def hsOf0 : AV → List Nat
  | .hs b _ _ _ => [b]
  | _ => []

def hsOf : AV → List Nat
  | .agg cs => cs.flatMap hsOf0
  | a => hsOf0 a

def scalR : AV → Bool
  | .tup vs => vs.all scal1
  | a => scal1 a

def takeRes (l : List (Nat × AV)) (H : List HB) : SRes → Option AV
  | .tmp t => look l t
  | .cell a k => match look l a with
    | some (.ptr b off) => match H[b]? with
      | some hb => match k with
        | some n => if off + n ≤ hb.cells.length then some (.agg ((hb.cells.drop off).take n)) else none
        | none => hb.cells[off]?
      | none => none
    | _ => none

def takeRess (l : List (Nat × AV)) (H : List HB) : List SRes → Option (List AV)
  | [] => some []
  | r :: rs => match takeRes l H r, takeRess l H rs with
    | some a, some as => some (a :: as)
    | _, _ => none

def pack : List AV → AV
  | [a] => a
  | l => .tup l

def initFr : Nat → List AV → List (Nat × AV)
  | _, [] => []
  | i, a :: r => (i, a) :: initFr (i + 1) r

/-- A function's body, in the memory that it is given. -/
def inner (R : SCode → Fr → St → Option Out) (s : SFn) (args : List AV) (st : St) : Option (Res × St) :=
  match R s.body { s := initFr 0 args, d := [] } st with
  | some (.nx, fr, st1) | some (.rt, fr, st1) =>
    (match fr.d with
    | [] => (match takeRess fr.s st1.H s.res with
      | some l => some (.ret (pack l), st1)
      | none => none)
    | _ => none)
  | some (.pn a, fr, st1) =>
    (match fr.d with
    | [] => some (.pan a, st1)
    | _ => none)
  | _ => none

/-- Where a function with one deferred closure ends: its slots, the closure, what there is to recover. -/
def openG : Out → Option (List (Nat × AV) × FuncId × List AV × AV × St)
  | (.nx, fr, st) | (.rt, fr, st) => match fr.d with
    | [(g, caps)] => some (fr.s, g, caps, .v .nilIface, st)
    | _ => none
  | (.pn a, fr, st) => match fr.d with
    | [(g, caps)] => some (fr.s, g, caps, a, st)
    | _ => none
  | _ => none

/-- Where a closure that recovers ends. -/
def endC (res : List SRes) : Out → Option St
  | (.nx, fr, st) | (.rt, fr, st) => match fr.d with
    | [] => (match takeRess fr.s st.H res with
      | some _ => some st
      | none => none)
    | _ => none
  | _ => none

/-- A closure that recovers 'v'. -/
def catchR (T : FuncId → Option SFn) (R : SCode → Fr → St → Option Out) (g : FuncId) (caps : List AV) (v : AV) (st : St) : Option St :=
  match T g with
  | some s => match s.kind with
    | .catch r x => if caps.length = s.np then match R s.body { s := (x, v) :: (r, v) :: initFr 0 caps, d := [] } st with
        | some out => endC s.res out
        | none => none
      else none
    | _ => none
  | none => none

/-- A function with one deferred closure that recovers. -/
def innerG (T : FuncId → Option SFn) (R : SCode → Fr → St → Option Out) (s : SFn) (args : List AV) (st : St) : Option (AV × St) :=
  match R s.body { s := initFr 0 args, d := [] } st with
  | some out => match openG out with
    | some (l, g, caps, v, st1) => match catchR T R g caps v st1 with
      | some st2 => match takeRess l st2.H s.res with
        | some xs => some (pack xs, st2)
        | none => none
      | none => none
    | none => none
  | none => none

/-- A call whose result, a slice in new memory, becomes a block of one's own. -/
def freshOf (R : SCode → Fr → St → Option Out) (s : SFn) (args : List AV) (st : St) : Option (Res × St) :=
  match expA st args with
  | none => none
  | some (args1, st0) => match inner R s args1 .mt with
    | some (.ret (.sl cs n (.own r e)), st1) => match st1.F[r]? with
      | some (e1, sz) => if e1 = e ∧ cs.length = e ∧ 0 < e ∧ cs.all AV.isV = true then some (.ret (.hs st0.H.length 0 n sz), { st0 with H := st0.H ++ [{ cells := cs, fz := false }] }) else none
      | none => none
    | some (.ret (.sl cs n .full), _) => some (.ret (.sl cs n .full), st0)
    | some (.ret a, st1) => (expR st1 a).map fun x => (.ret x, st0)
    | some (.pan a, st1) => (expR st1 a).map fun x => (.pan x, st0)
    | none => none

/-- Behind the arguments: 'a new block is wanted'. No value of the model is such. -/
def fmk : AV := .agg [.agg []]
def fmks : List AV := List.replicate 1000 fmk
def AV.isMk : AV → Bool
  | .agg [.agg []] => true
  | _ => false

def callOf (T : FuncId → Option SFn) (R : SCode → Fr → St → Option Out) : CallF := fun f args st =>
  match T f with
  | none => none
  | some s =>
    if args.length = s.np then
      match s.kind with
      | .whole => inner R s args st
      | .grow => inner R s args st
      | .catch _ _ => none
      | .guard => match expA st args with
        | none => none
        | some (args1, st0) => match innerG T R s args1 .mt with
          | some (a, st1) => (expR st1 a).map fun x => (.ret x, st0)
          | none => none
      | .plain => match expA st args with
        | none => none
        | some (args1, st0) => match inner R s args1 .mt with
          | some (.ret a, st1) => (expR st1 a).map fun x => (.ret x, st0)
          | some (.pan a, st1) => (expR st1 a).map fun x => (.pan x, st0)
          | none => none
      | .keep => match expA st args with
        | none => none
        | some (args1, st0) => match inner R s args1 .mt with
          | some (.ret (.sl cs n (.own r e)), st1) => match st1.F[r]? with
            | some (e1, sz) => if e1 = e then some (.ret (.sl cs n (.own st0.F.length e)), { st0 with F := st0.F ++ [(e, sz)] }) else none
            | none => none
          | some (.ret (.sl cs n .full), _) => some (.ret (.sl cs n .full), st0)
          | some (.ret a, st1) => (expR st1 a).map fun x => (.ret x, st0)
          | some (.pan a, st1) => (expR st1 a).map fun x => (.pan x, st0)
          | none => none
      | .fresh => freshOf R s args st
      | .pure => match expA st args with
        | none => none
        | some (args1, _) => match inner R s args1 .mt with
          | some (.ret a, st1) => match expR st1 a with
            | some x => if (scalR x || (args.flatMap hsOf).isEmpty) = true then some (.ret x, st) else none
            | none => none
          | _ => none
    else if args.length = s.np + 1000 ∧ s.kind = .keep ∧ (args.drop s.np).all AV.isMk = true then freshOf R s (args.take s.np) st
    else none

/-- Parts laid into cells. -/
def putAt (cs : List AV) (off : Nat) (xs : List AV) : List AV := cs.take off ++ xs ++ cs.drop (off + xs.length)

def fillP (fr : Fr) : List AV → List (Nat × Nat × SX) → Option (List AV)
  | cs, [] => some cs
  | cs, (off, size, x) :: r => match evX fr x with
    | some a => if a.isTup = false ∧ a.cells.length = size ∧ off + size ≤ cs.length then fillP fr (putAt cs off a.cells) r else none
    | none => none

def repeatL (z : List AV) : Nat → List AV
  | 0 => []
  | n + 1 => z ++ repeatL z n

def isNilS : AV → Option Bool
  | .v (.slice none 0 0) => some true
  | .v (.slice (some _) 0 0) | .sl _ _ _ | .hs _ _ _ _ => some false
  | _ => none

def isNilF : AV → Option Bool
  | .v .nilFunc => some true
  | .fn _ _ => some false
  | _ => none

def isNilP : AV → Option Bool
  | .v (.pointer none) => some true
  | .ptr _ _ | .ep _ _ => some false
  | _ => none

/-- Two nilable things, one of which is nil. -/
def nilEq (x y : Option Bool) : Option Bool :=
  match x, y with
  | some true, some b => some b
  | some false, some true => some false
  | _, _ => none

def binInt (op : BinOp) (k : IntKind) (a b : Int) : Option Value :=
  match op with
  | .add => some (.int k (k.wrap (a + b)))
  | .sub => some (.int k (k.wrap (a - b)))
  | .mul => some (.int k (k.wrap (a * b)))
  | .quo => if b = 0 then none else some (.int k (k.wrap (a.tdiv b)))
  | .rem => if b = 0 then none else some (.int k (a.tmod b))
  | .and => some (.int k (k.wrap (BitVec.ofInt k.bits a &&& BitVec.ofInt k.bits b).toNat))
  | .or => some (.int k (k.wrap (BitVec.ofInt k.bits a ||| BitVec.ofInt k.bits b).toNat))
  | .xor => some (.int k (k.wrap (BitVec.ofInt k.bits a ^^^ BitVec.ofInt k.bits b).toNat))
  | .andNot => some (.int k (k.wrap (BitVec.ofInt k.bits a &&& ~~~(BitVec.ofInt k.bits b)).toNat))
  | .eql => some (.bool (a == b))
  | .neq => some (.bool (a != b))
  | .lss => some (.bool (a < b))
  | .leq => some (.bool (a ≤ b))
  | .gtr => some (.bool (a > b))
  | .geq => some (.bool (a ≥ b))
  | _ => none

def shiftInt (op : BinOp) (k : IntKind) (a b : Int) : Option Value :=
  if b < 0 then none else
  match op with
  | .shl => some (.int k (k.wrap (a * 2 ^ (min b.toNat k.bits))))
  | .shr => some (.int k (a.fdiv (2 ^ (min b.toNat k.bits))))
  | _ => none

def isShift : BinOp → Bool
  | .shl | .shr => true
  | _ => false

/-- Cells that are all whole numbers: alike? -/
def sameCells : List AV → List AV → Option Bool
  | [], [] => some true
  | .v (.int k a) :: r, .v (.int k' b) :: s => if k = k' then (sameCells r s).map fun t => (a == b) && t else none
  | _, _ => none

def negIf (op : BinOp) (b : Bool) : Option Value :=
  match op with
  | .eql => some (.bool b)
  | .neq => some (.bool (!b))
  | _ => none

def binAV (op : BinOp) (q : EqK) (x y : AV) : Option Value :=
  match x, y with
  | .v (.int k a), .v (.int k' b) => if isShift op then shiftInt op k a b else if k = k' then binInt op k a b else none
  | .v (.bool a), .v (.bool b) => (match q with | .bool => negIf op (a == b) | _ => none)
  | .v (.string a), .v (.string b) => negIf op (a.toList == b.toList)
  | .agg xs, .agg ys => (match q with | .cells n => if xs.length = n then (sameCells xs ys).bind (negIf op) else none | _ => none)
  | x, y => (match q with
    | .nilS => (nilEq (isNilS x) (isNilS y)).bind (negIf op)
    | .nilF => (nilEq (isNilF x) (isNilF y)).bind (negIf op)
    | .nilP => (nilEq (isNilP x) (isNilP y)).bind (negIf op)
    | .iface c => (match x, y with
      | .v .nilIface, .v .nilIface => if c then negIf op true else none
      | .ifc _ _, .v .nilIface | .v .nilIface, .ifc _ _ => negIf op false
      | _, _ => none)
    | _ => none)

def unAV (op : UnOp) (x : AV) : Option Value :=
  match op, x with
  | .neg, .v (.int k n) => some (.int k (k.wrap (0 - n)))
  | .xor, .v (.int k n) => binInt .xor k (if k.signed then -1 else k.max) n
  | .not, .v (.bool b) => some (.bool (!b))
  | _, _ => none

/-- A part of cells, as a value. -/
def partOf (cs : List AV) (off : Nat) : Option Nat → Option AV
  | none => cs[off]?
  | some k => if off + k ≤ cs.length then some (.agg ((cs.drop off).take k)) else none

def asNum : AV → Option Int
  | .v (.int _ n) => some n
  | _ => none

/-- The bounds of a slice expression: each given one within 0 .. top. -/
def bnd (fr : Fr) (d : Nat) : Option SX → Nat → Option Nat
  | none, _ => some d
  | some x, top => match (evX fr x).bind asNum with
    | some i => if 0 ≤ i ∧ i ≤ top then some i.toNat else none
    | none => none

def tagCut (t : Tag) (atEnd : Bool) : Tag :=
  match t with
  | .ptrs => .ptrs
  | .ro => .ro
  | .full => if atEnd then .full else .ro
  | .own r e => if atEnd then .own r e else .ro

/-- The cells and the number of elements that are appended. -/
def srcOf (st : St) : AV → Nat → Option (List AV × Nat)
  | .v (.slice _ 0 0), _ => some ([], 0)
  | .sl cs n t, _ => if t = .ptrs then none else some (cs, n)
  | .hs b o n sz, size => match st.H[b]? with
    | some hb => if sz = size ∧ o + n * sz ≤ hb.cells.length then (cleanL ((hb.cells.drop o).take (n * sz))).map fun cs => (cs, n) else none
    | none => none
  | _, _ => none

def most47 : Nat := 140737488355328

def opAppend (st : St) (sz bytes : Nat) (s x : AV) : Option (AV × St) :=
  match srcOf st x sz with
  | none => none
  | some (news, m) =>
    if news.length = m * sz ∧ 0 < sz then
      match s with
      | .v (.slice none 0 0) =>
        if m = 0 then some (.v (.slice none 0 0), st)
        else if m * bytes ≤ most47 ∧ m ≤ maxLen then some (.sl news m (.own st.F.length news.length), { st with F := st.F ++ [(news.length, sz)] }) else none
      | .sl cs n t =>
        if m = 0 then some (.sl cs n t, st)
        else if (n + m) * bytes ≤ most47 ∧ n + m ≤ maxLen ∧ cs.length = n * sz then
          match t with
          | .full => some (.sl (cs ++ news) (n + m) (.own st.F.length (cs ++ news).length), { st with F := st.F ++ [((cs ++ news).length, sz)] })
          | .own r e => if st.F[r]? = some (e, sz) then some (.sl (cs ++ news) (n + m) (.own r (e + news.length)), { st with F := st.F.set r (e + news.length, sz) }) else none
          | _ => none
        else none
      | .hs b q n z =>
        if m = 0 then some (.hs b q n z, st)
        else match st.H[b]? with
          | some hb => if (n + m) * bytes ≤ most47 ∧ n + m ≤ maxLen ∧ z = sz ∧ hb.fz = false ∧ hb.cells.length = q + n * sz then
              match cleanL (hb.cells.drop q) with
              | some cs => some (.sl (cs ++ news) (n + m) (.own st.F.length (hb.cells.length + news.length)), { H := st.H.set b { hb with fz := true }, F := st.F ++ [(hb.cells.length + news.length, sz)] })
              | none => none
            else none
          | none => none
      | _ => none
    else none

def opStore (st : St) (k : Nat) (a x : AV) : Option St :=
  match a with
  | .ptr b off => match st.H[b]? with
    | some hb => if hb.fz = false ∧ x.isTup = false ∧ x.cells.length = k ∧ off + k ≤ hb.cells.length then
        some { st with H := st.H.set b { hb with cells := putAt hb.cells off x.cells } }
      else none
    | none => none
  | _ => none

def opLoad (st : St) (k : Option Nat) : AV → Option AV
  | .ptr b off => match st.H[b]? with
    | some hb => partOf hb.cells off k
    | none => none
  | .ep cs off => partOf cs off k
  | _ => none

def opSlice (fr : Fr) (sz : Nat) (lo hi : Option SX) : AV → Option AV
  | .v (.slice q 0 0) => match bnd fr 0 hi 0 with
    | some h => match bnd fr 0 lo h with
      | some _ => some (.v (.slice q 0 0))
      | none => none
    | none => none
  | .sl cs n t => match bnd fr n hi n with
    | some h => match bnd fr 0 lo h with
      | some l => if cs.length = n * sz then some (.sl ((cs.drop (l * sz)).take ((h - l) * sz)) (h - l) (tagCut t (h == n))) else none
      | none => none
    | none => none
  | .hs b q n z => match bnd fr n hi n with
    | some h => match bnd fr 0 lo h with
      | some l => if z = sz then some (.hs b (q + l * sz) (h - l) z) else none
      | none => none
    | none => none
  | _ => none

/-- Cells that are bytes. -/
def bytesOf : List AV → Option (List Int)
  | [] => some []
  | .v (.int .u8 n) :: r => (bytesOf r).map (n :: ·)
  | _ => none

/-- An operation, but for a call of a function. -/
def evOp (C : CallF) (fr : Fr) (st : St) : SOp → Option (ORes × St)
  | .mv x => match evX fr x with
    | some a => some (.ret a, st)
    | none => none
  | .pick c a b => match evX fr c with
    | some (.v (.bool true)) => (evX fr a).map fun x => (.ret x, st)
    | some (.v (.bool false)) => (evX fr b).map fun x => (.ret x, st)
    | _ => none
  | .alloc z => some (.ret (.ptr st.H.length 0), { st with H := st.H ++ [{ cells := z, fz := false }] })
  | .box x => match evX fr x with
    | some a => if a.isTup = false then some (.ret (.ptr st.H.length 0), { st with H := st.H ++ [{ cells := a.cells, fz := false }] }) else none
    | none => none
  | .build z ps => (fillP fr z ps).map fun cs => (.ret (.agg cs), st)
  | .bslice z n ps => match fillP fr (repeatL z n) ps with
    | none => none
    | some cs => match expL st cs with
      | some (l, st1) => some (.ret (.sl l n .full), st1)
      | none => some (.ret (.sl cs n .ptrs), st)
  | .load k a => match evX fr a with
    | some p => (opLoad st k p).map fun x => (.ret x, st)
    | none => none
  | .store k a x => match evX fr a, evX fr x with
    | some p, some y => (opStore st k p y).map fun st1 => (.ret und, st1)
    | _, _ => none
  | .nilck x => match evX fr x with
    | some (.ptr b off) => some (.ret (.ptr b off), st)
    | some (.ep cs off) => some (.ret (.ep cs off), st)
    | some (.fn f caps) => some (.ret (.fn f caps), st)
    | _ => none
  | .bin op q x y => match evX fr x, evX fr y with
    | some a, some b => (binAV op q a b).map fun z => (.ret (.v z), st)
    | _, _ => none
  | .un op x => match evX fr x with
    | some a => (unAV op a).map fun z => (.ret (.v z), st)
    | none => none
  | .conv k x => match evX fr x with
    | some (.v (.int _ n)) => some (.ret (.v (.int k (k.wrap n))), st)
    | _ => none
  | .tostr x => match evX fr x with
    | some (.v (.slice _ 0 0)) => some (.ret (.v (.string (strOfNums []))), st)
    | some (.sl cs n _) => match bytesOf cs with
      | some xs => if xs.length = n then some (.ret (.v (.string (strOfNums xs))), st) else none
      | none => none
    | _ => none
  | .s2ap n x => match evX fr x with
    | some (.sl cs m _) => if n ≤ m then some (.ret (.ep cs 0), st) else none
    | _ => none
  | .mkifc t x => match evX fr x with
    | some a => some (.ret (.ifc t a), st)
    | none => none
  | .mkfn f caps => (evXs fr caps).map fun l => (.ret (.fn f l), st)
  | .mkslice z bytes l c => match (evX fr l).bind asNum, (evX fr c).bind asNum with
    | some n, some m => if 0 ≤ n ∧ n ≤ m ∧ m * bytes ≤ most47 ∧ m ≤ maxLen then
        some (.ret (.hs st.H.length 0 n.toNat z.length), { st with H := st.H ++ [{ cells := repeatL z m.toNat, fz := false }] }) else none
    | _, _ => none
  | .slice sz x lo hi => match evX fr x with
    | some a => (opSlice fr sz lo hi a).map fun y => (.ret y, st)
    | none => none
  | .arrslice n sz x lo hi => match evX fr x with
    | some (.ptr b off) => match st.H[b]?, bnd fr n hi n with
      | some hb, some h => match bnd fr 0 lo h with
        | some l => if off + n * sz ≤ hb.cells.length then
            match cleanL ((hb.cells.drop (off + l * sz)).take ((h - l) * sz)) with
            | some cs => some (.ret (.sl cs (h - l) .ro), st.freeze b hb)
            | none => none
          else none
        | none => none
      | _, _ => none
    | _ => none
  | .faddr off x => match evX fr x with
    | some (.ptr b o) => some (.ret (.ptr b (o + off)), st)
    | some (.ep cs o) => some (.ret (.ep cs (o + off)), st)
    | _ => none
  | .field off k x => match evX fr x with
    | some (.agg cs) => (partOf cs off k).map fun y => (.ret y, st)
    | _ => none
  | .iaddr sz arr x i => match evX fr x, (evX fr i).bind asNum with
    | some a, some j => (match arr, a with
      | none, .sl cs n _ => if 0 ≤ j ∧ j < n then some (.ret (.ep cs (j.toNat * sz)), st) else none
      | none, .hs b q n _ => if 0 ≤ j ∧ j < n then some (.ret (.ptr b (q + j.toNat * sz)), st) else none
      | some n, .ptr b o => if 0 ≤ j ∧ j < n then some (.ret (.ptr b (o + j.toNat * sz)), st) else none
      | some n, .ep cs o => if 0 ≤ j ∧ j < n then some (.ret (.ep cs (o + j.toNat * sz)), st) else none
      | _, _ => none)
    | _, _ => none
  | .index n sz k x i => match evX fr x, (evX fr i).bind asNum with
    | some (.agg cs), some j => if 0 ≤ j ∧ j < n then (partOf cs (j.toNat * sz) k).map fun y => (.ret y, st) else none
    | _, _ => none
  | .extract x i => match evX fr x with
    | some (.tup vs) => (vs[i]?).map fun y => (.ret y, st)
    | _ => none
  | .call f args => match evX fr f, evXs fr args with
    | some (.fn g caps), some l => match C g (l ++ caps) st with
      | some (.ret a, st1) => some (.ret a, st1)
      | some (.pan a, st1) => some (.pan a, st1)
      | none => none
    | _, _ => none
  | .append sz bytes s x => match evX fr s, evX fr x with
    | some a, some b => (opAppend st sz bytes a b).map fun p => (.ret p.1, p.2)
    | _, _ => none
  | .len x => match evX fr x with
    | some (.sl _ n _) => some (.ret (.v (.int .i64 n)), st)
    | some (.hs _ _ n _) => some (.ret (.v (.int .i64 n)), st)
    | some (.v (.slice _ 0 0)) => some (.ret (.v (.int .i64 0)), st)
    | _ => none
  | .minmax mx x y => match evX fr x, evX fr y with
    | some (.v (.int k a)), some (.v (.int k' b)) => if k = k' then some (.ret (.v (.int k (if mx then (if b > a then b else a) else (if b < a then b else a)))), st) else none
    | _, _ => none
  | .tassert t ok z x => match evX fr x with
    | some (.ifc u y) => if u = t then some (.ret (if ok then .tup [y, .v (.bool true)] else y), st) else if ok then some (.ret (.tup [z, .v (.bool false)]), st) else none
    | _ => none
  | .panic x => match evX fr x with
    | some (.ifc t y) => some (.pan (.ifc t y), st)
    | _ => none
  | .defer f => match evX fr f with
    | some (.fn g caps) => some (.dfr g caps, st)
    | _ => none
  | .callF f args => match evX fr f, evXs fr args with
    | some (.fn g caps), some l => match C g (l ++ caps ++ fmks) st with
      | some (.ret a, st1) => some (.ret a, st1)
      | some (.pan a, st1) => some (.pan a, st1)
      | none => none
    | _, _ => none

def wants (fr : Fr) : Option (Nat × Bool) → Option Bool
  | none => some true
  | some (s, want) => match look fr.s s with
    | some (.v (.bool b)) => some (b == want)
    | some (.tup []) => some false
    | _ => none

def evOps (C : CallF) : List SO → Fr → St → Option Out
  | [], fr, st => some (.nx, fr, st)
  | o :: r, fr, st => match wants fr o.g with
    | none => none
    | some false => evOps C r (fr.put o.dst und) st
    | some true => match evOp C fr st o.op with
      | none => none
      | some (.ret a, st1) => evOps C r (fr.put o.dst a) st1
      | some (.pan a, st1) => some (.pn a, fr, st1)
      | some (.dfr f caps, st1) => evOps C r { fr.put o.dst und with d := (f, caps) :: fr.d } st1

def stepS (C : CallF) (o : SO) (fr : Fr) (st : St) : Option (AV × St) :=
  match wants fr o.g with
  | none => none
  | some false => some (und, st)
  | some true => match evOp C fr st o.op with
    | some (.ret a, st1) => some (a, st1)
    | _ => none

/-- Which block an operation reads (true) or writes (false). -/
def touch (o : SO) (fr : Fr) : List (Bool × Nat) :=
  match wants fr o.g with
  | some true => match o.op with
    | .load _ x => (match evX fr x with
      | some (.ptr b _) => [(true, b)]
      | _ => [])
    | .store _ x _ => (match evX fr x with
      | some (.ptr b _) => [(false, b)]
      | _ => [])
    | _ => []
  | _ => []

def touched (C : CallF) : List SO → Fr → St → List (Bool × Nat)
  | [], _, _ => []
  | o :: r, fr, st => match stepS C o fr st with
    | some (a, st1) => touch o fr ++ touched C r (fr.put o.dst a) st1
    | none => []

def freeOk (l : List (Bool × Nat)) : Bool := l.all fun p => !p.1 || l.all fun q => q.1 || p.2 != q.2

def onlyL (l : List (Nat × AV)) : List Nat → List (Nat × AV)
  | [] => []
  | k :: r => match look l k with
    | some a => (k, a) :: onlyL l r
    | none => onlyL l r

def Fr.only (fr : Fr) (ks : List Nat) : Fr := { fr with s := onlyL fr.s ks }

/-- The evaluator, with fuel. Between two pieces of code, and at a loop's head, all but the named slots are forgotten. -/
def run (T : FuncId → Option SFn) : Nat → SCode → Fr → St → Option Out
  | 0, _, _, _ => none
  | n + 1, c, fr, st => match c with
    | .skip => some (.nx, fr, st)
    | .region ops draw => match evOps (callOf T (run T n)) ops fr st with
      | some (.nx, fr1, st1) => some (.nx, fr1, st1)
      | o => if draw then none else o
    | .regionF ops => match evOps (callOf T (run T n)) ops fr st with
      | some (.nx, fr1, st1) => if freeOk (touched (callOf T (run T n)) ops fr st) then some (.nx, fr1, st1) else none
      | _ => none
    | .seq ks a b => match run T n a fr st with
      | some (.nx, fr1, st1) => run T n b (fr1.only ks) st1
      | o => o
    | .cond x a b => match evX fr x with
      | some (.v (.bool true)) => run T n a fr st
      | some (.v (.bool false)) => run T n b fr st
      | _ => none
    | .block id c => match run T n c fr st with
      | some (.ex i, fr1, st1) => if i = id then some (.nx, fr1, st1) else some (.ex i, fr1, st1)
      | o => o
    | .loop ks c => match run T n c (fr.only ks) st with
      | some (.nx, fr1, st1) => run T n (.loop ks c) fr1 st1
      | o => o
    | .exit id => some (.ex id, fr, st)
    | .ret => some (.rt, fr, st)

end VS
end Go.Proofs.Ytkhekmmldnjenaa
/- What the abstract values say of the model's memory: the relation 'Rep' between an abstract value and a value of the model, the invariant of a state, and how both are carried from world to world. -/
namespace Go.Proofs.Ytkhekmmldnjenaa
namespace VS

/-- An abstract state held against a world: blocks of variables lie at 'hm', rows at 'rm' (block, how far it is filled); below 'B' nothing may be written; 'A': which ranges below 'B' may be read. -/
structure Sim where
  w : World
  hm : List Nat
  rm : List (Nat × Nat)
  st : St
  B : Nat
  A : Nat → Nat → Nat → Prop

/-- Cells that nobody will write. -/
def Sim.safe (S : Sim) (g lo k : Nat) : Prop :=
  (g < S.B → S.A g lo k) ∧ g < S.w.heap.size ∧
  (∀ b : Nat, S.hm[b]? = some g → ∃ hb : HB, S.st.H[b]? = some hb ∧ hb.fz = true) ∧
  (∀ r fl : Nat, S.rm[r]? = some (g, fl) → lo + k ≤ fl)

def atom : Value → Bool
  | .bool _ | .int _ _ | .string _ | .pointer none | .slice _ 0 0 | .nilFunc | .nilIface => true
  | _ => false

def AV.one : AV → Bool
  | .agg _ | .tup _ => false
  | _ => true

def tagOk (S : Sim) : Tag → (k n g off cap : Nat) → Prop
  | .full, _, n, _, _, cap => cap = n
  | .own r e, k, n, g, off, cap => ∃ e1 sz, S.st.F[r]? = some (e1, sz) ∧ e ≤ e1 ∧
      (e = e1 → (k = n * sz ∧ k ≤ e ∧ (k = e → off = 0)) ∧ (cap = 0 ∨ (S.rm[r]? = some (g, off + k) ∧ ∃ c ty, S.w.heap[g]? = some (.cells c ty (0, 0)) ∧ off + cap * sz ≤ c.size)))
  | _, _, _, _, _, _ => True

mutual
inductive Rep (S : Sim) : AV → Value → Prop where
  | v {x : Value} : atom x = true → Rep S (.v x) x
  | sl {cs : List AV} {n : Nat} {t : Tag} {g off cap : Nat} {ys : List Value} : n ≤ cap → cap ≤ maxLen → S.safe g off cs.length → RepL S cs ys →
      (∀ i y, ys[i]? = some y → S.w.cell? ⟨g, off + i, none⟩ = some y) → (∀ c ∈ cs, AV.one c = true) → (t ≠ .ptrs → ∀ c ∈ cs, clean1 c = some c) → tagOk S t cs.length n g off cap →
      Rep S (.sl cs n t) (.slice (some ⟨g, off, none⟩) n cap)
  | agg {cs : List AV} {ys : List Value} : RepL S cs ys → (∀ c ∈ cs, AV.one c = true) → Rep S (.agg cs) (.agg ys.toArray)
  | tup {cs : List AV} {ys : List Value} : RepL S cs ys → Rep S (.tup cs) (.tuple ys.toArray)
  | ptr {b off g : Nat} : S.hm[b]? = some g → Rep S (.ptr b off) (.pointer (some ⟨g, off, none⟩))
  | ep {cs : List AV} {off g o : Nat} {ys : List Value} : S.safe g o cs.length → RepL S cs ys → (∀ i y, ys[i]? = some y → S.w.cell? ⟨g, o + i, none⟩ = some y) → (∀ c ∈ cs, AV.one c = true) →
      Rep S (.ep cs off) (.pointer (some ⟨g, o + off, none⟩))
  | hs {b q n sz g p cap : Nat} {c : Array Value} {ty : TypeId} : S.hm[b]? = some g → n ≤ cap → cap ≤ maxLen → S.w.heap[g]? = some (.cells c ty (0, 0)) → ((p = q ∧ q + cap * sz ≤ c.size) ∨ (cap = 0 ∧ p ≤ q)) →
      Rep S (.hs b q n sz) (.slice (some ⟨g, p, none⟩) n cap)
  | fn {f : FuncId} {caps : List AV} {ys : List Value} : RepL S caps ys → Rep S (.fn f caps) (.func (.func f) #[] ys.toArray)
  | ifc {t : TypeId} {x : AV} {y : Value} : Rep S x y → Rep S (.ifc t x) (.iface t y)
inductive RepL (S : Sim) : List AV → List Value → Prop where
  | nil : RepL S [] []
  | cons {a : AV} {y : Value} {l : List AV} {m : List Value} : Rep S a y → RepL S l m → RepL S (a :: l) (y :: m)
end

theorem RepL.length {S : Sim} : ∀ {l : List AV} {m : List Value}, RepL S l m → m.length = l.length
  | _, _, .nil => rfl
  | _, _, .cons _ h => by simp [RepL.length h]

theorem RepL.get {S : Sim} : ∀ {l : List AV} {m : List Value}, RepL S l m → ∀ (i : Nat) (a : AV), l[i]? = some a → ∃ y, m[i]? = some y ∧ Rep S a y
  | _, _, .nil, i, a, h => by simp at h
  | _, _, .cons h1 h2, 0, a, h => by simp at h; subst h; exact ⟨_, rfl, h1⟩
  | _, _, .cons h1 h2, i + 1, a, h => by simpa using RepL.get h2 i a (by simpa using h)

theorem RepL.get' {S : Sim} : ∀ {l : List AV} {m : List Value}, RepL S l m → ∀ (i : Nat) (y : Value), m[i]? = some y → ∃ a, l[i]? = some a ∧ Rep S a y
  | _, _, .nil, i, a, h => by simp at h
  | _, _, .cons h1 h2, 0, a, h => by simp at h; subst h; exact ⟨_, rfl, h1⟩
  | _, _, .cons h1 h2, i + 1, a, h => by simpa using RepL.get' h2 i a (by simpa using h)

theorem RepL.of_get {S : Sim} : ∀ {l : List AV} {m : List Value}, m.length = l.length → (∀ (i : Nat) (a : AV) (y : Value), l[i]? = some a → m[i]? = some y → Rep S a y) → RepL S l m
  | [], [], _, _ => .nil
  | [], _ :: _, h, _ => by simp at h
  | _ :: _, [], h, _ => by simp at h
  | a :: l, y :: m, h, k => .cons (k 0 a y rfl rfl) (RepL.of_get (by simpa using h) fun i b z hb hz => k (i + 1) b z (by simpa using hb) (by simpa using hz))

theorem RepL.append {S : Sim} : ∀ {l : List AV} {m : List Value} {l' : List AV} {m' : List Value}, RepL S l m → RepL S l' m' → RepL S (l ++ l') (m ++ m')
  | _, _, _, _, .nil, h => h
  | _, _, _, _, .cons h1 h2, h => .cons h1 (RepL.append h2 h)

theorem RepL.take {S : Sim} : ∀ {l : List AV} {m : List Value} (k : Nat), RepL S l m → RepL S (l.take k) (m.take k)
  | _, _, 0, _ => by simp; exact .nil
  | _, _, _ + 1, .nil => by simp; exact .nil
  | _, _, k + 1, .cons h1 h2 => .cons h1 (RepL.take k h2)

theorem RepL.drop {S : Sim} : ∀ {l : List AV} {m : List Value} (k : Nat), RepL S l m → RepL S (l.drop k) (m.drop k)
  | _, _, 0, h => h
  | _, _, _ + 1, .nil => by simp; exact .nil
  | _, _, k + 1, .cons _ h2 => by simpa using RepL.drop k h2

theorem Rep.oneCell {S : Sim} {a : AV} {y : Value} (h : Rep S a y) (h1 : a.one = true) : y.oneCell' = true := by
  cases h <;> first | rfl | (simp [AV.one] at h1; done) | skip
  rename_i ha
  cases y <;> simp_all [atom, Value.oneCell']

theorem clean1_one {a b : AV} (h : clean1 a = some b) : a.one = true ∧ b.one = true := by
  cases a with
  | fn f caps => cases caps <;> simp only [clean1] at h <;> first | (cases h; done) | (simp only [Option.some.injEq] at h; subst h; exact ⟨rfl, rfl⟩)
  | sl cs n t =>
    simp only [clean1] at h
    split at h
    · cases h
    · simp only [Option.some.injEq] at h; subst h; exact ⟨rfl, rfl⟩
  | v x => simp only [clean1, Option.some.injEq] at h; subst h; exact ⟨rfl, rfl⟩
  | _ => simp [clean1] at h

/-- One state carried on to another: what was represented stays so. -/
structure Ext (S S' : Sim) : Prop where
  B : S'.B = S.B
  A : S'.A = S.A
  hm : ∀ (b g : Nat), S.hm[b]? = some g → S'.hm[b]? = some g
  safe : ∀ (g lo k : Nat), S.safe g lo k → S'.safe g lo k
  cell : ∀ (g lo k : Nat), S.safe g lo k → ∀ (i : Nat), i < k → S'.w.cell? ⟨g, lo + i, none⟩ = S.w.cell? ⟨g, lo + i, none⟩
  tag : ∀ (t : Tag) (k n g off cap : Nat), tagOk S t k n g off cap → tagOk S' t k n g off cap
  row : ∀ (b g : Nat) (c : Array Value) (ty : TypeId), S.hm[b]? = some g → S.w.heap[g]? = some (.cells c ty (0, 0)) → ∃ c', S'.w.heap[g]? = some (.cells c' ty (0, 0)) ∧ c'.size = c.size

theorem Ext.refl (S : Sim) : Ext S S := ⟨rfl, rfl, fun _ _ h => h, fun _ _ _ h => h, fun _ _ _ _ _ _ => rfl, fun _ _ _ _ _ _ h => h, fun _ _ c _ _ h => ⟨c, h, rfl⟩⟩

theorem Ext.trans {S S1 S2 : Sim} (h : Ext S S1) (k : Ext S1 S2) : Ext S S2 :=
  ⟨k.B.trans h.B, k.A.trans h.A, fun b g hb => k.hm b g (h.hm b g hb), fun g lo n hs => k.safe g lo n (h.safe g lo n hs),
    fun g lo n hs i hi => (k.cell g lo n (h.safe g lo n hs) i hi).trans (h.cell g lo n hs i hi), fun t a b c d e ht => k.tag t a b c d e (h.tag t a b c d e ht),
    fun b g c ty hb hc => by
      obtain ⟨c1, h1, h2⟩ := h.row b g c ty hb hc
      obtain ⟨c2, h3, h4⟩ := k.row b g c1 ty (h.hm b g hb) h1
      exact ⟨c2, h3, h4.trans h2⟩⟩

mutual
theorem Rep.ext {S S' : Sim} (E : Ext S S') : ∀ {a : AV} {y : Value}, Rep S a y → Rep S' a y
  | _, _, .v h => .v h
  | _, _, .sl h1 h2 hs hl hc ho hk ht => .sl h1 h2 (E.safe _ _ _ hs) (RepL.ext E hl)
      (fun i y hy => (E.cell _ _ _ hs i (by rw [← hl.length]; exact (List.getElem?_eq_some_iff.1 hy).1)).trans (hc i y hy)) ho hk (E.tag _ _ _ _ _ _ ht)
  | _, _, .agg hl ho => .agg (RepL.ext E hl) ho
  | _, _, .tup hl => .tup (RepL.ext E hl)
  | _, _, .ptr h => .ptr (E.hm _ _ h)
  | _, _, .ep hs hl hc ho => .ep (E.safe _ _ _ hs) (RepL.ext E hl)
      (fun i y hy => (E.cell _ _ _ hs i (by rw [← hl.length]; exact (List.getElem?_eq_some_iff.1 hy).1)).trans (hc i y hy)) ho
  | _, _, .hs hb h1 h2 hc hz => by
      obtain ⟨c', h3, h4⟩ := E.row _ _ _ _ hb hc
      exact .hs (E.hm _ _ hb) h1 h2 h3 (by rw [h4]; exact hz)
  | _, _, .fn hl => .fn (RepL.ext E hl)
  | _, _, .ifc h => .ifc (Rep.ext E h)
theorem RepL.ext {S S' : Sim} (E : Ext S S') : ∀ {l : List AV} {m : List Value}, RepL S l m → RepL S' l m
  | _, _, .nil => .nil
  | _, _, .cons h1 h2 => .cons (Rep.ext E h1) (RepL.ext E h2)
end

/-- The invariant. -/
structure Inv (S : Sim) : Prop where
  hB : S.B ≤ S.w.heap.size
  hl : S.hm.length = S.st.H.length
  rl : S.rm.length = S.st.F.length
  blk : ∀ (b g : Nat), S.hm[b]? = some g → S.B ≤ g ∧ ∃ hb c ty, S.st.H[b]? = some hb ∧ S.w.heap[g]? = some (.cells c ty (0, 0)) ∧ hb.cells.length ≤ c.size ∧
      RepL S hb.cells (c.toList.take hb.cells.length) ∧ ∀ x ∈ hb.cells, x.one = true
  rowb : ∀ (r g fl : Nat), S.rm[r]? = some (g, fl) → S.B ≤ g ∧ ∃ c ty, S.w.heap[g]? = some (.cells c ty (0, 0)) ∧ fl ≤ c.size
  dist : ∀ (b b' g : Nat), S.hm[b]? = some g → S.hm[b']? = some g → b = b'
  distr : ∀ (r r' g fl fl' : Nat), S.rm[r]? = some (g, fl) → S.rm[r']? = some (g, fl') → r = r'
  disj : ∀ (b r g fl : Nat), S.hm[b]? = some g → S.rm[r]? = some (g, fl) → ∃ hb : HB, S.st.H[b]? = some hb ∧ hb.fz = true ∧ hb.cells.length ≤ fl
  acl : ∀ (g lo k lo' k' : Nat), S.A g lo k → lo ≤ lo' → lo' + k' ≤ lo + k → S.A g lo' k'

theorem Sim.safe.sub {S : Sim} (I : Inv S) {g lo k lo' k' : Nat} (h : S.safe g lo k) (h1 : lo ≤ lo') (h2 : lo' + k' ≤ lo + k) : S.safe g lo' k' :=
  ⟨fun hb => I.acl _ _ _ _ _ (h.1 hb) h1 h2, h.2.1, h.2.2.1, fun r fl hr => Nat.le_trans h2 (h.2.2.2 r fl hr)⟩

/-- The state as it stands, in another world. -/
def Sim.at (S : Sim) (w : World) : Sim := { S with w := w }

/-- Old blocks as they were. -/
def Keeps (w w' : World) : Prop := w.heap.size ≤ w'.heap.size ∧ ∀ k, k < w.heap.size → w'.heap[k]? = w.heap[k]?

theorem Keeps.refl (w : World) : Keeps w w := ⟨Nat.le_refl _, fun _ _ => rfl⟩
theorem Keeps.trans {a b c : World} (h : Keeps a b) (k : Keeps b c) : Keeps a c :=
  ⟨Nat.le_trans h.1 k.1, fun i hi => (k.2 i (Nat.lt_of_lt_of_le hi h.1)).trans (h.2 i hi)⟩
theorem Keeps.alloc (w : World) (o : Obj) : Keeps w (w.alloc o) := ⟨by simp, fun k hk => RowKit.Below.heap_alloc w o k hk⟩
theorem Keeps.drew (w : World) : Keeps w w.drew := ⟨Nat.le_refl _, fun _ _ => rfl⟩
theorem Keeps.below {w w' : World} (h : RowKit.Below w.heap.size w w') : Keeps w w' := ⟨h.size, h.block⟩

theorem Keeps.cell {w w' : World} (h : Keeps w w') {g i : Nat} (hg : g < w.heap.size) : w'.cell? ⟨g, i, none⟩ = w.cell? ⟨g, i, none⟩ :=
  World.cell?_of_block (h.2 g hg)

theorem heap_lt {w : World} {g : Nat} {o : Obj} (h : w.heap[g]? = some o) : g < w.heap.size := (Array.getElem?_eq_some_iff.1 h).1

/-- New blocks of memory, some of them taken up as blocks of variables or as rows. -/
theorem Ext.grow {S : Sim} {w' : World} (hk : Keeps S.w w') {h2 : List Nat} {H2 : List HB} {r2 : List (Nat × Nat)} {F2 : List (Nat × Nat)}
    (hh : ∀ g ∈ h2, S.w.heap.size ≤ g) (hr : ∀ p ∈ r2, S.w.heap.size ≤ p.1) :
    Ext S { S with w := w', hm := S.hm ++ h2, rm := S.rm ++ r2, st := { H := S.st.H ++ H2, F := S.st.F ++ F2 } } := by
  refine ⟨rfl, rfl, fun b g hb => ?_, fun g lo k hs => ?_, fun g lo k hs i _ => hk.cell hs.2.1, fun t k n g off cap ht => ?_, fun b g c ty hb hc => ⟨c, ?_, rfl⟩⟩
  · show (S.hm ++ h2)[b]? = some g
    rw [List.getElem?_append_left (List.getElem?_eq_some_iff.1 hb).1]; exact hb
  · refine ⟨hs.1, Nat.lt_of_lt_of_le hs.2.1 hk.1, fun b hb => ?_, fun r fl hr' => ?_⟩
    · change (S.hm ++ h2)[b]? = some g at hb
      rcases Nat.lt_or_ge b S.hm.length with h | h
      · rw [List.getElem?_append_left h] at hb
        obtain ⟨x, hx, hf⟩ := hs.2.2.1 b hb
        exact ⟨x, by show (S.st.H ++ H2)[b]? = some x; rw [List.getElem?_append_left (List.getElem?_eq_some_iff.1 hx).1]; exact hx, hf⟩
      · rw [List.getElem?_append_right h] at hb
        have := hh g (List.mem_of_getElem? hb)
        have := hs.2.1
        omega
    · change (S.rm ++ r2)[r]? = some (g, fl) at hr'
      rcases Nat.lt_or_ge r S.rm.length with h | h
      · rw [List.getElem?_append_left h] at hr'
        exact hs.2.2.2 r fl hr'
      · rw [List.getElem?_append_right h] at hr'
        have := hr (g, fl) (List.mem_of_getElem? hr')
        have := hs.2.1
        simp only at *
        omega
  · cases t with
    | own r e =>
      obtain ⟨e1, sz, hF, hle, hx⟩ := ht
      refine ⟨e1, sz, by show (S.st.F ++ F2)[r]? = _; rw [List.getElem?_append_left (List.getElem?_eq_some_iff.1 hF).1]; exact hF, hle, fun he => ?_⟩
      obtain ⟨h1, h2'⟩ := hx he
      refine ⟨h1, h2'.imp id ?_⟩
      rintro ⟨h3, c, ty, h4, h5⟩
      exact ⟨by show (S.rm ++ r2)[r]? = _; rw [List.getElem?_append_left (List.getElem?_eq_some_iff.1 h3).1]; exact h3, c, ty, by rw [hk.2 g (heap_lt h4)]; exact h4, h5⟩
    | full => exact ht
    | ro => trivial
    | ptrs => trivial
  · rw [hk.2 g (heap_lt hc)]; exact hc

/-- A new world alone. -/
theorem Ext.keeps {S : Sim} {w' : World} (hk : Keeps S.w w') : Ext S (S.at w') := by
  have := Ext.grow hk (h2 := []) (H2 := []) (r2 := []) (F2 := []) (by simp) (by simp)
  simpa [Sim.at] using this

theorem Inv.grow {S : Sim} (I : Inv S) {w' : World} (hk : Keeps S.w w') {h2 : List Nat} {H2 : List HB} {r2 : List (Nat × Nat)} {F2 : List (Nat × Nat)}
    (hh : ∀ g ∈ h2, S.w.heap.size ≤ g) (hr : ∀ p ∈ r2, S.w.heap.size ≤ p.1) (hlen : h2.length = H2.length) (rlen : r2.length = F2.length)
    (hnd : h2.Nodup) (hrnd : (r2.map (·.1)).Nodup) (hdis : ∀ g ∈ h2, ∀ p ∈ r2, p.1 ≠ g)
    (hblk : ∀ (j g : Nat), h2[j]? = some g → ∃ hb c ty, H2[j]? = some hb ∧ w'.heap[g]? = some (.cells c ty (0, 0)) ∧ hb.cells.length ≤ c.size ∧
      RepL { S with w := w', hm := S.hm ++ h2, rm := S.rm ++ r2, st := { H := S.st.H ++ H2, F := S.st.F ++ F2 } } hb.cells (c.toList.take hb.cells.length) ∧ ∀ x ∈ hb.cells, x.one = true)
    (hrow : ∀ p ∈ r2, ∃ c ty, w'.heap[p.1]? = some (.cells c ty (0, 0)) ∧ p.2 ≤ c.size) :
    Inv { S with w := w', hm := S.hm ++ h2, rm := S.rm ++ r2, st := { H := S.st.H ++ H2, F := S.st.F ++ F2 } } := by
  have E := Ext.grow hk (h2 := h2) (H2 := H2) (r2 := r2) (F2 := F2) hh hr
  have hltb : ∀ b g, S.hm[b]? = some g → g < S.w.heap.size := fun b g hb => by
    obtain ⟨_, hb', c, ty, _, hc, _⟩ := I.blk b g hb
    exact heap_lt hc
  have hltr : ∀ r g fl, S.rm[r]? = some (g, fl) → g < S.w.heap.size := fun r g fl hb => by
    obtain ⟨_, c, ty, hc, _⟩ := I.rowb r g fl hb
    exact heap_lt hc
  refine ⟨Nat.le_trans I.hB hk.1, by simp [I.hl, hlen], by simp [I.rl, rlen], fun b g hb => ?_, fun r g fl hr' => ?_, fun b b' g hb hb' => ?_, fun r r' g fl fl' h1 h2' => ?_, fun b r g fl hb hr' => ?_, I.acl⟩
  · change (S.hm ++ h2)[b]? = some g at hb
    rcases Nat.lt_or_ge b S.hm.length with h | h
    · rw [List.getElem?_append_left h] at hb
      obtain ⟨h1, x, c, ty, hx, hc, hle, hl, ho⟩ := I.blk b g hb
      exact ⟨h1, x, c, ty, by show (S.st.H ++ H2)[b]? = some x; rw [List.getElem?_append_left (List.getElem?_eq_some_iff.1 hx).1]; exact hx, by rw [hk.2 g (heap_lt hc)]; exact hc, hle, RepL.ext E hl, ho⟩
    · rw [List.getElem?_append_right h] at hb
      obtain ⟨x, c, ty, hx, hc, hle, hl, ho⟩ := hblk _ g hb
      refine ⟨Nat.le_trans I.hB (hh g (List.mem_of_getElem? hb)), x, c, ty, ?_, hc, hle, hl, ho⟩
      show (S.st.H ++ H2)[b]? = some x
      rw [List.getElem?_append_right (by rw [← I.hl]; exact h), ← I.hl]; exact hx
  · change (S.rm ++ r2)[r]? = some (g, fl) at hr'
    rcases Nat.lt_or_ge r S.rm.length with h | h
    · rw [List.getElem?_append_left h] at hr'
      obtain ⟨h1, c, ty, hc, hle⟩ := I.rowb r g fl hr'
      exact ⟨h1, c, ty, by rw [hk.2 g (heap_lt hc)]; exact hc, hle⟩
    · rw [List.getElem?_append_right h] at hr'
      have hm := List.mem_of_getElem? hr'
      exact ⟨Nat.le_trans I.hB (hr _ hm), hrow _ hm⟩
  · change (S.hm ++ h2)[b]? = some g at hb
    change (S.hm ++ h2)[b']? = some g at hb'
    rcases Nat.lt_or_ge b S.hm.length with h | h <;> rcases Nat.lt_or_ge b' S.hm.length with h' | h'
    · rw [List.getElem?_append_left h] at hb; rw [List.getElem?_append_left h'] at hb'; exact I.dist b b' g hb hb'
    · rw [List.getElem?_append_left h] at hb; rw [List.getElem?_append_right h'] at hb'
      have := hltb b g hb; have := hh g (List.mem_of_getElem? hb'); omega
    · rw [List.getElem?_append_right h] at hb; rw [List.getElem?_append_left h'] at hb'
      have := hltb b' g hb'; have := hh g (List.mem_of_getElem? hb); omega
    · rw [List.getElem?_append_right h] at hb; rw [List.getElem?_append_right h'] at hb'
      have := (List.getElem?_inj (List.getElem?_eq_some_iff.1 hb).1 hnd).1 (hb.trans hb'.symm)
      omega
  · change (S.rm ++ r2)[r]? = some (g, fl) at h1
    change (S.rm ++ r2)[r']? = some (g, fl') at h2'
    rcases Nat.lt_or_ge r S.rm.length with h | h <;> rcases Nat.lt_or_ge r' S.rm.length with h' | h'
    · rw [List.getElem?_append_left h] at h1; rw [List.getElem?_append_left h'] at h2'; exact I.distr r r' g fl fl' h1 h2'
    · rw [List.getElem?_append_left h] at h1; rw [List.getElem?_append_right h'] at h2'
      have := hltr r g fl h1; have := hr _ (List.mem_of_getElem? h2'); simp only at this; omega
    · rw [List.getElem?_append_right h] at h1; rw [List.getElem?_append_left h'] at h2'
      have := hltr r' g fl' h2'; have := hr _ (List.mem_of_getElem? h1); simp only at this; omega
    · rw [List.getElem?_append_right h] at h1; rw [List.getElem?_append_right h'] at h2'
      have a1 : (r2.map (·.1))[r - S.rm.length]? = some g := by simp [h1]
      have a2 : (r2.map (·.1))[r' - S.rm.length]? = some g := by simp [h2']
      have := (List.getElem?_inj (List.getElem?_eq_some_iff.1 a1).1 hrnd).1 (a1.trans a2.symm)
      omega
  · change (S.hm ++ h2)[b]? = some g at hb
    change (S.rm ++ r2)[r]? = some (g, fl) at hr'
    rcases Nat.lt_or_ge b S.hm.length with h | h <;> rcases Nat.lt_or_ge r S.rm.length with h' | h'
    · rw [List.getElem?_append_left h] at hb; rw [List.getElem?_append_left h'] at hr'
      obtain ⟨x, hx, hx2⟩ := I.disj b r g fl hb hr'
      exact ⟨x, by show (S.st.H ++ H2)[b]? = some x; rw [List.getElem?_append_left (List.getElem?_eq_some_iff.1 hx).1]; exact hx, hx2⟩
    · rw [List.getElem?_append_left h] at hb; rw [List.getElem?_append_right h'] at hr'
      have := hltb b g hb; have := hr _ (List.mem_of_getElem? hr'); simp only at this; omega
    · rw [List.getElem?_append_right h] at hb; rw [List.getElem?_append_left h'] at hr'
      have := hltr r g fl hr'; have := hh g (List.mem_of_getElem? hb); omega
    · rw [List.getElem?_append_right h] at hb; rw [List.getElem?_append_right h'] at hr'
      exact (hdis g (List.mem_of_getElem? hb) _ (List.mem_of_getElem? hr') rfl).elim

theorem Inv.keeps {S : Sim} (I : Inv S) {w' : World} (hk : Keeps S.w w') : Inv (S.at w') := by
  have := Inv.grow I hk (h2 := []) (H2 := []) (r2 := []) (F2 := []) (by simp) (by simp) rfl rfl (by simp) (by simp) (by simp) (by simp) (by simp)
  simpa [Sim.at] using this

end VS
end Go.Proofs.Ytkhekmmldnjenaa
/- The steps of a state: a block is frozen, a variable is written, a row is appended to (in its place, or in a new one): the invariant stands, and what was represented stays so. -/
namespace Go.Proofs.Ytkhekmmldnjenaa
namespace VS

theorem getElem?_set_cases {α : Type} {l : List α} {i j : Nat} {a x : α} (h : (l.set i a)[j]? = some x) : (j = i ∧ x = a) ∨ (j ≠ i ∧ l[j]? = some x) := by
  rw [List.getElem?_set] at h
  split at h
  · split at h
    · simp only [Option.some.injEq] at h; exact .inl ⟨by omega, h.symm⟩
    · cases h
  · exact .inr ⟨by omega, h⟩

theorem getElem?_set_ne' {α : Type} {l : List α} {i j : Nat} {a : α} (h : j ≠ i) : (l.set i a)[j]? = l[j]? := by
  rw [List.getElem?_set, if_neg (by omega)]

/-- One block is changed, and what is noted of it. -/
theorem Ext.block {S : Sim} (I : Inv S) {w' : World} {b g : Nat} {hb hb' : HB} {c c' : Array Value} {ty : TypeId} (hg : S.hm[b]? = some g) (hH : S.st.H[b]? = some hb)
    (hc : S.w.heap[g]? = some (.cells c ty (0, 0))) (hc' : w'.heap[g]? = some (.cells c' ty (0, 0))) (hsz : c'.size = c.size) (hs : w'.heap.size = S.w.heap.size)
    (ho : ∀ k, k ≠ g → w'.heap[k]? = S.w.heap[k]?) (hfz : hb.fz = true → hb'.fz = true ∧ c' = c ∧ hb'.cells.length = hb.cells.length) :
    Ext S { S with w := w', st := { S.st with H := S.st.H.set b hb' } } := by
  refine ⟨rfl, rfl, fun _ _ h => h, fun g1 lo k h => ?_, fun g1 lo k h i hi => ?_, fun t k n g1 off cap ht => ?_, fun b1 g1 c1 ty1 hb1 hc1 => ?_⟩
  · refine ⟨h.1, by show g1 < w'.heap.size; rw [hs]; exact h.2.1, fun b1 hb1 => ?_, h.2.2.2⟩
    obtain ⟨x, hx, hf⟩ := h.2.2.1 b1 hb1
    by_cases he : b1 = b
    · subst he
      rw [hH] at hx; cases hx
      exact ⟨hb', by show (S.st.H.set b1 hb')[b1]? = _; rw [List.getElem?_set_self (List.getElem?_eq_some_iff.1 hH).1], (hfz hf).1⟩
    · exact ⟨x, by show (S.st.H.set b hb')[b1]? = _; rw [getElem?_set_ne' he]; exact hx, hf⟩
  · by_cases he : g1 = g
    · subst he
      obtain ⟨x, hx, hf⟩ := h.2.2.1 b hg
      rw [hH] at hx; cases hx
      rw [(hfz hf).2.1] at hc'
      exact World.cell?_of_block (by rw [hc', hc])
    · exact World.cell?_of_block (ho g1 he)
  · cases t with
    | own r e =>
      obtain ⟨e1, sz, hF, hle, hx⟩ := ht
      refine ⟨e1, sz, hF, hle, fun he => ?_⟩
      obtain ⟨h1, h2⟩ := hx he
      refine ⟨h1, h2.imp id ?_⟩
      rintro ⟨h3, c1, ty1, h4, h5⟩
      refine ⟨h3, c1, ty1, ?_, h5⟩
      by_cases he : g1 = g
      · subst he
        obtain ⟨x, hx, hf, _⟩ := I.disj b r g1 _ hg h3
        rw [hH] at hx; cases hx
        rw [(hfz hf).2.1] at hc'
        show w'.heap[g1]? = _
        rw [hc', ← hc]; exact h4
      · show w'.heap[g1]? = _
        rw [ho g1 he]; exact h4
    | full => exact ht
    | ro => trivial
    | ptrs => trivial
  · by_cases he : g1 = g
    · subst he
      rw [hc] at hc1; cases hc1
      exact ⟨c', hc', hsz⟩
    · exact ⟨c1, by rw [ho g1 he]; exact hc1, rfl⟩

theorem Inv.block {S : Sim} (I : Inv S) {w' : World} {b g : Nat} {hb hb' : HB} {c c' : Array Value} {ty : TypeId} (hg : S.hm[b]? = some g) (hH : S.st.H[b]? = some hb)
    (hc : S.w.heap[g]? = some (.cells c ty (0, 0))) (hc' : w'.heap[g]? = some (.cells c' ty (0, 0))) (hsz : c'.size = c.size) (hs : w'.heap.size = S.w.heap.size)
    (ho : ∀ k, k ≠ g → w'.heap[k]? = S.w.heap[k]?) (hfz : hb.fz = true → hb'.fz = true ∧ c' = c ∧ hb'.cells.length = hb.cells.length)
    (hle : hb'.cells.length ≤ c'.size) (hl : RepL S hb'.cells (c'.toList.take hb'.cells.length)) (h1 : ∀ x ∈ hb'.cells, x.one = true) :
    Inv { S with w := w', st := { S.st with H := S.st.H.set b hb' } } := by
  have E := Ext.block I (hb' := hb') hg hH hc hc' hsz hs ho hfz
  refine ⟨by show S.B ≤ w'.heap.size; rw [hs]; exact I.hB, by simp [I.hl], I.rl, fun b1 g1 hb1 => ?_, fun r g1 fl hr => ?_, I.dist, I.distr, fun b1 r g1 fl hb1 hr => ?_, I.acl⟩
  · obtain ⟨h2, x, c1, ty1, hx, hc1, hle1, hl1, ho1⟩ := I.blk b1 g1 hb1
    refine ⟨h2, ?_⟩
    by_cases he : b1 = b
    · subst he
      change S.hm[b1]? = some g1 at hb1
      rw [hg] at hb1; cases hb1
      exact ⟨hb', c', ty, by show (S.st.H.set b1 hb')[b1]? = _; rw [List.getElem?_set_self (List.getElem?_eq_some_iff.1 hH).1], hc', hle, RepL.ext E hl, h1⟩
    · refine ⟨x, c1, ty1, by show (S.st.H.set b hb')[b1]? = _; rw [getElem?_set_ne' he]; exact hx, ?_, hle1, RepL.ext E hl1, ho1⟩
      show w'.heap[g1]? = _
      rw [ho g1 (fun h => he (I.dist b1 b g (h ▸ hb1) hg))]; exact hc1
  · obtain ⟨h2, c1, ty1, hc1, hle1⟩ := I.rowb r g1 fl hr
    refine ⟨h2, c1, ty1, ?_, hle1⟩
    show w'.heap[g1]? = _
    by_cases he : g1 = g
    · subst he
      obtain ⟨x, hx, hf, _⟩ := I.disj b r g1 _ hg hr
      rw [hH] at hx; cases hx
      rw [(hfz hf).2.1] at hc'
      rw [hc', ← hc]; exact hc1
    · rw [ho g1 he]; exact hc1
  · obtain ⟨x, hx, hf, hle1⟩ := I.disj b1 r g1 fl hb1 hr
    by_cases he : b1 = b
    · subst he
      rw [hH] at hx; cases hx
      exact ⟨hb', by show (S.st.H.set b1 hb')[b1]? = _; rw [List.getElem?_set_self (List.getElem?_eq_some_iff.1 hH).1], (hfz hf).1, by rw [(hfz hf).2.2]; exact hle1⟩
    · exact ⟨x, by show (S.st.H.set b hb')[b1]? = _; rw [getElem?_set_ne' he]; exact hx, hf, hle1⟩

theorem Inv.hm_of {S : Sim} (I : Inv S) {b : Nat} {hb : HB} (hH : S.st.H[b]? = some hb) : ∃ g c ty, S.hm[b]? = some g ∧ S.w.heap[g]? = some (.cells c ty (0, 0)) ∧ hb.cells.length ≤ c.size ∧
    RepL S hb.cells (c.toList.take hb.cells.length) ∧ (∀ x ∈ hb.cells, x.one = true) ∧ S.B ≤ g := by
  have hlt : b < S.hm.length := by rw [I.hl]; exact (List.getElem?_eq_some_iff.1 hH).1
  have hg : S.hm[b]? = some S.hm[b] := by simp [hlt]
  obtain ⟨h1, x, c, ty, hx, hc, hle, hl, ho⟩ := I.blk b _ hg
  rw [hH] at hx; cases hx
  exact ⟨_, c, ty, hg, hc, hle, hl, ho, h1⟩

def Sim.frz (S : Sim) (b : Nat) (hb : HB) : Sim := { S with st := S.st.freeze b hb }

theorem freeze_ok {S : Sim} (I : Inv S) {b : Nat} {hb : HB} (hH : S.st.H[b]? = some hb) : Ext S (S.frz b hb) ∧ Inv (S.frz b hb) := by
  obtain ⟨g, c, ty, hg, hc, hle, hl, ho, _⟩ := I.hm_of hH
  have E := Ext.block I (w' := S.w) (hb' := { hb with fz := true }) hg hH hc hc rfl rfl (fun _ _ => rfl) (fun _ => ⟨rfl, rfl, rfl⟩)
  have J := Inv.block I (w' := S.w) (hb' := { hb with fz := true }) hg hH hc hc rfl rfl (fun _ _ => rfl) (fun _ => ⟨rfl, rfl, rfl⟩) hle hl ho
  exact ⟨E, J⟩

/-- A frozen block's cells are safe. -/
theorem safe_frz {S : Sim} (I : Inv S) {b g : Nat} {hb : HB} (hH : S.st.H[b]? = some hb) (hg : S.hm[b]? = some g) (lo k : Nat) (hfit : lo + k ≤ hb.cells.length) : (S.frz b hb).safe g lo k := by
  obtain ⟨g', c, ty, hg', hc, _, _, _, hB⟩ := I.hm_of hH
  rw [hg] at hg'; cases hg'
  refine ⟨fun h => absurd h (Nat.not_lt.2 hB), heap_lt hc, fun b1 hb1 => ?_, fun r fl hr => ?_⟩
  rotate_left
  · obtain ⟨x, hx, _, hle⟩ := I.disj b r g fl hg hr
    rw [hH] at hx; cases hx
    omega
  have : b1 = b := I.dist b1 b g hb1 hg
  subst this
  exact ⟨{ hb with fz := true }, by show (S.st.H.set b1 { hb with fz := true })[b1]? = _; rw [List.getElem?_set_self (List.getElem?_eq_some_iff.1 hH).1], rfl⟩

/-- A row's new place and its new virtual end. -/
def Sim.row (S : Sim) (w' : World) (r : Nat) (p : Nat × Nat) (f : Nat × Nat) : Sim := { S with w := w', rm := S.rm.set r p, st := { S.st with F := S.st.F.set r f } }

/-- Appended in its place. -/
theorem row_place {S : Sim} (I : Inv S) {w' : World} {r g fl e sz k : Nat} {c c' : Array Value} {ty : TypeId} (hr : S.rm[r]? = some (g, fl)) (hF : S.st.F[r]? = some (e, sz))
    (hc : S.w.heap[g]? = some (.cells c ty (0, 0))) (hc' : w'.heap[g]? = some (.cells c' ty (0, 0))) (hsz : c'.size = c.size) (hs : w'.heap.size = S.w.heap.size)
    (ho : ∀ k, k ≠ g → w'.heap[k]? = S.w.heap[k]?) (hk : 0 < k) (hfit : fl + k ≤ c.size) (hold : ∀ i, i < fl → c'[i]? = c[i]?) :
    Ext S (S.row w' r (g, fl + k) (e + k, sz)) ∧ Inv (S.row w' r (g, fl + k) (e + k, sz)) := by
  have hrl := (List.getElem?_eq_some_iff.1 hr).1
  have hFl := (List.getElem?_eq_some_iff.1 hF).1
  have E : Ext S (S.row w' r (g, fl + k) (e + k, sz)) := by
    refine ⟨rfl, rfl, fun _ _ h => h, fun g1 lo j h => ?_, fun g1 lo j h i hi => ?_, fun t j n g1 off cap ht => ?_, fun b1 g1 c1 ty1 hb1 hc1 => ?_⟩
    · refine ⟨h.1, by show g1 < w'.heap.size; rw [hs]; exact h.2.1, h.2.2.1, fun r1 fl1 hr1 => ?_⟩
      rcases getElem?_set_cases hr1 with ⟨rfl, he⟩ | ⟨hne, hr1⟩
      · cases he
        have := h.2.2.2 r1 fl hr
        omega
      · exact h.2.2.2 r1 fl1 hr1
    · by_cases he : g1 = g
      · subst he
        have := h.2.2.2 r fl hr
        show w'.cell? _ = _
        rw [cell_of_row w' g1 (lo + i) c' ty (0, 0) hc', cell_of_row S.w g1 (lo + i) c ty (0, 0) hc]
        exact hold _ (by omega)
      · exact World.cell?_of_block (ho g1 he)
    · cases t with
      | own r1 e1 =>
        obtain ⟨e2, sz2, hF2, hle, hx⟩ := ht
        by_cases her : r1 = r
        · subst her
          rw [hF] at hF2; cases hF2
          exact ⟨e + k, sz, by show (S.st.F.set r1 (e + k, sz))[r1]? = _; rw [List.getElem?_set_self hFl], by omega, fun he => by omega⟩
        · refine ⟨e2, sz2, by show (S.st.F.set r (e + k, sz))[r1]? = _; rw [getElem?_set_ne' her]; exact hF2, hle, fun he => ?_⟩
          obtain ⟨h1, h2⟩ := hx he
          refine ⟨h1, h2.imp id ?_⟩
          rintro ⟨h3, c1, ty1, h4, h5⟩
          refine ⟨by show (S.rm.set r (g, fl + k))[r1]? = _; rw [getElem?_set_ne' her]; exact h3, c1, ty1, ?_, h5⟩
          show w'.heap[g1]? = _
          rw [ho g1 (fun h => her (I.distr r1 r g _ _ (h ▸ h3) hr))]; exact h4
      | full => exact ht
      | ro => trivial
      | ptrs => trivial
    · by_cases he : g1 = g
      · subst he; rw [hc] at hc1; cases hc1; exact ⟨c', hc', hsz⟩
      · exact ⟨c1, by show w'.heap[g1]? = _; rw [ho g1 he]; exact hc1, rfl⟩
  refine ⟨E, by show S.B ≤ w'.heap.size; rw [hs]; exact I.hB, I.hl, by simp [Sim.row, I.rl], fun b1 g1 hb1 => ?_, fun r1 g1 fl1 hr1 => ?_, I.dist, fun r1 r2 g1 f1 f2 h1 h2 => ?_, fun b1 r1 g1 fl1 hb1 hr1 => ?_, I.acl⟩
  · obtain ⟨h2, x, c1, ty1, hx, hc1, hle1, hl1, ho1⟩ := I.blk b1 g1 hb1
    by_cases he : g1 = g
    · subst he
      rw [hc] at hc1; cases hc1
      obtain ⟨x', hx', _, hle2⟩ := I.disj b1 r g1 fl hb1 hr
      rw [hx] at hx'; cases hx'
      refine ⟨h2, x, c', ty, hx, hc', by omega, ?_, ho1⟩
      have e : c'.toList.take x.cells.length = c.toList.take x.cells.length := by
        apply List.ext_getElem?
        intro i
        simp only [List.getElem?_take]
        split
        · rw [Array.getElem?_toList, Array.getElem?_toList]; exact hold i (by omega)
        · rfl
      rw [e]
      exact RepL.ext E hl1
    · refine ⟨h2, x, c1, ty1, hx, ?_, hle1, RepL.ext E hl1, ho1⟩
      show w'.heap[g1]? = _
      rw [ho g1 he]; exact hc1
  · rcases getElem?_set_cases hr1 with ⟨rfl, he⟩ | ⟨hne, hr1⟩
    · cases he
      exact ⟨(I.rowb r1 g fl hr).1, c', ty, hc', by omega⟩
    · obtain ⟨h2, c1, ty1, hc1, hle1⟩ := I.rowb r1 g1 fl1 hr1
      refine ⟨h2, c1, ty1, ?_, hle1⟩
      show w'.heap[g1]? = _
      rw [ho g1 (fun h => hne (I.distr r1 r g _ _ (h ▸ hr1) hr))]; exact hc1
  · rcases getElem?_set_cases h1 with ⟨rfl, he1⟩ | ⟨hne1, k1⟩ <;> rcases getElem?_set_cases h2 with ⟨he, he2⟩ | ⟨hne2, k2⟩
    · exact he.symm
    · cases he1; exact I.distr _ _ _ _ _ hr k2
    · cases he2; subst he; exact I.distr _ _ _ _ _ k1 hr
    · exact I.distr _ _ _ _ _ k1 k2
  · rcases getElem?_set_cases hr1 with ⟨rfl, he⟩ | ⟨hne, hr1⟩
    · cases he
      obtain ⟨x, h1, h2, h3⟩ := I.disj _ _ _ _ hb1 hr
      exact ⟨x, h1, h2, by omega⟩
    · exact I.disj _ _ _ _ hb1 hr1

/-- Appended in a new place. -/
theorem row_moved {S : Sim} (I : Inv S) {w' : World} {r e sz k g' fl' : Nat} {c' : Array Value} {ty : TypeId} (hF : S.st.F[r]? = some (e, sz)) (hkeep : Keeps S.w w')
    (hg' : S.w.heap.size ≤ g') (hc' : w'.heap[g']? = some (.cells c' ty (0, 0))) (hk : 0 < k) (hfit : fl' ≤ c'.size) :
    Ext S (S.row w' r (g', fl') (e + k, sz)) ∧ Inv (S.row w' r (g', fl') (e + k, sz)) := by
  have hFl := (List.getElem?_eq_some_iff.1 hF).1
  have hrl : r < S.rm.length := by rw [I.rl]; exact hFl
  have E : Ext S (S.row w' r (g', fl') (e + k, sz)) := by
    refine ⟨rfl, rfl, fun _ _ h => h, fun g1 lo j h => ?_, fun g1 lo j h i hi => hkeep.cell h.2.1, fun t j n g1 off cap ht => ?_, fun b1 g1 c1 ty1 hb1 hc1 => ⟨c1, ?_, rfl⟩⟩
    · refine ⟨h.1, Nat.lt_of_lt_of_le h.2.1 hkeep.1, h.2.2.1, fun r1 fl1 hr1 => ?_⟩
      rcases getElem?_set_cases hr1 with ⟨rfl, he⟩ | ⟨hne, hr1⟩
      · cases he
        have := h.2.1
        omega
      · exact h.2.2.2 r1 fl1 hr1
    · cases t with
      | own r1 e1 =>
        obtain ⟨e2, sz2, hF2, hle, hx⟩ := ht
        by_cases her : r1 = r
        · subst her
          rw [hF] at hF2; cases hF2
          exact ⟨e + k, sz, by show (S.st.F.set r1 (e + k, sz))[r1]? = _; rw [List.getElem?_set_self hFl], by omega, fun he => by omega⟩
        · refine ⟨e2, sz2, by show (S.st.F.set r (e + k, sz))[r1]? = _; rw [getElem?_set_ne' her]; exact hF2, hle, fun he => ?_⟩
          obtain ⟨h1, h2⟩ := hx he
          refine ⟨h1, h2.imp id ?_⟩
          rintro ⟨h3, c1, ty1, h4, h5⟩
          refine ⟨by show (S.rm.set r (g', fl'))[r1]? = _; rw [getElem?_set_ne' her]; exact h3, c1, ty1, ?_, h5⟩
          show w'.heap[g1]? = _
          rw [hkeep.2 g1 (heap_lt h4)]; exact h4
      | full => exact ht
      | ro => trivial
      | ptrs => trivial
    · show w'.heap[g1]? = _
      rw [hkeep.2 g1 (heap_lt hc1)]; exact hc1
  refine ⟨E, Nat.le_trans I.hB hkeep.1, I.hl, by simp [Sim.row, I.rl], fun b1 g1 hb1 => ?_, fun r1 g1 fl1 hr1 => ?_, I.dist, fun r1 r2 g1 f1 f2 h1 h2 => ?_, fun b1 r1 g1 fl1 hb1 hr1 => ?_, I.acl⟩
  · obtain ⟨h2, x, c1, ty1, hx, hc1, hle1, hl1, ho1⟩ := I.blk b1 g1 hb1
    refine ⟨h2, x, c1, ty1, hx, ?_, hle1, RepL.ext E hl1, ho1⟩
    show w'.heap[g1]? = _
    rw [hkeep.2 g1 (heap_lt hc1)]; exact hc1
  · rcases getElem?_set_cases hr1 with ⟨rfl, he⟩ | ⟨hne, hr1⟩
    · cases he
      exact ⟨Nat.le_trans I.hB hg', c', ty, hc', hfit⟩
    · obtain ⟨h2, c1, ty1, hc1, hle1⟩ := I.rowb r1 g1 fl1 hr1
      refine ⟨h2, c1, ty1, ?_, hle1⟩
      show w'.heap[g1]? = _
      rw [hkeep.2 g1 (heap_lt hc1)]; exact hc1
  · have old : ∀ r g fl, S.rm[r]? = some (g, fl) → g < S.w.heap.size := fun r g fl h => by
      obtain ⟨_, c1, ty1, hc1, _⟩ := I.rowb r g fl h
      exact heap_lt hc1
    rcases getElem?_set_cases h1 with ⟨rfl, he1⟩ | ⟨hne1, h1⟩ <;> rcases getElem?_set_cases h2 with ⟨he, he2⟩ | ⟨hne2, h2⟩
    · exact he.symm
    · cases he1; have := old _ _ _ h2; omega
    · cases he2; have := old _ _ _ h1; omega
    · exact I.distr _ _ _ _ _ h1 h2
  · rcases getElem?_set_cases hr1 with ⟨rfl, he⟩ | ⟨hne, hr1⟩
    · cases he
      obtain ⟨_, _, c1, _, _, hc1, _⟩ := I.blk _ _ hb1
      have := heap_lt hc1
      omega
    · exact I.disj _ _ _ _ hb1 hr1

/-- A new block of variables. -/
theorem new_block {S : Sim} (I : Inv S) {cells : List AV} {ys : List Value} (e : TypeId) (hl : RepL S cells ys) (h1 : ∀ x ∈ cells, x.one = true) :
    let S' : Sim := { S with w := S.w.alloc (.cells ys.toArray e), hm := S.hm ++ [S.w.heap.size], rm := S.rm ++ [], st := { H := S.st.H ++ [{ cells := cells, fz := false }], F := S.st.F ++ [] } }
    Ext S S' ∧ Inv S' := by
  intro S'
  have hk := Keeps.alloc S.w (.cells ys.toArray e)
  have E : Ext S S' := Ext.grow hk (by simp) (by simp)
  refine ⟨E, Inv.grow I hk (by simp) (by simp) rfl rfl (by simp) (by simp) (by simp) ?_ (by simp)⟩
  intro j g hj
  have : j = 0 ∧ g = S.w.heap.size := by
    cases j with
    | zero => simp at hj; exact ⟨rfl, hj.symm⟩
    | succ j => simp at hj
  obtain ⟨rfl, rfl⟩ := this
  refine ⟨{ cells := cells, fz := false }, ys.toArray, e, rfl, heap_alloc_new S.w _, by simp [hl.length], ?_, h1⟩
  have : (ys.toArray.toList.take cells.length) = ys := by rw [← hl.length]; simp
  rw [this]
  exact RepL.ext E hl

/-- A new row. -/
theorem new_row {S : Sim} (I : Inv S) {w' : World} (hk : Keeps S.w w') {g fl : Nat} {c : Array Value} {ty : TypeId} (f : Nat × Nat) (hg : S.w.heap.size ≤ g) (hc : w'.heap[g]? = some (.cells c ty (0, 0))) (hfl : fl ≤ c.size) :
    let S' : Sim := { S with w := w', hm := S.hm ++ [], rm := S.rm ++ [(g, fl)], st := { H := S.st.H ++ [], F := S.st.F ++ [f] } }
    Ext S S' ∧ Inv S' := by
  intro S'
  have E : Ext S S' := Ext.grow hk (by simp) (by simpa using hg)
  exact ⟨E, Inv.grow I hk (by simp) (by simpa using hg) rfl rfl (by simp) (by simp) (by simp) (by simp) (fun p hp => by simp at hp; subst hp; exact ⟨c, ty, hc, hfl⟩)⟩

end VS
end Go.Proofs.Ytkhekmmldnjenaa
/- The model's code brought into the compact form: types resolved, edges checked and struck. -/
namespace Go.Proofs.Ytkhekmmldnjenaa
namespace VS

def atomsOf : List Value → Option (List AV)
  | [] => some []
  | x :: r => if atom x then (atomsOf r).map (AV.v x :: ·) else none

def ofVal : Value → Option AV
  | .agg cs => (atomsOf cs.toList).map .agg
  | .func (.func f) first caps => if first.isEmpty && caps.isEmpty then some (.fn f []) else none
  | x => if atom x then some (.v x) else none

def stripX : Operand → Option SX
  | .tmp t => some (.t t)
  | .const x => (ofVal x).map .c
  | .func f => some (.c (.fn f []))
  | .global _ => none

def stripXs : List Operand → Option (List SX)
  | [] => some []
  | x :: r => match stripX x, stripXs r with
    | some a, some l => some (a :: l)
    | _, _ => none

def stripO : Option Operand → Option (Option SX)
  | none => some none
  | some x => (stripX x).map some

def zeroOf (P : Program) (t : TypeId) : Option (List AV) :=
  match P.info? t with
  | some i => match i.zero with
    | some z => atomsOf z.cells.toList
    | none => none
  | none => none

def zeroV (P : Program) (t : TypeId) : Option AV :=
  match P.info? t with
  | some i => match i.zero with
    | some z => ofVal z
    | none => none
  | none => none

def aggK (P : Program) (t : TypeId) : Option (Option Nat) :=
  match P.underlying t with
  | some (.struct _) | some (.array _ _) => match P.info? t with
    | some i => some (some i.size)
    | none => none
  | some _ => some none
  | none => none

def placesOf (P : Program) : List Field → Option (List (Nat × Nat))
  | [] => some []
  | f :: r => match P.info? f.type, placesOf P r with
    | some i, some l => some ((f.offset, i.size) :: l)
    | _, _ => none

def partsBy (place : Nat → Option (Nat × Nat)) : List (Nat × Operand) → Option (List (Nat × Nat × SX))
  | [] => some []
  | (i, x) :: r => match place i, stripX x, partsBy place r with
    | some (off, size), some a, some l => some ((off, size, a) :: l)
    | _, _, _ => none

/-- Types whose values are whole numbers through and through, laid without gaps: their size in cells. -/
def sized (P : Program) (t : TypeId) (n : Option Nat) : Option Nat :=
  match n, P.info? t with
  | some k, some i => if i.size = k then some k else none
  | _, _ => none

def fieldsInts (f : TypeId → Option Nat) : List Field → Nat → Option Nat
  | [], n => some n
  | x :: r, n => match f x.type with
    | some k => if x.offset = n ∧ x.name ≠ "_" then fieldsInts f r (n + k) else none
    | none => none

def intsOnly (P : Program) : Nat → TypeId → Option Nat
  | 0, _ => none
  | d + 1, t => match P.underlying t with
    | some (.int _) => sized P t (some 1)
    | some (.struct fs) => if P.stoodInHeld t = false then sized P t (fieldsInts (intsOnly P d) fs.toList 0) else none
    | some (.array n e) => sized P t ((intsOnly P d e).map fun k => n * k)
    | _ => none

def isConstX : Operand → Bool
  | .const _ => true
  | _ => false

def eqkOf (P : Program) (t : TypeId) (x y : Operand) : EqK :=
  match P.underlying t with
  | some .bool => .bool
  | some (.slice _) => .nilS
  | some (.func _ _ _) => .nilF
  | some (.pointer _) => .nilP
  | some (.interface _) => .iface (isConstX x || isConstX y)
  | some (.struct _) | some (.array _ _) => match P.eqGuardType P.depth t, intsOnly P 8 t with
    | false, some n => .cells n
    | _, _ => .none
  | _ => .none

def stripB (P : Program) : Builtin → List Operand → List TypeId → Option SOp
  | .append, [s, x], [t, u] => match P.underlying t, stripX s, stripX x with
    | some (.slice e), some s, some x => match P.info? e, zeroOf P e with
      | some i, some z => if z.length = i.size ∧ t = u then some (.append i.size i.bytes s x) else none
      | _, _ => none
    | _, _, _ => none
  | .len, [x], [t] => match P.underlying t, stripX x with
    | some (.slice _), some x => some (.len x)
    | _, _ => none
  | .max, [x, y], _ => match stripX x, stripX y with
    | some x, some y => some (.minmax true x y)
    | _, _ => none
  | .min, [x, y], _ => match stripX x, stripX y with
    | some x, some y => some (.minmax false x y)
    | _, _ => none
  | _, _, _ => none

def stripCall (P : Program) (c : Call) : Option SOp :=
  match c.callee with
  | .value f => match stripX f, stripXs c.args.toList with
    | some f, some l => some (.call f l)
    | _, _ => none
  | .builtin b => stripB P b c.args.toList c.argTypes.toList
  | .invoke _ _ => none

def stripOp (P : Program) (o : Oper) : Option SOp :=
  match o.op with
  | .move x | .assign x => (stripX x).map .mv
  | .pick c a b => match stripX c, stripX a, stripX b with
    | some c, some a, some b => some (.pick c a b)
    | _, _, _ => none
  | .alloc t => (zeroOf P t).map .alloc
  | .box _ x => (stripX x).map .box
  | .build t ps => match zeroOf P t, P.underlying t with
    | some z, some (.struct fs) => match placesOf P fs.toList with
      | some pl => (partsBy (fun i => pl[i]?) ps.toList).map (.build z)
      | none => none
    | some z, some (.array _ e) => match P.info? e with
      | some i => (partsBy (fun j => some (j * i.size, i.size)) ps.toList).map (.build z)
      | none => none
    | _, _ => none
  | .buildSlice t n ps => match P.underlying t with
    | some (.slice e) => match P.info? e, zeroOf P e with
      | some i, some z => if n * i.size ≤ 2 ^ 24 ∧ z.length = i.size ∧ 0 < i.size then (partsBy (fun j => some (j * i.size, i.size)) ps.toList).map (.bslice z n) else none
      | _, _ => none
    | _ => none
  | .load t a => match aggK P t, stripX a with
    | some k, some a => some (.load k a)
    | _, _ => none
  | .store t a x => match P.info? t, stripX a, stripX x with
    | some i, some a, some x => some (.store i.size a x)
    | _, _, _ => none
  | .nilCheck x => (stripX x).map .nilck
  | .binOp op t x y _ => match stripX x, stripX y with
    | some a, some b => some (.bin op (eqkOf P t x y) a b)
    | _, _ => none
  | .unOp op _ x => (stripX x).map (.un op)
  | .convert s d x => match P.underlying s, P.underlying d, stripX x with
    | some _, some (.int k), some a => some (.conv k a)
    | some (.slice e), some .string, some a => (match P.underlying e with
      | some (.int .u8) => some (.tostr a)
      | _ => none)
    | _, _, _ => none
  | .sliceToArrayPointer t x => match P.underlying t, stripX x with
    | some (.array n _), some a => some (.s2ap n a)
    | _, _ => none
  | .makeInterface t x => match P.underlying t, stripX x with
    | some (.interface _), _ => none
    | some _, some a => some (.mkifc t a)
    | _, _ => none
  | .makeFunc fn first caps => match fn with
    | .func f => if first.isEmpty then (stripXs caps.toList).map (.mkfn f) else none
    | _ => none
  | .makeSlice t l c => match P.underlying t with
    | some (.slice e) => match P.info? e, zeroOf P e, stripX l, stripX c with
      | some i, some z, some l, some c => if z.length = i.size ∧ 0 < i.size then some (.mkslice z i.bytes l c) else none
      | _, _, _, _ => none
    | _ => none
  | .slice t x lo hi mx => match mx with
    | some _ => none
    | none => match P.underlying t, stripX x, stripO lo, stripO hi with
      | some (.slice e), some x, some lo, some hi => (P.info? e).map fun i => .slice i.size x lo hi
      | some (.array n e), some x, some lo, some hi => if n ≤ maxLen then (P.info? e).map fun i => .arrslice n i.size x lo hi else none
      | _, _, _, _ => none
  | .fieldAddr t x f => match P.underlying t, stripX x with
    | some (.struct fs), some x => match fs[f]? with
      | some fd => match P.info? fd.type with
        | some i => if i.size = 0 then none else some (.faddr fd.offset x)
        | none => none
      | none => none
    | _, _ => none
  | .field t x f => match P.underlying t, stripX x with
    | some (.struct fs), some x => match fs[f]? with
      | some fd => match aggK P fd.type with
        | some k => some (.field fd.offset k x)
        | none => none
      | none => none
    | _, _ => none
  | .indexAddr t x i => match P.underlying t, stripX x, stripX i with
    | some (.slice e), some x, some i => (P.info? e).map fun j => .iaddr j.size none x i
    | some (.array n e), some x, some i => (P.info? e).map fun j => .iaddr j.size (some n) x i
    | _, _, _ => none
  | .index t x i => match P.underlying t, stripX x, stripX i with
    | some (.array n e), some x, some i => match P.info? e, aggK P e with
      | some j, some k => some (.index n j.size k x i)
      | _, _ => none
    | _, _, _ => none
  | .extract x i => (stripX x).map fun a => .extract a i
  | .call c => stripCall P c
  | .typeAssert x _ t ok => match P.underlying t, stripX x with
    | some (.interface _), _ => none
    | some _, some a => (zeroV P t).map fun z => .tassert t ok z a
    | _, _ => none
  | .panic x => (stripX x).map .panic
  | .defer c => match c.callee with
    | .value f => if c.args.isEmpty then (stripX f).map .defer else none
    | _ => none
  | _ => none

def stripG (ops : Array Oper) : Option (Nat × Bool) → Option (Option (Nat × Bool))
  | none => some none
  | some (j, want) => match ops[j]? with
    | some o => match o.dst with
      | some d => some (some (d, want))
      | none => none
    | none => none

def stripOne (P : Program) (N : Nat) (ops : Array Oper) (o : Oper) : Option SO :=
  if o.dst.all (fun d => decide (d < N)) then
    match stripOp P o, stripG ops o.guard with
    | some op, some g => some { dst := o.dst, g := g, op := op }
    | _, _ => none
  else none

def stripOps (P : Program) (N : Nat) (ops : Array Oper) : List Oper → Option (List SO)
  | [] => some []
  | o :: r => match stripOne P N ops o, stripOps P N ops r with
    | some s, some l => some (s :: l)
    | _, _ => none

/-- How an operation touches the state: not at all; it reads it; it adds to it; it writes it. -/
def callClass (kd : FuncId → Kind) : SX → Nat
  | .c (.fn f []) => if kd f = .whole then 3 else if kd f = .pure then 1 else 2
  | _ => 3

def opClass (kd : FuncId → Kind) : SOp → Nat
  | .load _ _ => 1
  | .alloc _ | .box _ | .append _ _ _ _ | .mkslice _ _ _ _ | .bslice _ _ _ => 2
  | .call f _ => callClass kd f
  | .store _ _ _ | .arrslice _ _ _ _ _ | .panic _ | .defer _ | .callF _ _ => 3
  | _ => 0

def clash (a b : Nat) : Bool := (2 ≤ a && 2 ≤ b) || (a == 1 && b == 3) || (a == 3 && b == 1)

def xSlots : SX → List Nat
  | .t i => [i]
  | .c _ => []

def oSlots : Option SX → List Nat
  | some x => xSlots x
  | none => []

def opSlots : SOp → List Nat
  | .mv x | .box x | .nilck x | .un _ x | .conv _ x | .tostr x | .s2ap _ x | .mkifc _ x | .faddr _ x | .field _ _ x | .extract x _ | .len x | .tassert _ _ _ x | .panic x | .defer x | .load _ x => xSlots x
  | .pick c a b => xSlots c ++ xSlots a ++ xSlots b
  | .alloc _ => []
  | .build _ ps | .bslice _ _ ps => ps.flatMap fun p => xSlots p.2.2
  | .store _ a b | .bin _ _ a b | .mkslice _ _ a b | .iaddr _ _ a b | .index _ _ _ a b | .append _ _ a b | .minmax _ a b => xSlots a ++ xSlots b
  | .mkfn _ l => l.flatMap xSlots
  | .slice _ x lo hi | .arrslice _ _ x lo hi => xSlots x ++ oSlots lo ++ oSlots hi
  | .call f l | .callF f l => xSlots f ++ l.flatMap xSlots

def soSlots (o : SO) : List Nat := (match o.g with | some (s, _) => [s] | none => []) ++ opSlots o.op

/-- Sets of numbers, as ordered lists. -/
def ins (i : Nat) : List Nat → List Nat
  | [] => [i]
  | j :: r => if i < j then i :: j :: r else if i = j then j :: r else j :: ins i r

def uni : List Nat → List Nat → List Nat
  | [], l => l
  | i :: r, l => uni r (ins i l)

/-- Which operations must have been carried out before each, as the edges say. -/
def ancOf (acc : List (List Nat)) : List Edge → List Nat
  | [] => []
  | e :: r => if Region.binds .any e then ins e.on (uni (acc.getD e.on []) (ancOf acc r)) else ancOf acc r

def ancs (ops : List Oper) : List (List Nat) :=
  ops.foldl (fun acc o => acc ++ [ancOf acc o.after.toList]) []

def before (an : List (List Nat)) (i j : Nat) : Bool := (an.getD j []).contains i

/-- A load and a store. -/
def loadStore : SOp → SOp → Bool
  | .load _ _, .store _ _ _ => true
  | .store _ _ _, .load _ _ => true
  | _, _ => false

def drawOk (free : Bool) (kd : FuncId → Kind) (ops : List Oper) (so : List SO) : Bool :=
  let an := ancs ops
  let n := so.length
  so.all (fun o => match o.op with | .defer _ => false | _ => true) &&
  (List.range n).all fun j => (ops.getD j default).after.toList.all (fun e => !Region.binds .any e || decide (e.on < j)) &&
    (List.range n).all fun i => i == j || before an i j || before an j i ||
      match so[i]?, so[j]? with
      | some a, some b => (!(clash (opClass kd a.op) (opClass kd b.op)) || (free && loadStore a.op b.op)) &&
        (match a.dst with | some d => !((soSlots b).contains d) && b.dst != some d | none => true) &&
        (match b.dst with | some d => !((soSlots a).contains d) | none => true)
      | _, _ => false

def strip (P : Program) (kd : FuncId → Kind) (N : Nat) : Code → Option SCode
  | .skip => some .skip
  | .region _ ops draw => match stripOps P N ops ops.toList with
    | some l => if draw then (if drawOk false kd ops.toList l then some (.region l true) else if drawOk true kd ops.toList l then some (.regionF l) else none) else some (.region l false)
    | none => none
  | .seq a b => match strip P kd N a, strip P kd N b with
    | some x, some y => some (.seq [] x y)
    | _, _ => none
  | .cond c a b => match stripX c, strip P kd N a, strip P kd N b with
    | some c, some x, some y => some (.cond c x y)
    | _, _, _ => none
  | .block id c => (strip P kd N c).map (.block id)
  | .loop c => (strip P kd N c).map (.loop [])
  | .exit id => some (.exit id)
  | .ret => some .ret
  | _ => none

def liveOps : List SO → List Nat → List Nat
  | [], l => l
  | o :: r, l => uni (soSlots o) (match o.dst with | some d => (liveOps r l).filter (fun i => !(i == d)) | none => liveOps r l)

def liveAt : List (Nat × List Nat) → Nat → List Nat
  | [], _ => []
  | (i, l) :: r, k => if i = k then l else liveAt r k

/-- The code with the slots that are live named; and those live where it begins. It need not be right: what it says is only what the evaluator keeps. -/
def mark : SCode → List (Nat × List Nat) → List Nat → List Nat → SCode × List Nat
  | .skip, _, _, l => (.skip, l)
  | .region ops d, _, _, l => (.region ops d, liveOps ops l)
  | .regionF ops, _, _, l => (.regionF ops, liveOps ops l)
  | .seq _ a b, ex, r, l =>
    let q := mark b ex r l
    let p := mark a ex r q.2
    (.seq q.2 p.1 q.1, p.2)
  | .cond c a b, ex, r, l =>
    let p := mark a ex r l
    let q := mark b ex r l
    (.cond c p.1 q.1, uni (xSlots c) (uni p.2 q.2))
  | .block id c, ex, r, l =>
    let p := mark c ((id, l) :: ex) r l
    (.block id p.1, p.2)
  | .loop _ c, ex, r, _ =>
    let h := (mark c ex r []).2
    (.loop h (mark c ex r h).1, h)
  | .exit id, ex, _, _ => (.exit id, liveAt ex id)
  | .ret, _, r, _ => (.ret, r)

/-- Calls whose result becomes a block of one's own: in the text they are calls. -/
def unOp : SOp → SOp
  | .callF f l => .call f l
  | o => o

def unSO (o : SO) : SO := { o with op := unOp o.op }

def eraseOps : Bool → List SO → List SO
  | true, l => l
  | false, l => l.map unSO

def erase : SCode → SCode
  | .region ops d => .region (eraseOps d ops) d
  | .seq _ a b => .seq [] (erase a) (erase b)
  | .cond c a b => .cond c (erase a) (erase b)
  | .block id c => .block id (erase c)
  | .loop _ c => .loop [] (erase c)
  | c => c

theorem erase_mark : ∀ (c : SCode) (ex : List (Nat × List Nat)) (r l : List Nat), erase (mark c ex r l).1 = erase c
  | .skip, _, _, _ => rfl
  | .region _ _, _, _, _ => rfl
  | .regionF _, _, _, _ => rfl
  | .seq _ a b, ex, r, l => by simp only [mark, erase, erase_mark a, erase_mark b]
  | .cond _ a b, ex, r, l => by simp only [mark, erase, erase_mark a, erase_mark b]
  | .block _ c, ex, r, l => by simp only [mark, erase, erase_mark c]
  | .loop _ c, ex, r, l => by simp only [mark, erase, erase_mark c]
  | .exit _, _, _, _ => rfl
  | .ret, _, _, _ => rfl

def thawOp (kd : FuncId → Kind) : SOp → SOp
  | .call (.c (.fn g [])) l => if kd g = .keep then .callF (.c (.fn g [])) l else .call (.c (.fn g [])) l
  | o => o

def thawOps (kd : FuncId → Kind) : Bool → List SO → List SO
  | true, l => l
  | false, l => l.map fun o => { o with op := thawOp kd o.op }

/-- Where no order is drawn, calls of functions that keep the room of their slice yield blocks of one's own. -/
def thawC (kd : FuncId → Kind) : SCode → SCode
  | .region ops d => .region (thawOps kd d ops) d
  | .seq ks a b => .seq ks (thawC kd a) (thawC kd b)
  | .cond c a b => .cond c (thawC kd a) (thawC kd b)
  | .block id c => .block id (thawC kd c)
  | .loop ks c => .loop ks (thawC kd c)
  | c => c

theorem un_thaw (kd : FuncId → Kind) (o : SO) : unSO { o with op := thawOp kd o.op } = unSO o := by
  unfold unSO
  simp only
  congr 1
  unfold thawOp
  split
  · rename_i hop
    rw [hop]
    split <;> rfl
  · rfl

theorem erase_thaw (kd : FuncId → Kind) : ∀ (c : SCode), erase (thawC kd c) = erase c
  | .skip => rfl
  | .region ops d => by
    simp only [thawC, erase]
    congr 1
    cases d
    · simp only [thawOps, eraseOps, List.map_map]
      apply List.map_congr_left
      intro o _
      exact un_thaw kd o
    · rfl
  | .regionF _ => rfl
  | .seq _ a b => by simp only [thawC, erase, erase_thaw kd a, erase_thaw kd b]
  | .cond _ a b => by simp only [thawC, erase, erase_thaw kd a, erase_thaw kd b]
  | .block _ c => by simp only [thawC, erase, erase_thaw kd c]
  | .loop _ c => by simp only [thawC, erase, erase_thaw kd c]
  | .exit _ => rfl
  | .ret => rfl

def thawIf (kd : FuncId → Kind) (f : FuncId) (c : SCode) : SCode := if kd (f + 1000000) = .fresh then thawC kd c else c

theorem erase_thawIf (kd : FuncId → Kind) (f : FuncId) (c : SCode) : erase (thawIf kd f c) = erase c := by
  unfold thawIf
  split
  · exact erase_thaw kd c
  · rfl

def liveRes : List SRes → List Nat
  | [] => []
  | .tmp t :: r => ins t (liveRes r)
  | .cell a _ :: r => ins a (liveRes r)

def stripRes (P : Program) : List ResultVar → Option (List SRes)
  | [] => some []
  | .tmp t :: r => (stripRes P r).map (.tmp t :: ·)
  | .cell a t :: r => match aggK P t, stripRes P r with
    | some k, some l => some (.cell a k :: l)
    | _, _ => none

/-- Code that leaves the variables that there are. -/
def mildC (kd : FuncId → Kind) : SCode → Bool
  | .region ops _ => ops.all fun o => decide (opClass kd o.op ≤ 2)
  | .regionF ops => ops.all fun o => decide (opClass kd o.op ≤ 2)
  | .seq _ a b => mildC kd a && mildC kd b
  | .cond _ a b => mildC kd a && mildC kd b
  | .block _ c => mildC kd c
  | .loop _ c => mildC kd c
  | _ => true

/-- The code of a closure behind its 'x := recover()'. -/
def headOff (N r x : Nat) : Code → Option Code
  | .seq (.region _ ops false) c => match ops.toList with
    | [o0, o1] => match o0.op, o1.op with
      | .call ci, .assign (.tmp t) => match ci.callee, ci.args.toList with
        | .builtin .recover, [] => if o0.dst = some r ∧ o0.guard = none ∧ t = r ∧ o1.dst = some x ∧ o1.guard = none ∧ r < N ∧ x < N ∧ r ≠ x then some c else none
        | _, _ => none
      | _, _ => none
    | _ => none
  | _ => none

def bodyOf (k : Kind) (N : Nat) (c : Code) : Option Code := match k with
  | .catch r x => headOff N r x c
  | _ => some c

def stripFn (P : Program) (kd : FuncId → Kind) (f : FuncId) (fn : Func) : Option SFn :=
  if fn.name = "runtime.NumGoroutine" then none else
  match fn.body with
  | some c0 => match bodyOf (kd f) fn.ntmps c0 with
    | some c => if fn.params.size + fn.nfree ≤ fn.ntmps ∧ fn.params.size + fn.nfree < 1000 then
        match strip P kd fn.ntmps c, stripRes P fn.results.toList with
        | some b, some r => if decide (kd f = .grow) && !mildC kd (mark (thawIf kd f b) [] (liveRes r) (liveRes r)).1 then none else some { kind := kd f, np := fn.params.size + fn.nfree, res := r, body := (mark (thawIf kd f b) [] (liveRes r) (liveRes r)).1 }
        | _, _ => none
      else none
    | none => none
  | none => none

/-- The table of functions. -/
def table (P : Program) (kd : FuncId → Kind) (f : FuncId) : Option SFn :=
  match P.funcs[f]? with
  | some fn => stripFn P kd f fn
  | none => none

end VS
end Go.Proofs.Ytkhekmmldnjenaa
/- Each operation of the compact form, held against the model's own: what it computes represents what the model computes, and the state's invariant stands. -/
namespace Go.Proofs.Ytkhekmmldnjenaa
namespace VS

structure Step (S S' : Sim) : Prop where
  ext : Ext S S'
  inv : Inv S'
  below : RowKit.Below S.B S.w S'.w

theorem Step.refl {S : Sim} (I : Inv S) : Step S S := ⟨Ext.refl S, I, RowKit.Below.refl _ _⟩
theorem Step.trans {S S1 S2 : Sim} (h : Step S S1) (k : Step S1 S2) : Step S S2 := ⟨h.ext.trans k.ext, k.inv, h.below.trans (by have := k.below; rw [h.ext.B] at this; exact this)⟩

/-- The state that an operation leaves. -/
def Sim.to (S : Sim) (w : World) (hm : List Nat) (rm : List (Nat × Nat)) (st : St) : Sim := { w := w, hm := hm, rm := rm, st := st, B := S.B, A := S.A }

inductive DRep (S : Sim) : List (FuncId × List AV) → List Deferred → Prop where
  | nil : DRep S [] []
  | cons {f : FuncId} {caps : List AV} {ys : List Value} {l : List (FuncId × List AV)} {m : List Deferred} : RepL S caps ys → DRep S l m →
      DRep S ((f, caps) :: l) ({ target := .fn (.func f) ys.toArray, args := #[] } :: m)

theorem DRep.ext {S S' : Sim} (E : Ext S S') : ∀ {l : List (FuncId × List AV)} {m : List Deferred}, DRep S l m → DRep S' l m
  | _, _, .nil => .nil
  | _, _, .cons h1 h2 => .cons (RepL.ext E h1) (DRep.ext E h2)

structure FrOk (S : Sim) (fr : Fr) (a : Act) : Prop where
  s : ∀ (i : Nat) (x : AV), look fr.s i = some x → ∃ y, a.tmps[i]? = some y ∧ Rep S x y
  d : DRep S fr.d a.defers

theorem FrOk.ext {S S' : Sim} {fr : Fr} {a : Act} (h : FrOk S fr a) (E : Ext S S') : FrOk S' fr a :=
  ⟨fun i x hx => let ⟨y, h1, h2⟩ := h.s i x hx; ⟨y, h1, Rep.ext E h2⟩, DRep.ext E h.d⟩

section
variable {P : Program} {S : Sim} {fr : Fr} {a : Act}

theorem atomsOf_rep : ∀ {l : List Value} {m : List AV}, atomsOf l = some m → RepL S m l ∧ ∀ x ∈ m, x.one = true
  | [], m, h => by simp only [atomsOf, Option.some.injEq] at h; subst h; exact ⟨.nil, by simp⟩
  | x :: r, m, h => by
    simp only [atomsOf] at h
    split at h
    · rename_i ha
      rw [Option.map_eq_some_iff] at h
      obtain ⟨k, hk, rfl⟩ := h
      obtain ⟨h1, h2⟩ := atomsOf_rep (l := r) hk
      exact ⟨.cons (.v ha) h1, by simpa [AV.one] using h2⟩
    · cases h

theorem ofVal_rep {x : Value} {av : AV} (h : ofVal x = some av) : Rep S av x := by
  have plain : ∀ {x : Value} {av : AV}, (if atom x then some (AV.v x) else none) = some av → Rep S av x := by
    intro x av h
    split at h
    · rename_i ha; cases h; exact .v ha
    · cases h
  cases x with
  | agg cs =>
    simp only [ofVal, Option.map_eq_some_iff] at h
    obtain ⟨m, hm, rfl⟩ := h
    obtain ⟨h1, h2⟩ := atomsOf_rep (S := S) hm
    have := Rep.agg h1 h2
    simpa using this
  | func fn first caps =>
    cases fn with
    | func f =>
      simp only [ofVal] at h
      split at h
      · rename_i hc
        simp only [Bool.and_eq_true, Array.isEmpty_iff] at hc
        obtain ⟨rfl, rfl⟩ := hc
        cases h
        exact .fn .nil
      · cases h
    | _ => exact plain h
  | _ => exact plain h

theorem stripX_rep (hf : FrOk S fr a) {x : Operand} {sx : SX} {av : AV} (hx : stripX x = some sx) (he : evX fr sx = some av) : Rep S av (a.eval x) := by
  cases x with
  | tmp t =>
    simp only [stripX, Option.some.injEq] at hx; subst hx
    obtain ⟨y, h1, h2⟩ := hf.s t av he
    have : a.eval (.tmp t) = y := by simp [Act.eval, h1]
    rw [this]; exact h2
  | const v =>
    simp only [stripX, Option.map_eq_some_iff] at hx
    obtain ⟨b, hb, rfl⟩ := hx
    simp only [evX, Option.some.injEq] at he; subst he
    exact ofVal_rep hb
  | func f =>
    simp only [stripX, Option.some.injEq] at hx; subst hx
    simp only [evX, Option.some.injEq] at he; subst he
    exact .fn .nil
  | global g => simp [stripX] at hx

theorem stripXs_rep (hf : FrOk S fr a) : ∀ {xs : List Operand} {l : List SX} {as : List AV}, stripXs xs = some l → evXs fr l = some as → RepL S as (xs.map a.eval)
  | [], l, as, h, he => by
    simp only [stripXs, Option.some.injEq] at h; subst h
    simp only [evXs, Option.some.injEq] at he; subst he
    exact .nil
  | x :: r, l, as, h, he => by
    simp only [stripXs] at h
    split at h
    · rename_i sx l' hx hl
      cases h
      simp only [evXs] at he
      split at he
      · rename_i av as' h1 h2
        cases he
        exact .cons (stripX_rep hf hx h1) (stripXs_rep hf hl h2)
      · cases he
    · cases h

end

theorem Rep.bool_inv {S : Sim} {b : Bool} {y : Value} (h : Rep S (.v (.bool b)) y) : y = .bool b := by cases h; rfl
theorem Rep.v_inv {S : Sim} {x y : Value} (h : Rep S (.v x) y) : y = x ∧ atom x = true := by cases h; exact ⟨rfl, by assumption⟩

theorem run_typeInfo' {P : Program} {t : TypeId} {i : TypeInfo} (h : P.info? t = some i) (w : World) : (typeInfo t).run P w = .ok i w := by simp [typeInfo, h]
theorem run_sizeOf' {P : Program} {t : TypeId} {i : TypeInfo} (h : P.info? t = some i) (w : World) : (sizeOf t).run P w = .ok i.size w := by simp [sizeOf, typeInfo, h]
theorem run_zero' {P : Program} {t : TypeId} {i : TypeInfo} {z : Value} (h : P.info? t = some i) (hz : i.zero = some z) (w : World) : (zeroValue t).run P w = .ok z w := by simp [zeroValue, typeInfo, h, hz]

theorem zeroOf_inv {P : Program} {t : TypeId} {l : List AV} (h : zeroOf P t = some l) : ∃ i z, P.info? t = some i ∧ i.zero = some z ∧ atomsOf z.cells.toList = some l := by
  unfold zeroOf at h
  split at h
  · rename_i i hi
    split at h
    · rename_i z hz; exact ⟨i, z, hi, hz, h⟩
    · cases h
  · cases h

theorem run_newVar' {P : Program} (t : TypeId) (v : Value) (w : World) : (newVar t v).run P w = .ok ⟨w.heap.size, 0, none⟩ (w.alloc (.cells v.cells t)) := by
  simp [newVar, newRow]

/-- A new variable of one's own. -/
theorem Step.alloc {S : Sim} (I : Inv S) {cells : List AV} {ys : List Value} (e : TypeId) (hl : RepL S cells ys) (h1 : ∀ x ∈ cells, x.one = true) :
    ∃ S', S'.w = S.w.alloc (.cells ys.toArray e) ∧ S'.st = { S.st with H := S.st.H ++ [{ cells := cells, fz := false }] } ∧ S'.B = S.B ∧ S'.A = S.A ∧ Step S S' ∧ Rep S' (.ptr S.st.H.length 0) (.pointer (some ⟨S.w.heap.size, 0, none⟩)) := by
  obtain ⟨E, J⟩ := new_block I e hl h1
  refine ⟨{ S with w := S.w.alloc (.cells ys.toArray e), hm := S.hm ++ [S.w.heap.size], rm := S.rm ++ [], st := { H := S.st.H ++ [{ cells := cells, fz := false }], F := S.st.F ++ [] } },
    rfl, by simp, rfl, rfl, ⟨E, J, (RowKit.Below.refl _ _).alloc I.hB _⟩, .ptr ?_⟩
  show (S.hm ++ [S.w.heap.size])[S.st.H.length]? = _
  rw [← I.hl]; simp

/-- What an operation other than a call comes to. -/
def OpRet (P : Program) (o : Oper) (a : Act) (S : Sim) (x : AV) (st : St) : Prop :=
  ∃ S', S'.st = st ∧ S'.B = S.B ∧ S'.A = S.A ∧ Step S S' ∧
    ((∃ y, (execOp a.eval o).run P S.w = .ok (.value y) S'.w ∧ Rep S' x y) ∨ ((execOp a.eval o).run P S.w = .ok .skip S'.w ∧ x = und))

theorem OpRet.same {P : Program} {o : Oper} {a : Act} {S : Sim} {x : AV} (I : Inv S) {y : Value} (h : (execOp a.eval o).run P S.w = .ok (.value y) S.w) (hr : Rep S x y) : OpRet P o a S x S.st :=
  ⟨S, rfl, rfl, rfl, Step.refl I, .inl ⟨y, h, hr⟩⟩

section
variable {P : Program} {S : Sim} {fr : Fr} {a : Act} {o : Oper}

theorem op_mv (I : Inv S) (hf : FrOk S fr a) {x : Operand} {sx : SX} {av : AV} (ho : o.op = .move x ∨ o.op = .assign x) (hx : stripX x = some sx) (he : evX fr sx = some av) : OpRet P o a S av S.st := by
  refine OpRet.same I (y := a.eval x) ?_ (stripX_rep hf hx he)
  rcases ho with ho | ho <;> simp [execOp, ho]

theorem op_pick (I : Inv S) (hf : FrOk S fr a) {c x y : Operand} {sc s1 s2 : SX} {b : Bool} {av : AV} (ho : o.op = .pick c x y) (hc : stripX c = some sc) (h1 : stripX x = some s1) (h2 : stripX y = some s2)
    (ec : evX fr sc = some (.v (.bool b))) (ev : (if b then evX fr s1 else evX fr s2) = some av) : OpRet P o a S av S.st := by
  have h := (stripX_rep hf hc ec).bool_inv
  cases b
  · exact OpRet.same I (y := a.eval y) (by simp [execOp, ho, h, asBool]) (stripX_rep hf h2 ev)
  · exact OpRet.same I (y := a.eval x) (by simp [execOp, ho, h, asBool]) (stripX_rep hf h1 ev)

theorem op_alloc (I : Inv S) {t : TypeId} {z : List AV} (ho : o.op = .alloc t) (hz : zeroOf P t = some z) :
    OpRet P o a S (.ptr S.st.H.length 0) { S.st with H := S.st.H ++ [{ cells := z, fz := false }] } := by
  obtain ⟨i, zv, hi, hz1, hz2⟩ := zeroOf_inv hz
  obtain ⟨hl, h1⟩ := atomsOf_rep (S := S) hz2
  obtain ⟨S', hw, hst, hB, hA, hs, hr⟩ := Step.alloc I t hl h1
  refine ⟨S', hst, hB, hA, hs, .inl ⟨_, ?_, hr⟩⟩
  rw [hw]
  simp [execOp, ho, Instr.alloc, run_zero' hi hz1, run_newVar']

theorem Rep.cells_rep {av : AV} {y : Value} (h : Rep S av y) (ht : av.isTup = false) : RepL S av.cells y.cells.toList ∧ ∀ x ∈ av.cells, x.one = true := by
  cases h with
  | agg hl ho => exact ⟨by simpa [AV.cells, Value.cells] using hl, ho⟩
  | tup hl => simp [AV.isTup] at ht
  | v ha =>
    refine ⟨?_, by simp [AV.cells, AV.one]⟩
    cases y <;> first | (simp [atom] at ha; done) | exact .cons (.v ha) .nil
  | sl h1 h2 h3 h4 h5 h6 h7 h8 => exact ⟨.cons (.sl h1 h2 h3 h4 h5 h6 h7 h8) .nil, by simp [AV.cells, AV.one]⟩
  | ptr h => exact ⟨.cons (.ptr h) .nil, by simp [AV.cells, AV.one]⟩
  | ep h1 h2 h3 h4 => exact ⟨.cons (.ep h1 h2 h3 h4) .nil, by simp [AV.cells, AV.one]⟩
  | hs h1 h2 h3 h4 h5 => exact ⟨.cons (.hs h1 h2 h3 h4 h5) .nil, by simp [AV.cells, AV.one]⟩
  | fn h1 => exact ⟨.cons (.fn h1) .nil, by simp [AV.cells, AV.one]⟩
  | ifc h1 => exact ⟨.cons (.ifc h1) .nil, by simp [AV.cells, AV.one]⟩

theorem op_box (I : Inv S) (hf : FrOk S fr a) {t : TypeId} {x : Operand} {sx : SX} {av : AV} (ho : o.op = .box t x) (hx : stripX x = some sx) (he : evX fr sx = some av) (ht : av.isTup = false) :
    OpRet P o a S (.ptr S.st.H.length 0) { S.st with H := S.st.H ++ [{ cells := av.cells, fz := false }] } := by
  obtain ⟨hl, h1⟩ := (stripX_rep hf hx he).cells_rep ht
  obtain ⟨S', hw, hst, hB, hA, hs, hr⟩ := Step.alloc I t hl h1
  refine ⟨S', hst, hB, hA, hs, .inl ⟨_, ?_, hr⟩⟩
  rw [hw]
  simp [execOp, ho, Instr.box, run_newVar']

end

end VS
end Go.Proofs.Ytkhekmmldnjenaa
/- Operations that lay parts into a value, that read and that write variables. -/
namespace Go.Proofs.Ytkhekmmldnjenaa
namespace VS

theorem foldl_zip (off : Nat) : ∀ (xs : List Value) (k : Nat) (cells : Array Value), off + k + xs.length ≤ cells.size →
    (List.foldl (fun (cs : Array Value) (p : Value × Nat) => cs.setIfInBounds (off + p.2) p.1) cells (xs.zipIdx k)).toList = cells.toList.take (off + k) ++ xs ++ cells.toList.drop (off + k + xs.length)
  | [], k, cells, h => by simp
  | x :: r, k, cells, h => by
    have hlt : off + k < cells.size := by simp at h; omega
    rw [List.zipIdx_cons, List.foldl_cons, foldl_zip off r (k + 1) _ (by simp at h ⊢; omega)]
    simp only [Array.toList_setIfInBounds, List.length_cons]
    have e1 : (cells.toList.set (off + k) x).take (off + (k + 1)) = cells.toList.take (off + k) ++ [x] := by
      rw [← Nat.add_assoc, List.take_succ_eq_append_getElem (by simpa using hlt)]
      simp [List.take_set_of_le]
    have e2 : (cells.toList.set (off + k) x).drop (off + (k + 1) + r.length) = cells.toList.drop (off + k + (r.length + 1)) := by
      rw [List.drop_set_of_lt (by omega)]
      congr 1; omega
    rw [e1, e2]
    simp

theorem fill_step (off : Nat) (v : Value) (cells : Array Value) (h : off + v.cells.size ≤ cells.size) :
    (v.cells.zipIdx.foldl (fun (cs : Array Value) (p : Value × Nat) => cs.setIfInBounds (off + p.2) p.1) cells).toList = cells.toList.take off ++ v.cells.toList ++ cells.toList.drop (off + v.cells.size) := by
  have := foldl_zip off v.cells.toList 0 cells (by simpa using h)
  rw [← Array.foldl_toList]
  simpa using this

theorem RepL.putAt {S : Sim} {cs xs : List AV} {ys zs : List Value} (off : Nat) (h : RepL S cs ys) (k : RepL S xs zs) : RepL S (putAt cs off xs) (ys.take off ++ zs ++ ys.drop (off + zs.length)) := by
  unfold VS.putAt
  rw [k.length]
  exact (RepL.append (RepL.append (h.take off) k) (h.drop _))

theorem putAt_one {cs xs : List AV} (off : Nat) (h : ∀ c ∈ cs, c.one = true) (k : ∀ c ∈ xs, c.one = true) : ∀ c ∈ putAt cs off xs, c.one = true := by
  intro c hc
  simp only [putAt, List.mem_append] at hc
  rcases hc with (hc | hc) | hc
  · exact h c (List.mem_of_mem_take hc)
  · exact k c hc
  · exact h c (List.mem_of_mem_drop hc)

section
variable {P : Program} {S : Sim} {fr : Fr} {a : Act} {o : Oper}

theorem fillP_rep (hf : FrOk S fr a) {place : Nat → Option (Nat × Nat)} : ∀ {ps : List (Nat × Operand)} {sps : List (Nat × Nat × SX)} {cs cs' : List AV} {ys : Array Value},
    partsBy place ps = some sps → fillP fr cs sps = some cs' → RepL S cs ys.toList → (∀ c ∈ cs, c.one = true) →
    ∃ zs : Array Value, Instr.fill place ys (ps.map fun p => (p.1, a.eval p.2)) = some zs ∧ RepL S cs' zs.toList ∧ ∀ c ∈ cs', c.one = true
  | [], sps, cs, cs', ys, h1, h2, hl, ho => by
    simp only [partsBy, Option.some.injEq] at h1; subst h1
    simp only [fillP, Option.some.injEq] at h2; subst h2
    exact ⟨ys, rfl, hl, ho⟩
  | (i, x) :: r, sps, cs, cs', ys, h1, h2, hl, ho => by
    simp only [partsBy] at h1
    split at h1
    · rename_i off size sx l hp hx hr
      cases h1
      simp only [fillP] at h2
      split at h2
      · rename_i av he
        split at h2
        · rename_i hc
          obtain ⟨ht, hsz, hfit⟩ := hc
          obtain ⟨hcl, hco⟩ := (stripX_rep hf hx he).cells_rep ht
          have hlen := hcl.length
          have hys := hl.length
          have hs1 : (a.eval x).cells.size = size := by simpa [hsz] using hlen
          have hs2 : off + (a.eval x).cells.size ≤ ys.size := by simp at hys; omega
          have hstep := fill_step off (a.eval x) ys hs2
          have hl2 : RepL S (VS.putAt cs off av.cells) ((a.eval x).cells.zipIdx.foldl (fun (cs : Array Value) (p : Value × Nat) => cs.setIfInBounds (off + p.2) p.1) ys).toList := by
            rw [hstep]
            have := RepL.putAt off hl hcl
            simpa using this
          obtain ⟨zs, hz, hz2, hz3⟩ := fillP_rep hf hr h2 hl2 (putAt_one off ho hco)
          refine ⟨zs, ?_, hz2, hz3⟩
          simp only [List.map_cons, Instr.fill, hp]
          rw [if_neg (by simp [hs1]; omega)]
          exact hz
        · cases h2
      · cases h2
    · cases h1

theorem run_places {l : List Field} {pl : List (Nat × Nat)} (h : placesOf P l = some pl) (w : World) :
    (l.mapM fun f => (do pure (f.offset, ← sizeOf f.type) : Sem (Nat × Nat))).run P w = .ok pl w := by
  induction l generalizing pl with
  | nil => simp only [placesOf, Option.some.injEq] at h; subst h; simp
  | cons f r ih =>
    simp only [placesOf] at h
    split at h
    · rename_i i l hi hr
      cases h
      simp only [List.mapM_cons, Sem.run_bind, run_sizeOf' hi, Result.andThen_ok, Sem.run_pure, ih hr]
    · cases h

theorem op_build (I : Inv S) (hf : FrOk S fr a) {t : TypeId} {ps : Array (Nat × Operand)} {sop : SOp} (ho : o.op = .build t ps) (hs : stripOp P o = some sop) :
    ∃ z sps, sop = .build z sps ∧ ∀ cs, fillP fr z sps = some cs → OpRet P o a S (.agg cs) S.st := by
  unfold stripOp at hs
  rw [ho] at hs
  simp only at hs
  have hmap : ∀ ps : Array (Nat × Operand), (ps.map fun (x : Nat × Operand) => (x.1, a.eval x.2)).toList = ps.toList.map fun p => (p.1, a.eval p.2) := by intro ps; simp
  split at hs
  · rename_i z fs hz hu
    obtain ⟨i, zv, hi, hz1, hz2⟩ := zeroOf_inv hz
    obtain ⟨hl, h1⟩ := atomsOf_rep (S := S) hz2
    split at hs
    · rename_i pl hpl
      rw [Option.map_eq_some_iff] at hs
      obtain ⟨sps, hsp, rfl⟩ := hs
      refine ⟨z, sps, rfl, fun cs hcs => ?_⟩
      obtain ⟨zs, hfill, hzs, hone⟩ := fillP_rep hf hsp hcs hl h1
      refine OpRet.same I (y := .agg zs) ?_ (by simpa using Rep.agg hzs hone)
      have hrp := run_places hpl S.w
      have e : ∀ i : Nat, pl.toArray[i]? = pl[i]? := fun i => by simp
      simp only [execOp, ho, Instr.build, Sem.run_bind, run_zero' hi hz1, Result.andThen_ok, run_underlying hu, Array.mapM_eq_mapM_toList, Sem.run_map, hrp, e, hmap, hfill, Sem.run_pure]
    · cases hs
  · rename_i z n e hz hu
    obtain ⟨i, zv, hi, hz1, hz2⟩ := zeroOf_inv hz
    obtain ⟨hl, h1⟩ := atomsOf_rep (S := S) hz2
    split at hs
    · rename_i j hj
      rw [Option.map_eq_some_iff] at hs
      obtain ⟨sps, hsp, rfl⟩ := hs
      refine ⟨z, sps, rfl, fun cs hcs => ?_⟩
      obtain ⟨zs, hfill, hzs, hone⟩ := fillP_rep hf hsp hcs hl h1
      refine OpRet.same I (y := .agg zs) ?_ (by simpa using Rep.agg hzs hone)
      simp only [execOp, ho, Instr.build, Sem.run_bind, run_zero' hi hz1, Result.andThen_ok, run_underlying hu, run_sizeOf' hj, hmap, hfill, Sem.run_pure]
    · cases hs
  · cases hs

theorem clean1_rep {S : Sim} {x b : AV} {y : Value} (h : clean1 x = some b) (hr : Rep S x y) : Rep S b y ∧ clean1 b = some b := by
  cases hr with
  | v ha => simp only [clean1, Option.some.injEq] at h; subst h; exact ⟨.v ha, rfl⟩
  | sl h1 h2 h3 h4 h5 h6 h7 h8 =>
    simp only [clean1] at h
    split at h
    · cases h
    · rename_i hne
      cases h
      exact ⟨.sl h1 h2 h3 h4 h5 h6 (fun _ => h7 hne) trivial, rfl⟩
  | fn h1 =>
    rename_i f caps ys
    cases caps with
    | nil => simp only [clean1, Option.some.injEq] at h; subst h; exact ⟨.fn h1, rfl⟩
    | cons => simp [clean1] at h
  | _ => simp [clean1] at h

theorem cleanL_rep {S : Sim} : ∀ {l m : List AV} {ys : List Value}, cleanL l = some m → RepL S l ys → RepL S m ys ∧ (∀ c ∈ m, clean1 c = some c)
  | [], m, _, h, .nil => by simp only [cleanL, Option.some.injEq] at h; subst h; exact ⟨.nil, by simp⟩
  | x :: r, m, _, h, .cons h1 h2 => by
    simp only [cleanL] at h
    split at h
    · rename_i b l hb hl
      cases h
      obtain ⟨k1, k2⟩ := clean1_rep hb h1
      obtain ⟨k3, k4⟩ := cleanL_rep hl h2
      exact ⟨.cons k1 k3, by simpa using ⟨k2, k4⟩⟩
    · cases h

theorem clean_one {l : List AV} (h : ∀ c ∈ l, clean1 c = some c) : ∀ c ∈ l, c.one = true := fun c hc => (clean1_one (h c hc)).1

theorem repeatL_length (z : List AV) (n : Nat) : (repeatL z n).length = n * z.length := by
  induction n with
  | zero => simp [repeatL]
  | succ n ih => simp [repeatL, ih, Nat.succ_mul, Nat.add_comm]

theorem RepL.rep {S : Sim} {z : List AV} {ys : List Value} (h : RepL S z ys) : ∀ n, RepL S (repeatL z n) (List.flatten (List.replicate n ys))
  | 0 => .nil
  | n + 1 => by simp only [repeatL, List.replicate_succ, List.flatten_cons]; exact h.append (RepL.rep h n)

theorem repeatL_one {z : List AV} (h : ∀ c ∈ z, c.one = true) : ∀ n, ∀ c ∈ repeatL z n, c.one = true
  | 0, c, hc => by simp [repeatL] at hc
  | n + 1, c, hc => by
    simp only [repeatL, List.mem_append] at hc
    rcases hc with hc | hc
    · exact h c hc
    · exact repeatL_one h n c hc

theorem flat_get (ys : List Value) (hz : 0 < ys.length) : ∀ (n i : Nat), i < n * ys.length → (List.flatten (List.replicate n ys))[i]? = ys[i % ys.length]?
  | 0, i, h => by omega
  | n + 1, i, h => by
    rw [List.replicate_succ, List.flatten_cons]
    rcases Nat.lt_or_ge i ys.length with hi | hi
    · rw [List.getElem?_append_left hi, Nat.mod_eq_of_lt hi]
    · rw [List.getElem?_append_right hi, flat_get ys hz n (i - ys.length) (by rw [Nat.succ_mul] at h; omega), Nat.mod_eq_sub_mod hi]

theorem range_zero (z : Array Value) (hz : 0 < z.size) (n : Nat) : ((Array.range (n * z.size)).map fun i => z[i % z.size]!) = (List.flatten (List.replicate n z.toList)).toArray := by
  apply Array.ext'
  apply List.ext_getElem?
  intro i
  simp only [Array.toList_map, Array.toList_range, List.getElem?_map]
  rcases Nat.lt_or_ge i (n * z.size) with h | h
  · rw [List.getElem?_range h, flat_get z.toList (by simpa using hz) n i (by simpa using h)]
    have hm : i % z.size < z.size := Nat.mod_lt _ hz
    simp [hm]
  · rw [List.getElem?_eq_none (by simpa using h), List.getElem?_eq_none (by simp [List.length_flatten, List.sum_replicate_nat]; simpa using h)]
    rfl

end

end VS
end Go.Proofs.Ytkhekmmldnjenaa
/- What goes out of a memory: slices of one's own blocks are frozen. -/
namespace Go.Proofs.Ytkhekmmldnjenaa
namespace VS

theorem block_cells {S : Sim} (I : Inv S) {b : Nat} {hb : HB} (hH : S.st.H[b]? = some hb) : ∃ g ys, S.hm[b]? = some g ∧ RepL S hb.cells ys ∧ (∀ x ∈ hb.cells, x.one = true) ∧ ∀ i y, ys[i]? = some y → S.w.cell? ⟨g, 0 + i, none⟩ = some y := by
  obtain ⟨g, c, ty, hg, hc, hle, hl, h1, _⟩ := I.hm_of hH
  refine ⟨g, _, hg, hl, h1, fun i y hy => ?_⟩
  rw [Nat.zero_add, cell_of_row S.w g i c ty (0, 0) hc]
  rw [List.getElem?_take] at hy
  split at hy
  · simpa using hy
  · cases hy

/-- The same memory, more of it frozen. -/
structure Frz (S S' : Sim) (s1 : St) : Prop where
  w : S'.w = S.w
  st : S'.st = s1
  B : S'.B = S.B
  A : S'.A = S.A
  hm : S'.hm = S.hm
  rm : S'.rm = S.rm
  F : s1.F = S.st.F
  ext : Ext S S'
  inv : Inv S'

theorem Frz.refl {S : Sim} (I : Inv S) : Frz S S S.st := ⟨rfl, rfl, rfl, rfl, rfl, rfl, rfl, Ext.refl S, I⟩
theorem Frz.trans {S S1 S2 : Sim} {s1 s2 : St} (h : Frz S S1 s1) (k : Frz S1 S2 s2) : Frz S S2 s2 :=
  ⟨k.w.trans h.w, k.st, k.B.trans h.B, k.A.trans h.A, k.hm.trans h.hm, k.rm.trans h.rm, k.F.trans (by rw [h.st]; exact h.F), h.ext.trans k.ext, k.inv⟩

theorem Frz.step {S S' : Sim} {st : St} (h : Frz S S' st) : Step S S' := ⟨h.ext, h.inv, by rw [h.w]; exact RowKit.Below.refl _ _⟩

theorem exp0_rep {S : Sim} (I : Inv S) {a x : AV} {y : Value} {st1 : St} (h : exp0 S.st a = some (x, st1)) (hr : Rep S a y) : ∃ S1, Frz S S1 st1 ∧ Rep S1 x y ∧ clean1 x = some x := by
  unfold exp0 at h
  split at h
  · rename_i b q n sz
    split at h
    · rename_i hb hH
      split at h
      · rename_i hle
        split at h
        · rename_i cs hcl
          cases h
          cases hr with
          | hs k1 k2 k3 k4 k5 =>
            obtain ⟨E, J⟩ := freeze_ok I hH
            obtain ⟨g', ys, hg', hl, hone, hcell⟩ := block_cells I hH
            rw [k1] at hg'; cases hg'
            rename_i g p cap c ty
            obtain ⟨k6, k7⟩ := cleanL_rep hcl ((hl.drop q).take _)
            have hcl2 : cs.length = n * sz := by rw [← k6.length, List.length_take, List.length_drop, hl.length]; omega
            have hp : p ≤ q ∧ (n * sz = 0 ∨ p = q) := by
              rcases k5 with ⟨h, _⟩ | ⟨h, h'⟩
              · exact ⟨by omega, .inr h⟩
              · have : n = 0 := by omega
                subst this
                exact ⟨h', .inl (by omega)⟩
            refine ⟨S.frz b hb, ⟨rfl, rfl, rfl, rfl, rfl, rfl, rfl, E, J⟩, ?_, by simp [clean1]⟩
            refine .sl k2 k3 (safe_frz I hH k1 _ _ (by omega)) (k6.ext E) (fun i y hy => ?_) (clean_one k7) (fun _ => k7) trivial
            rw [List.getElem?_take] at hy
            split at hy
            · rename_i hi
              rcases hp.2 with h | h
              · omega
              · rw [List.getElem?_drop] at hy
                have := hcell _ _ hy
                rw [Nat.zero_add, ← h] at this
                exact this
            · cases hy
        · cases h
      · cases h
    · cases h
  · split at h
    · rename_i b hb
      cases h
      obtain ⟨k1, k2⟩ := clean1_rep hb hr
      exact ⟨S, Frz.refl I, k1, k2⟩
    · cases h

theorem expL_rep : ∀ {l m : List AV} {S : Sim} {ys : List Value} {st1 : St}, Inv S → expL S.st l = some (m, st1) → RepL S l ys → ∃ S1, Frz S S1 st1 ∧ RepL S1 m ys ∧ ∀ c ∈ m, clean1 c = some c
  | [], m, S, _, st1, I, h, .nil => by
    simp only [expL, Option.some.injEq, Prod.mk.injEq] at h
    obtain ⟨rfl, rfl⟩ := h
    exact ⟨S, Frz.refl I, .nil, by simp⟩
  | a :: r, m, S, _, st1, I, h, .cons hr hl => by
    simp only [expL] at h
    split at h
    · rename_i x s1 h1
      split at h
      · rename_i l s2 h2
        cases h
        obtain ⟨S1, f1, r1, c1⟩ := exp0_rep I h1 hr
        obtain ⟨S2, f2, r2, c2⟩ := expL_rep (S := S1) f1.inv (by rw [f1.st]; exact h2) (hl.ext f1.ext)
        exact ⟨S2, f1.trans f2, .cons (r1.ext f2.ext) r2, by simpa using ⟨c1, c2⟩⟩
      · cases h
    · cases h

end VS
end Go.Proofs.Ytkhekmmldnjenaa
/- Slice literals; what reads and writes variables; numbers; slices and indexes. -/
namespace Go.Proofs.Ytkhekmmldnjenaa
namespace VS

section
variable {P : Program} {S : Sim} {fr : Fr} {a : Act} {o : Oper}

/-- A new block of memory that is not taken up. -/
theorem Step.fresh {S : Sim} (I : Inv S) (ob : Obj) : Step S (S.at (S.w.alloc ob)) :=
  ⟨Ext.keeps (Keeps.alloc _ _), Inv.keeps I (Keeps.alloc _ _), (RowKit.Below.refl _ _).alloc I.hB _⟩

theorem safe_new {S : Sim} (I : Inv S) (ob : Obj) (lo k : Nat) : (S.at (S.w.alloc ob)).safe S.w.heap.size lo k := by
  refine ⟨fun h => ?_, by simp [Sim.at], fun b hb => ?_, fun r fl hr => ?_⟩
  · have := I.hB; change S.w.heap.size < S.B at h; omega
  · obtain ⟨_, _, c, ty, _, hc, _⟩ := I.blk b _ hb
    have := heap_lt hc; omega
  · obtain ⟨_, c, ty, hc, _⟩ := I.rowb r _ fl hr
    have := heap_lt hc; omega

theorem cell_new (w : World) (ys : List Value) (e : TypeId) (i : Nat) : (w.alloc (.cells ys.toArray e)).cell? ⟨w.heap.size, i, none⟩ = ys[i]? := by simp

theorem op_bslice (I : Inv S) (hf : FrOk S fr a) {t : TypeId} {n : Nat} {ps : Array (Nat × Operand)} {sop : SOp} (ho : o.op = .buildSlice t n ps) (hs : stripOp P o = some sop) :
    ∃ z sps, sop = .bslice z n sps ∧ ∀ cs, fillP fr (repeatL z n) sps = some cs →
      (∀ l st1, expL S.st cs = some (l, st1) → OpRet P o a S (.sl l n .full) st1) ∧ OpRet P o a S (.sl cs n .ptrs) S.st := by
  unfold stripOp at hs
  rw [ho] at hs
  simp only at hs
  split at hs
  · rename_i e hu
    split at hs
    · rename_i i z hi hz
      split at hs
      · rename_i hc
        obtain ⟨h24, hzl, hpos⟩ := hc
        rw [Option.map_eq_some_iff] at hs
        obtain ⟨sps, hsp, rfl⟩ := hs
        refine ⟨z, sps, rfl, fun cs hcs => ?_⟩
        obtain ⟨i', zv, hi', hz1, hz2⟩ := zeroOf_inv hz
        rw [hi] at hi'; cases hi'
        obtain ⟨hl, h1⟩ := atomsOf_rep (S := S) hz2
        have hzs : zv.cells.size = i.size := by have := hl.length; simp at this; omega
        have hcells : ((Array.range (n * i.size)).map fun j => (if n * i.size = 0 then #[] else zv.cells)[j % (if n * i.size = 0 then #[] else zv.cells).size]!) = (List.flatten (List.replicate n zv.cells.toList)).toArray := by
          by_cases h0 : n * i.size = 0
          · have hn : n = 0 := by rcases Nat.mul_eq_zero.1 h0 with h | h <;> omega
            subst hn
            simp
          · rw [if_neg h0, ← hzs, range_zero _ (by omega)]
        have hrep := hl.rep n
        obtain ⟨zs, hfill, hzs2, hone⟩ := fillP_rep (ys := (List.flatten (List.replicate n zv.cells.toList)).toArray) hf hsp hcs (by simpa using hrep) (repeatL_one h1 n)
        have hmap : ∀ ps : Array (Nat × Operand), (ps.map fun (x : Nat × Operand) => (x.1, a.eval x.2)).toList = ps.toList.map fun p => (p.1, a.eval p.2) := by intro ps; simp
        have hrun : (execOp a.eval o).run P S.w = .ok (.value (.slice (some ⟨S.w.heap.size, 0, none⟩) n n)) (S.w.alloc (.cells zs e)) := by
          have h24' : ¬ (n * i.size > 2 ^ 24) := by omega
          simp only [execOp, ho, Instr.buildSlice, Sem.run_bind, run_underlying hu, Result.andThen_ok, run_sizeOf' hi, if_neg h24']
          by_cases h0 : n * i.size = 0
          · rw [if_pos h0] at hcells
            simp only [if_pos h0, Sem.run_pure, Result.andThen_ok, hcells, hmap, hfill, newRow, Sem.run_bind, run_newObj]
            rfl
          · rw [if_neg h0] at hcells
            simp only [if_neg h0, Sem.run_pure, Sem.run_bind, run_zero' hi hz1, Result.andThen_ok, hcells, hmap, hfill, newRow, run_newObj]
            rfl
        have hlen : cs.length = n * i.size ∧ zs.size = cs.length := ⟨by
          have e1 : ∀ {place : Nat → Option (Nat × Nat)} {ps : List (Nat × Operand)} {sps : List (Nat × Nat × SX)} {c c' : List AV}, partsBy place ps = some sps → fillP fr c sps = some c' → c'.length = c.length := by
            intro place ps
            induction ps with
            | nil => intro sps c c' h1 h2; simp only [partsBy, Option.some.injEq] at h1; subst h1; simp only [fillP, Option.some.injEq] at h2; rw [h2]
            | cons p r ih =>
              obtain ⟨j, x⟩ := p
              intro sps c c' h1 h2
              simp only [partsBy] at h1
              split at h1
              · cases h1
                simp only [fillP] at h2
                split at h2
                · split at h2
                  · rename_i hc
                    rw [ih (by assumption) h2]
                    simp only [VS.putAt, List.length_append, List.length_take, List.length_drop]
                    omega
                  · cases h2
                · cases h2
              · cases h1
          rw [e1 hsp hcs, repeatL_length, hzl], by simpa using hzs2.length⟩
        have hmax : n ≤ maxLen := by
          have : n ≤ n * i.size := Nat.le_mul_of_pos_right n hpos
          simp only [maxLen]; omega
        have hst := Step.fresh I (.cells zs e)
        have hL := RepL.ext hst.ext hzs2
        have hcell : ∀ j y, zs.toList[j]? = some y → (S.at (S.w.alloc (.cells zs e))).w.cell? ⟨S.w.heap.size, 0 + j, none⟩ = some y := by
          intro j y hy
          have := cell_new S.w zs.toList e j
          simp only [Array.toArray_toList] at this
          show (S.w.alloc (.cells zs e)).cell? _ = _
          rw [Nat.zero_add, this]; exact hy
        refine ⟨fun l st1 hl' => ?_, ?_⟩
        · obtain ⟨S2, f, k1, k2⟩ := expL_rep (S := S.at (S.w.alloc (.cells zs e))) hst.inv hl' hL
          refine ⟨S2, f.st, f.B, f.A, hst.trans f.step, .inl ⟨.slice (some ⟨S.w.heap.size, 0, none⟩) n n, by rw [f.w]; exact hrun, .sl (Nat.le_refl _) hmax (f.ext.safe _ _ _ (safe_new I _ _ _)) k1 (fun j y hy => by rw [f.w]; exact hcell j y hy) (clean_one k2) (fun _ => k2) rfl⟩⟩
        · exact ⟨S.at (S.w.alloc (.cells zs e)), rfl, rfl, rfl, hst, .inl ⟨_, hrun, .sl (Nat.le_refl _) hmax (safe_new I _ _ _) hL hcell hone (fun h => absurd rfl h) trivial⟩⟩
      · cases hs
    · cases hs
  · cases hs

theorem aggK_inv {t : TypeId} {k : Option Nat} (h : aggK P t = some k) (w : World) :
    (k = none ∧ (isAgg t).run P w = .ok false w) ∨ (∃ i, k = some i.size ∧ P.info? t = some i ∧ (isAgg t).run P w = .ok true w) := by
  unfold aggK at h
  split at h
  · rename_i fs hu
    split at h
    · rename_i i hi
      cases h
      exact .inr ⟨i, rfl, hi, by simp [isAgg, run_underlying hu]⟩
    · cases h
  · rename_i n e hu
    split at h
    · rename_i i hi
      cases h
      exact .inr ⟨i, rfl, hi, by simp [isAgg, run_underlying hu]⟩
    · cases h
  · rename_i d h1 h2 hu
    cases h
    refine .inl ⟨rfl, ?_⟩
    simp only [isAgg, Sem.run_bind, run_underlying hu, Result.andThen_ok]
    cases d <;> first | rfl | (exact absurd hu (h1 _)) | (exact absurd hu (h2 _ _))
  · cases h

theorem Addr_add (g o n : Nat) : (⟨g, o, none⟩ : Addr).add n = ⟨g, o + n, none⟩ := by unfold Addr.add; split <;> simp_all

/-- Reading out of memory that reads as a list of abstract cells. -/
theorem load_part {t : TypeId} {k : Option Nat} (hk : aggK P t = some k) {cs : List AV} {ys : List Value} {w : World} {g o off : Nat} {x : AV} (hl : RepL S cs ys) (h1 : ∀ c ∈ cs, c.one = true)
    (hc : ∀ i y, ys[i]? = some y → w.cell? ⟨g, o + i, none⟩ = some y) (hp : partOf cs off k = some x) : ∃ y, (loadVar t ⟨g, o + off, none⟩).run P w = .ok y w ∧ Rep S x y := by
  rcases aggK_inv hk w with ⟨rfl, hA⟩ | ⟨i, rfl, hi, hA⟩
  · simp only [partOf] at hp
    obtain ⟨y, hy, hr⟩ := hl.get off x hp
    refine ⟨y, ?_, hr⟩
    simp [loadVar, hA, hc off y hy]
  · simp only [partOf] at hp
    split at hp
    · rename_i hle
      cases hp
      have hl2 : RepL S ((cs.drop off).take i.size) ((ys.drop off).take i.size) := (hl.drop off).take _
      have hlen : ((ys.drop off).take i.size).length = i.size := by rw [hl2.length]; simp; omega
      have hcells := run_loadCells_list (P := P) w ⟨g, o + off, none⟩ ((ys.drop off).take i.size) (by
        intro j v hv
        rw [Addr_add, Nat.add_assoc]
        refine hc _ _ ?_
        rw [List.getElem?_take] at hv
        split at hv
        · simpa using hv
        · cases hv)
      rw [hlen] at hcells
      refine ⟨.agg ((ys.drop off).take i.size).toArray, ?_, .agg hl2 (fun c hc' => h1 c (List.mem_of_mem_drop (List.mem_of_mem_take hc')))⟩
      simp [loadVar, hA, run_sizeOf' hi, hcells]
    · cases hp

theorem load_rep (I : Inv S) {t : TypeId} {k : Option Nat} (hk : aggK P t = some k) {p x : AV} {y : Value} (hp : Rep S p y) (he : opLoad S.st k p = some x) : ∃ z, (Instr.loadAt t y).run P S.w = .ok z S.w ∧ Rep S x z := by
  cases hp with
  | ptr hb =>
    rename_i b off g
    simp only [opLoad] at he
    split at he
    · rename_i hb' hH
      obtain ⟨g', ys, hg', hl, h1, hc⟩ := block_cells I hH
      rw [hb] at hg'; cases hg'
      obtain ⟨z, hz, hr⟩ := load_part hk hl h1 hc he
      rw [Nat.zero_add] at hz
      exact ⟨z, by simp [Instr.loadAt, Instr.sureAddr, hz], hr⟩
    · cases he
  | ep hs hl hc h1 =>
    simp only [opLoad] at he
    obtain ⟨z, hz, hr⟩ := load_part hk hl h1 hc he
    exact ⟨z, by simp [Instr.loadAt, Instr.sureAddr, hz], hr⟩
  | _ => simp [opLoad] at he

theorem op_load (I : Inv S) (hf : FrOk S fr a) {t : TypeId} {x : Operand} {sx : SX} {k : Option Nat} {p av : AV} (ho : o.op = .load t x) (hk : aggK P t = some k) (hx : stripX x = some sx) (he : evX fr sx = some p)
    (hl : opLoad S.st k p = some av) : OpRet P o a S av S.st := by
  obtain ⟨z, hz, hr⟩ := load_rep I hk (stripX_rep hf hx he) hl
  exact OpRet.same I (y := z) (by simp [execOp, ho, hz]) hr

theorem op_store (I : Inv S) (hf : FrOk S fr a) {t : TypeId} {x z : Operand} {s1 s2 : SX} {i : TypeInfo} {p av : AV} {st : St} (ho : o.op = .store t x z) (hi : P.info? t = some i) (hx : stripX x = some s1) (hz : stripX z = some s2)
    (e1 : evX fr s1 = some p) (e2 : evX fr s2 = some av) (hs : opStore S.st i.size p av = some st) : OpRet P o a S und st := by
  have hp := stripX_rep hf hx e1
  have hv := stripX_rep hf hz e2
  generalize hy : a.eval x = y at hp
  cases hp with
  | ptr hb =>
    rename_i b off g
    simp only [opStore] at hs
    split at hs
    · rename_i hb' hH
      split at hs
      · rename_i hcnd
        obtain ⟨hfz, htup, hlen, hfit⟩ := hcnd
        cases hs
        obtain ⟨hcl, hco⟩ := hv.cells_rep htup
        obtain ⟨g', c, ty, hg', hc, hle, hl, h1, hB⟩ := I.hm_of hH
        rw [hb] at hg'; cases hg'
        have hvl : (a.eval z).cells.toList.length = i.size := by rw [hcl.length, hlen]
        have hone : ∀ v ∈ (a.eval z).cells.toList, v.oneCell' = true := by
          intro v hv'
          obtain ⟨j, hj⟩ := List.mem_iff_getElem?.1 hv'
          obtain ⟨av', h2, h3⟩ := hcl.get' j v hj
          exact h3.oneCell (hco av' (List.mem_of_getElem? h2))
        have hst := run_storeCells_at P g off ty (a.eval z).cells.toList 0 c S.w hc (by omega) hone
        simp only [Nat.add_zero] at hst
        generalize hcdef : (c.toList.take off ++ (a.eval z).cells.toList ++ c.toList.drop (off + (a.eval z).cells.toList.length)).toArray = c' at hst
        have hsz : c'.size = c.size := by
          rw [← hcdef]
          simp only [List.size_toArray, List.length_append, List.length_take, List.length_drop, Array.length_toList]
          simp only [Array.length_toList] at hvl
          omega
        have hh := setRow_heap S.w g c c' ty (0, 0) hc
        have hoth : ∀ k, k ≠ g → (S.w.setRow g c').heap[k]? = S.w.heap[k]? := fun k hk => setRow_other S.w g k c' hk
        have hwsz : (S.w.setRow g c').heap.size = S.w.heap.size := by simp [World.setRow]
        have hplen : (VS.putAt hb'.cells off av.cells).length = hb'.cells.length := by
          simp only [VS.putAt, List.length_append, List.length_take, List.length_drop]; omega
        have hl' : RepL S (VS.putAt hb'.cells off av.cells) (c'.toList.take (VS.putAt hb'.cells off av.cells).length) := by
          have h3 := RepL.putAt off hl hcl
          rw [hplen, ← hcdef]
          have e3 : (c.toList.take hb'.cells.length).take off ++ (a.eval z).cells.toList ++ (c.toList.take hb'.cells.length).drop (off + (a.eval z).cells.toList.length) =
              (c.toList.take off ++ (a.eval z).cells.toList ++ c.toList.drop (off + (a.eval z).cells.toList.length)).take hb'.cells.length := by
            rw [List.take_take, Nat.min_eq_left (by omega), List.drop_take, List.take_append, List.take_of_length_le (l := _ ++ _) (by simp only [List.length_append, List.length_take, Array.length_toList] at *; omega)]
            congr 2
            simp only [List.length_append, List.length_take, Array.length_toList] at *
            omega
          rw [e3] at h3
          exact h3
        have E := Ext.block I (w' := S.w.setRow g c') (hb' := { hb' with cells := VS.putAt hb'.cells off av.cells }) hb hH hc hh hsz hwsz hoth (fun h => by rw [hfz] at h; cases h)
        have J := Inv.block I (w' := S.w.setRow g c') (hb' := { hb' with cells := VS.putAt hb'.cells off av.cells }) hb hH hc hh hsz hwsz hoth (fun h => by rw [hfz] at h; cases h)
          (by rw [hplen, hsz]; exact hle) hl' (putAt_one off h1 hco)
        refine ⟨{ S with w := S.w.setRow g c', st := { S.st with H := S.st.H.set b { hb' with cells := VS.putAt hb'.cells off av.cells } } }, rfl, rfl, rfl,
          ⟨E, J, ⟨rfl, rfl, rfl, Nat.le_of_eq hwsz.symm, fun k hk => hoth k (by omega)⟩⟩, .inr ⟨?_, rfl⟩⟩
        have hnot : ¬ ((a.eval z).cells.size ≠ i.size) := by simp only [Array.length_toList] at hvl; omega
        simp [execOp, ho, Instr.storeAt, Instr.sureAddr, hy, storeVar, run_sizeOf' hi, hst, hvl.symm]
      · cases hs
    · cases hs
  | _ => simp [opStore] at hs

end

end VS
end Go.Proofs.Ytkhekmmldnjenaa
/- '==' of structs and arrays that hold whole numbers alone: as their cells are. -/
namespace Go.Proofs.Ytkhekmmldnjenaa
namespace VS

def eqV : List Value → List Value → Option Bool
  | [], [] => some true
  | .int k a :: r, .int k' b :: s => if k = k' then (eqV r s).map fun t => (a == b) && t else none
  | _, _ => none

theorem eqV_append {x1 x2 y1 y2 : List Value} (h : x1.length = y1.length) : eqV (x1 ++ x2) (y1 ++ y2) = (eqV x1 y1).bind fun a => (eqV x2 y2).map fun b => a && b := by
  induction x1 generalizing y1 with
  | nil => cases y1 with
    | nil => simp [eqV]
    | cons => simp at h
  | cons x r ih => cases y1 with
    | nil => simp at h
    | cons y s =>
      have ih' := ih (y1 := s) (by simpa using h)
      simp only [List.cons_append]
      cases x <;> cases y <;> simp only [eqV, Option.bind_none]
      rename_i k a k' b
      split
      · rw [ih']
        cases eqV r s with
        | none => simp
        | some v => cases eqV x2 y2 <;> simp [Bool.and_assoc]
      · simp

theorem eqV_append_some {x1 x2 y1 y2 : List Value} {b : Bool} (h : x1.length = y1.length) (he : eqV (x1 ++ x2) (y1 ++ y2) = some b) : ∃ c d, eqV x1 y1 = some c ∧ eqV x2 y2 = some d ∧ b = (c && d) := by
  rw [eqV_append h] at he
  cases h1 : eqV x1 y1 with
  | none => rw [h1] at he; simp at he
  | some c =>
    cases h2 : eqV x2 y2 with
    | none => rw [h1, h2] at he; simp at he
    | some d => rw [h1, h2] at he; simp at he; exact ⟨c, d, rfl, rfl, he.symm⟩

section
variable {P : Program}

def valOf (P : Program) (t : TypeId) (cx : List Value) : Value :=
  match P.underlying t with
  | some (.struct _) | some (.array _ _) => .agg cx.toArray
  | _ => cx.headD undef

theorem sized_inv {t : TypeId} {n : Option Nat} {k : Nat} (h : sized P t n = some k) : n = some k ∧ ∃ i, P.info? t = some i ∧ i.size = k := by
  unfold sized at h
  split at h
  · rename_i m i hi
    split at h
    · rename_i he; cases h; exact ⟨rfl, i, hi, he⟩
    · cases h
  · cases h

theorem part_val {d n : Nat} {t : TypeId} (h : intsOnly P d t = some n) (xs : Array Value) (off : Nat) (hle : off + n ≤ xs.size) (w : World) :
    (part t xs off).run P w = .ok (valOf P t ((xs.toList.drop off).take n)) w := by
  cases d with
  | zero => simp [intsOnly] at h
  | succ d =>
    simp only [intsOnly] at h
    split at h
    · rename_i k hu
      obtain ⟨hn, i, hi, hs⟩ := sized_inv h
      cases hn
      have hlt : off < xs.size := by omega
      have hA : (isAgg t).run P w = .ok false w := by simp [isAgg, run_underlying hu]
      have e : valOf P t ((xs.toList.drop off).take 1) = xs[off] := by
        unfold valOf
        rw [hu]
        simp [List.take_one, List.head?_drop, hlt]
      simp [part, hA, hlt, e]
    · rename_i fs hu
      split at h
      · obtain ⟨_, i, hi, hs⟩ := sized_inv h
        have hA : (isAgg t).run P w = .ok true w := by simp [isAgg, run_underlying hu]
        have e : valOf P t ((xs.toList.drop off).take n) = .agg (xs.extract off (off + n)) := by
          unfold valOf; rw [hu]
          simp only [Value.agg.injEq]
          apply Array.ext'
          simp [List.take_drop]
        simp [part, hA, run_sizeOf' hi, hs, e]
      · cases h
    · rename_i m e hu
      obtain ⟨_, i, hi, hs⟩ := sized_inv h
      have hA : (isAgg t).run P w = .ok true w := by simp [isAgg, run_underlying hu]
      have e : valOf P t ((xs.toList.drop off).take n) = .agg (xs.extract off (off + n)) := by
        unfold valOf; rw [hu]
        simp only [Value.agg.injEq]
        apply Array.ext'
        simp [List.take_drop]
      simp [part, hA, run_sizeOf' hi, hs, e]
    · cases h

theorem eqArray (d : Nat) (len : Nat) (e t : TypeId) (n : Nat) (xs ys : Array Value) (w : World) (ht : P.underlying t = some (.array len e)) {i : TypeInfo} (hi : P.info? e = some i) (hn : i.size = n) (bs : Nat → Bool)
    (hb : ∀ j, j < len → ∃ u v, (part e xs (j * n)).run P w = .ok u w ∧ (part e ys (j * n)).run P w = .ok v w ∧ (Op.equalIn d e u v).run P w = .ok (bs j) w) :
    (Op.equalIn (d + 1) t (.agg xs) (.agg ys)).run P w = .ok ((List.range len).all bs) w := by
  simp only [Op.equalIn, Sem.run_bind, run_underlying ht, Result.andThen_ok, run_sizeOf' hi, hn]
  rw [Std.Legacy.Range.forIn_eq_forIn_range']
  simp only [Std.Legacy.Range.size, Nat.sub_zero, Nat.add_sub_cancel, Nat.div_one]
  rw [← List.range_eq_range']
  have key : ∀ (l : List Nat), (∀ j ∈ l, j < len) →
      ((forIn l ((none, ()) : Option Bool × Unit) fun i (_ : Option Bool × Unit) => do
        let a ← part e xs (i * n)
        let b ← part e ys (i * n)
        let r ← Op.equalIn d e a b
        if (!r) = true then pure (ForInStep.done ((some false, ()) : Option Bool × Unit)) else pure (ForInStep.yield (none, ())) : Sem (Option Bool × Unit))).run P w =
      .ok (if l.all bs then (none, ()) else (some false, ())) w := by
    intro l hl
    induction l with
    | nil => simp
    | cons j r ih =>
      obtain ⟨u, v, h1, h2, h3⟩ := hb j (hl j (by simp))
      simp only [List.forIn_cons, Sem.run_bind, h1, Result.andThen_ok, h2, h3, Sem.run_ite]
      cases hbj : bs j
      · simp [hbj]
      · simp only [Bool.not_true, Bool.false_eq_true, if_false, Sem.run_pure, Result.andThen_ok]
        rw [ih fun k hk => hl k (by simp [hk])]
        simp [hbj]
  have := key (List.range len) (fun j hj => List.mem_range.1 hj)
  rw [this]
  cases (List.range len).all bs <;> simp

theorem eqV_range (n : Nat) : ∀ (len : Nat) (cx cy : List Value) (b : Bool), cx.length = len * n → cy.length = len * n → eqV cx cy = some b →
    ∃ bs : Nat → Bool, (∀ j, j < len → eqV ((cx.drop (j * n)).take n) ((cy.drop (j * n)).take n) = some (bs j)) ∧ (List.range len).all bs = b
  | 0, cx, cy, b, h1, h2, he => by
    have e1 : cx = [] := List.eq_nil_of_length_eq_zero (by simpa using h1)
    have e2 : cy = [] := List.eq_nil_of_length_eq_zero (by simpa using h2)
    subst e1; subst e2
    simp only [eqV, Option.some.injEq] at he; subst he
    exact ⟨fun _ => true, fun j hj => by omega, rfl⟩
  | len + 1, cx, cy, b, h1, h2, he => by
    have hx : cx = cx.take (len * n) ++ cx.drop (len * n) := (List.take_append_drop _ _).symm
    have hy : cy = cy.take (len * n) ++ cy.drop (len * n) := (List.take_append_drop _ _).symm
    have hle : len * n ≤ (len + 1) * n := Nat.mul_le_mul_right _ (by omega)
    rw [Nat.succ_mul] at h1 h2
    rw [hx, hy] at he
    obtain ⟨c, d, e1, e2, rfl⟩ := eqV_append_some (by simp; omega) he
    obtain ⟨bs, hb1, hb2⟩ := eqV_range n len (cx.take (len * n)) (cy.take (len * n)) c (by simp; omega) (by simp; omega) e1
    refine ⟨fun j => if j = len then d else bs j, fun j hj => ?_, ?_⟩
    · by_cases hj' : j = len
      · subst hj'
        simp only [if_true]
        rw [List.take_of_length_le (by simp; omega), List.take_of_length_le (by simp; omega)]
        exact e2
      · simp only [if_neg hj']
        have hlt : j < len := by omega
        have := hb1 j hlt
        have hm : j * n + n ≤ len * n := by rw [← Nat.succ_mul]; exact Nat.mul_le_mul_right _ hlt
        rw [List.drop_take, List.drop_take, List.take_take, List.take_take, Nat.min_eq_left (by omega)] at this
        exact this
    · rw [List.range_succ, List.all_append]
      have : (List.range len).all (fun j => if j = len then d else bs j) = (List.range len).all bs := by
        rw [Bool.eq_iff_iff, List.all_eq_true, List.all_eq_true]
        constructor <;> intro h j hj <;> have h1 := h j hj <;> have h2 := List.mem_range.1 hj <;> have h3 : ¬ j = len := by omega
        · simpa [h3] using h1
        · simpa [h3] using h1
      simp [this, hb2]

theorem eq_ints : ∀ (d : Nat) (t : TypeId) (n : Nat) (cx cy : List Value) (b : Bool) (w : World), intsOnly P d t = some n → cx.length = n → cy.length = n → eqV cx cy = some b →
    ∀ D, d ≤ D → (Op.equalIn D t (valOf P t cx) (valOf P t cy)).run P w = .ok b w
  | 0, t, n, cx, cy, b, w, h, _, _, _, _, _ => by simp [intsOnly] at h
  | d + 1, t, n, cx, cy, b, w, h, h1, h2, he, D, hD => by
    obtain ⟨D, rfl⟩ : ∃ E, D = E + 1 := ⟨D - 1, by omega⟩
    simp only [intsOnly] at h
    split at h
    · rename_i k hu
      obtain ⟨hn, _⟩ := sized_inv h
      cases hn
      obtain ⟨x, rfl⟩ := List.length_eq_one_iff.1 h1
      obtain ⟨y, rfl⟩ := List.length_eq_one_iff.1 h2
      cases x <;> cases y <;> simp only [eqV] at he <;> try (cases he; done)
      rename_i k1 a k2 c
      split at he
      · rename_i hk; subst hk
        simp at he; subst he
        have e : ∀ v, valOf P t [v] = v := fun v => by unfold valOf; rw [hu]; rfl
        rw [e, e]
        exact run_equalIn_int w D t k1 k a c hu
      · cases he
    · rename_i fs hu
      split at h
      · rename_i hst
        obtain ⟨hn, _⟩ := sized_inv h
        have e : ∀ c : List Value, valOf P t c = .agg c.toArray := fun c => by unfold valOf; rw [hu]
        have hf : P.fieldsOf t = fs := by simp [Program.fieldsOf, hu]
        rw [e, e, run_equalIn_struct w D t _ _ (by rw [hf]; exact hu) hst, hf]
        have key : ∀ (l : List Field) (o m : Nat) (b : Bool), fieldsInts (intsOnly P d) l o = some m → m = n → eqV (cx.drop o) (cy.drop o) = some b → o ≤ n →
            (Op.eqFields D cx.toArray cy.toArray l).run P w = .ok b w := by
          intro l
          induction l with
          | nil =>
            intro o m b hm hmn hb ho
            simp only [fieldsInts, Option.some.injEq] at hm
            have e1 : cx.drop o = [] := List.drop_eq_nil_of_le (by omega)
            have e2 : cy.drop o = [] := List.drop_eq_nil_of_le (by omega)
            rw [e1, e2] at hb
            simp only [eqV, Option.some.injEq] at hb; subst hb
            rfl
          | cons f r ih =>
            intro o m b hm hmn hb ho
            simp only [fieldsInts] at hm
            split at hm
            · rename_i k hk
              split at hm
              · rename_i hc
                obtain ⟨hoff, hname⟩ := hc
                have hmono : ∀ (l : List Field) (o m : Nat), fieldsInts (intsOnly P d) l o = some m → o ≤ m := by
                  intro l
                  induction l with
                  | nil => intro o m h; simp only [fieldsInts, Option.some.injEq] at h; omega
                  | cons g s ih2 =>
                    intro o m h
                    simp only [fieldsInts] at h
                    split at h
                    · split at h
                      · have := ih2 _ _ h; omega
                      · cases h
                    · cases h
                have hle := hmono _ _ _ hm
                have hx : cx.drop o = (cx.drop o).take k ++ cx.drop (o + k) := by rw [← List.drop_drop]; exact (List.take_append_drop _ _).symm
                have hy : cy.drop o = (cy.drop o).take k ++ cy.drop (o + k) := by rw [← List.drop_drop]; exact (List.take_append_drop _ _).symm
                rw [hx, hy] at hb
                obtain ⟨c1, d1, e1, e2, rfl⟩ := eqV_append_some (by simp; omega) hb
                have p1 := part_val hk cx.toArray o (by simp; omega) w
                have p2 := part_val hk cy.toArray o (by simp; omega) w
                have p3 := eq_ints d f.type k _ _ c1 w hk (by simp; omega) (by simp; omega) e1 D (by omega)
                simp only [Op.eqFields, if_pos hname, hoff, Sem.run_bind, p1, Result.andThen_ok, p2, p3, Sem.run_ite]
                cases c1
                · simp
                · simp only [Bool.not_true, Bool.false_eq_true, if_false, Bool.true_and]
                  exact ih (o + k) m d1 hm hmn e2 (by omega)
              · cases hm
            · cases hm
        exact key fs.toList 0 n b hn rfl (by simpa using he) (Nat.zero_le _)
      · cases h
    · rename_i m e hu
      obtain ⟨hn, _⟩ := sized_inv h
      rw [Option.map_eq_some_iff] at hn
      obtain ⟨k, hk, rfl⟩ := hn
      have e' : ∀ c : List Value, valOf P t c = .agg c.toArray := fun c => by unfold valOf; rw [hu]
      rw [e', e']
      obtain ⟨bs, hb1, hb2⟩ := eqV_range k m cx cy b h1 h2 he
      have hik : ∃ i, P.info? e = some i ∧ i.size = k := by
        cases d with
        | zero => simp [intsOnly] at hk
        | succ d =>
          simp only [intsOnly] at hk
          split at hk
          · exact (sized_inv hk).2
          · split at hk
            · exact (sized_inv hk).2
            · cases hk
          · exact (sized_inv hk).2
          · cases hk
      obtain ⟨i, hi, his⟩ := hik
      rw [← hb2]
      refine eqArray D m e t k _ _ w hu hi his bs fun j hj => ?_
      have hm : j * k + k ≤ m * k := by rw [← Nat.succ_mul]; exact Nat.mul_le_mul_right _ hj
      exact ⟨_, _, part_val hk cx.toArray (j * k) (by simp; omega) w, part_val hk cy.toArray (j * k) (by simp; omega) w,
        eq_ints d e k _ _ (bs j) w hk (by simp; omega) (by simp; omega) (hb1 j hj) D (by omega)⟩
    · cases h

end

end VS
end Go.Proofs.Ytkhekmmldnjenaa
/- Numbers and tests; slices; addresses of fields and elements. -/
namespace Go.Proofs.Ytkhekmmldnjenaa
namespace VS

section
variable {P : Program} {S : Sim} {fr : Fr} {a : Act} {o : Oper}

theorem binInt_run {op : BinOp} {k : IntKind} {x y : Int} {z : Value} {t : TypeId} (hs : isShift op = false) (h : binInt op k x y = some z) (w : World) : (binOp op t (.int k x) (.int k y)).run P w = .ok z w ∧ atom z = true := by
  cases op <;> (try (cases hs; done)) <;> simp only [binInt, Option.some.injEq] at h <;>
    first
    | (cases h; done)
    | (subst h; exact ⟨by simp [binOp, Op.intArith, Op.intBits, Op.intCmp], rfl⟩)
    | (split at h
       · cases h
       · rename_i h0
         cases h
         exact ⟨by simp [binOp, Op.intDiv, h0], rfl⟩)

theorem shiftInt_run {op : BinOp} {k k' : IntKind} {x y : Int} {z : Value} {t : TypeId} (h : shiftInt op k x y = some z) (w : World) : (binOp op t (.int k x) (.int k' y)).run P w = .ok z w ∧ atom z = true := by
  unfold shiftInt at h
  split at h
  · cases h
  · rename_i h0
    cases op <;> simp only [Option.some.injEq, reduceCtorEq] at h <;> (subst h; exact ⟨by simp [binOp, Op.shift, h0], rfl⟩)

theorem negIf_run {op : BinOp} {b : Bool} {z : Value} {t : TypeId} {x y : Value} (h : negIf op b = some z) (w : World) (hx : ∀ k n, x ≠ .int k n) (hf : ∀ k n, x ≠ .float k n) (hc : ∀ k n m, x ≠ .complex k n m) (hst : ∀ s, x ≠ .string s)
    (he : (Op.equal t x y).run P w = .ok b w) : (binOp op t x y).run P w = .ok z w ∧ atom z = true := by
  cases op <;> simp only [negIf, Option.some.injEq, reduceCtorEq] at h <;> subst h <;> refine ⟨?_, rfl⟩ <;>
    (cases x <;> first | (exact absurd rfl (hx _ _)) | (exact absurd rfl (hf _ _)) | (exact absurd rfl (hc _ _ _)) | (exact absurd rfl (hst _)) | (simp [binOp, he]))

theorem sameCells_eqV {S : Sim} : ∀ {xs ys : List AV} {us vs : List Value} {b : Bool}, sameCells xs ys = some b → RepL S xs us → RepL S ys vs → eqV us vs = some b
  | [], [], _, _, b, h, .nil, .nil => by simpa [sameCells, eqV] using h
  | [], _ :: _, _, _, b, h, _, _ => by simp [sameCells] at h
  | x :: r, [], _, _, b, h, _, _ => by cases x <;> (try (rename_i v; cases v)) <;> simp [sameCells] at h
  | x :: r, y :: s, _, _, b, h, .cons h1 h2, .cons h3 h4 => by
    cases x <;> (try (simp [sameCells] at h; done))
    rename_i x
    cases x <;> (try (simp [sameCells] at h; done))
    cases y <;> (try (simp [sameCells] at h; done))
    rename_i y
    cases y <;> (try (simp [sameCells] at h; done))
    simp only [sameCells] at h
    split at h
    · rename_i hk
      rw [Option.map_eq_some_iff] at h
      obtain ⟨c, hc, rfl⟩ := h
      obtain ⟨rfl, _⟩ := h1.v_inv
      obtain ⟨rfl, _⟩ := h3.v_inv
      simp only [eqV, if_pos hk, sameCells_eqV hc h2 h4, Option.map_some]
    · cases h

theorem eqGuard_ok {op : BinOp} {t : TypeId} {x y : Operand} {u v : Value} (w : World) (h : (u = .nilIface → v = .nilIface → (isConstX x || isConstX y) = true)) (hg : ∀ xs ys, u = .agg xs → v = .agg ys → P.eqGuardType P.depth t = false) :
    (eqGuard op t x y u v).run P w = .ok () w := by
  have key : ∀ op, (op = BinOp.eql ∨ op = BinOp.neq) → (eqGuard op t x y u v).run P w = .ok () w := by
    intro op hop
    cases u <;> cases v <;> first
      | (rcases hop with rfl | rfl <;> rfl)
      | skip
    · have := h rfl rfl
      rcases hop with rfl | rfl <;> cases x <;> cases y <;> simp [isConstX] at this <;> simp [eqGuard]
    · have := hg _ _ rfl rfl
      rcases hop with rfl | rfl <;> simp [eqGuard, this]
  cases op <;> first
    | exact key _ (.inl rfl)
    | exact key _ (.inr rfl)
    | rfl

theorem nilEq_some {x y : Option Bool} {b : Bool} (h : nilEq x y = some b) : (x = some true ∧ y = some b) ∨ (x = some false ∧ y = some true ∧ b = false) := by
  cases x with
  | none => simp [nilEq] at h
  | some x => cases x <;> cases y with
    | none => simp [nilEq] at h
    | some y => cases y <;> simp [nilEq] at h <;> subst h <;> simp

theorem eqS1 (d : Nat) {t e : TypeId} (ht : P.underlying t = some (.slice e)) (w : World) (b : Option Addr) (n m k l : Nat) : (Op.equalIn (d + 1) t (.slice none n m) (.slice b k l)).run P w = .ok b.isNone w := by
  simp [Op.equalIn, run_underlying ht]
theorem eqS2 (d : Nat) {t e : TypeId} (ht : P.underlying t = some (.slice e)) (w : World) (b : Addr) (n m k l : Nat) : (Op.equalIn (d + 1) t (.slice (some b) k l) (.slice none n m)).run P w = .ok false w := by
  simp [Op.equalIn, run_underlying ht]
theorem eqF0 (d : Nat) {t : TypeId} {p r : Array TypeId} {vv : Bool} (ht : P.underlying t = some (.func p r vv)) (w : World) : (Op.equalIn (d + 1) t .nilFunc .nilFunc).run P w = .ok true w := by
  simp [Op.equalIn, run_underlying ht]
theorem eqF1 (d : Nat) {t : TypeId} {p r : Array TypeId} {vv : Bool} (ht : P.underlying t = some (.func p r vv)) (w : World) (f : Fn) (x y : Array Value) : (Op.equalIn (d + 1) t .nilFunc (.func f x y)).run P w = .ok false w := by
  simp [Op.equalIn, run_underlying ht]
theorem eqF2 (d : Nat) {t : TypeId} {p r : Array TypeId} {vv : Bool} (ht : P.underlying t = some (.func p r vv)) (w : World) (f : Fn) (x y : Array Value) : (Op.equalIn (d + 1) t (.func f x y) .nilFunc).run P w = .ok false w := by
  simp [Op.equalIn, run_underlying ht]
theorem eqP1 (d : Nat) {t e : TypeId} (ht : P.underlying t = some (.pointer e)) (w : World) (b : Option Addr) : (Op.equalIn (d + 1) t (.pointer none) (.pointer b)).run P w = .ok b.isNone w := by
  simp [Op.equalIn, run_underlying ht]
theorem eqP2 (d : Nat) {t e : TypeId} (ht : P.underlying t = some (.pointer e)) (w : World) (b : Addr) : (Op.equalIn (d + 1) t (.pointer (some b)) (.pointer none)).run P w = .ok false w := by
  simp [Op.equalIn, run_underlying ht]
theorem eqI0 (d : Nat) {t : TypeId} {ms : Array (String × TypeId)} (ht : P.underlying t = some (.interface ms)) (w : World) : (Op.equalIn (d + 1) t .nilIface .nilIface).run P w = .ok true w := by
  simp [Op.equalIn, run_underlying ht]
theorem eqI1 (d : Nat) {t : TypeId} {ms : Array (String × TypeId)} (ht : P.underlying t = some (.interface ms)) (w : World) (u : TypeId) (x : Value) : (Op.equalIn (d + 1) t .nilIface (.iface u x)).run P w = .ok false w := by
  simp [Op.equalIn, run_underlying ht]
theorem eqI2 (d : Nat) {t : TypeId} {ms : Array (String × TypeId)} (ht : P.underlying t = some (.interface ms)) (w : World) (u : TypeId) (x : Value) : (Op.equalIn (d + 1) t (.iface u x) .nilIface).run P w = .ok false w := by
  simp [Op.equalIn, run_underlying ht]

theorem isNilS_true {av : AV} {y : Value} (hr : Rep S av y) (h : isNilS av = some true) : y = .slice none 0 0 := by
  unfold isNilS at h
  split at h
  · exact hr.v_inv.1
  · cases h
  · cases h
  · cases h
  · cases h
theorem isNilS_false {av : AV} {y : Value} (hr : Rep S av y) (h : isNilS av = some false) : ∃ b n c, y = .slice (some b) n c := by
  unfold isNilS at h
  split at h
  · cases h
  · exact ⟨_, _, _, hr.v_inv.1⟩
  · cases hr; exact ⟨_, _, _, rfl⟩
  · cases hr; exact ⟨_, _, _, rfl⟩
  · cases h
theorem isNilF_true {av : AV} {y : Value} (hr : Rep S av y) (h : isNilF av = some true) : y = .nilFunc := by
  unfold isNilF at h
  split at h
  · exact hr.v_inv.1
  · cases h
  · cases h
theorem isNilF_false {av : AV} {y : Value} (hr : Rep S av y) (h : isNilF av = some false) : ∃ b n c, y = .func b n c := by
  unfold isNilF at h
  split at h
  · cases h
  · cases hr; exact ⟨_, _, _, rfl⟩
  · cases h
theorem isNilP_true {av : AV} {y : Value} (hr : Rep S av y) (h : isNilP av = some true) : y = .pointer none := by
  unfold isNilP at h
  split at h
  · exact hr.v_inv.1
  · cases h
  · cases h
  · cases h
theorem isNilP_false {av : AV} {y : Value} (hr : Rep S av y) (h : isNilP av = some false) : ∃ b, y = .pointer (some b) := by
  unfold isNilP at h
  split at h
  · cases h
  · cases hr; exact ⟨_, rfl⟩
  · cases hr; exact ⟨_, rfl⟩
  · cases h

theorem op_bin (I : Inv S) (hf : FrOk S fr a) {op : BinOp} {t ty : TypeId} {x y : Operand} {s1 s2 : SX} {u v : AV} {z : Value} (ho : o.op = .binOp op t x y ty) (hx : stripX x = some s1) (hy : stripX y = some s2)
    (e1 : evX fr s1 = some u) (e2 : evX fr s2 = some v) (hz : binAV op (eqkOf P t x y) u v = some z) : OpRet P o a S (.v z) S.st := by
  have hu := stripX_rep hf hx e1
  have hv := stripX_rep hf hy e2
  generalize hxe : a.eval x = xv at hu
  generalize hye : a.eval y = yv at hv
  suffices h : (eqGuard op t x y xv yv).run P S.w = .ok () S.w ∧ (binOp op t xv yv).run P S.w = .ok z S.w ∧ atom z = true by
    refine OpRet.same I (y := z) ?_ (.v h.2.2)
    simp only [execOp, ho, hxe, hye, Sem.run_bind, h.1, h.2.1, Result.andThen_ok, Sem.run_pure]
  have nilable : ∀ (f : AV → Option Bool) (N : Value) (hN : ∀ av y, Rep S av y → f av = some true → y = N) (hne : ∀ av y, Rep S av y → f av = some false → (Op.equal t y N).run P S.w = .ok false S.w ∧ (Op.equal t N y).run P S.w = .ok false S.w)
      (hNN : (Op.equal t N N).run P S.w = .ok true S.w) (hatom : (∀ k n, N ≠ .int k n) ∧ (∀ k n, N ≠ .float k n) ∧ (∀ k n m, N ≠ .complex k n m) ∧ (∀ s, N ≠ .string s) ∧ N ≠ .nilIface)
      (hnon : ∀ av y, Rep S av y → f av = some false → (∀ k n, y ≠ .int k n) ∧ (∀ k n, y ≠ .float k n) ∧ (∀ k n m, y ≠ .complex k n m) ∧ (∀ s, y ≠ .string s) ∧ y ≠ .nilIface ∧ ∀ xs, y ≠ .agg xs)
      (hag : ∀ xs, N ≠ .agg xs) (b : Bool), nilEq (f u) (f v) = some b → negIf op b = some z →
      (eqGuard op t x y xv yv).run P S.w = .ok () S.w ∧ (binOp op t xv yv).run P S.w = .ok z S.w ∧ atom z = true := by
    intro f N hN hne hNN hatom hnon hag b hb hop
    rcases nilEq_some hb with ⟨h1, h2⟩ | ⟨h1, h2, rfl⟩
    · have hxN := hN u xv hu h1
      subst hxN
      cases b
      · have hk := hnon v yv hv h2
        refine ⟨eqGuard_ok _ (fun h => absurd h hatom.2.2.2.2) (fun xs ys h => absurd h (hag xs)), negIf_run hop _ hatom.1 hatom.2.1 hatom.2.2.1 hatom.2.2.2.1 (hne v yv hv h2).2⟩
      · have hyN := hN v yv hv h2
        subst hyN
        exact ⟨eqGuard_ok _ (fun h => absurd h hatom.2.2.2.2) (fun xs ys h => absurd h (hag xs)), negIf_run hop _ hatom.1 hatom.2.1 hatom.2.2.1 hatom.2.2.2.1 hNN⟩
    · have hyN := hN v yv hv h2
      subst hyN
      have hk := hnon u xv hu h1
      exact ⟨eqGuard_ok _ (fun h => absurd h hk.2.2.2.2.1) (fun xs ys h => absurd h (hk.2.2.2.2.2 xs)), negIf_run hop _ hk.1 hk.2.1 hk.2.2.1 hk.2.2.2.1 (hne u xv hu h1).1⟩
  unfold binAV at hz
  split at hz
  · obtain ⟨rfl, _⟩ := hu.v_inv
    obtain ⟨rfl, _⟩ := hv.v_inv
    have hg : ∀ k k' m n, (eqGuard op t x y (.int k m) (.int k' n)).run P S.w = .ok () S.w := fun k k' m n => eqGuard_ok _ (fun h => by cases h) (fun _ _ h => by cases h)
    split at hz
    · exact ⟨hg _ _ _ _, shiftInt_run hz _⟩
    · split at hz
      · rename_i hs hk
        subst hk
        exact ⟨hg _ _ _ _, binInt_run (by simpa using hs) hz _⟩
      · cases hz
  · obtain ⟨rfl, _⟩ := hu.v_inv
    obtain ⟨rfl, _⟩ := hv.v_inv
    split at hz
    · rename_i hq
      have ht : P.underlying t = some .bool := by
        unfold eqkOf at hq
        split at hq <;> first | assumption | (cases hq; done) | (split at hq <;> cases hq)
      refine ⟨eqGuard_ok _ (fun h => by cases h) (fun _ _ h => by cases h), negIf_run hz _ (by simp) (by simp) (by simp) (by simp) ?_⟩
      show (Op.equalIn (9999 + 1) t _ _).run P S.w = _
      exact run_equalIn_bool' S.w 9999 t _ _ ht
    · cases hz
  · obtain ⟨rfl, _⟩ := hu.v_inv
    obtain ⟨rfl, _⟩ := hv.v_inv
    refine ⟨eqGuard_ok _ (fun h => by cases h) (fun _ _ h => by cases h), ?_⟩
    cases op <;> simp only [negIf] at hz <;> first | (cases hz; done) | (cases hz; exact ⟨by simp [binOp, Op.stringOp], rfl⟩)
  · rename_i xs ys
    split at hz
    · rename_i n hq
      split at hz
      · rename_i hn
        rw [Option.bind_eq_some_iff] at hz
        obtain ⟨b, hb, hop⟩ := hz
        have hq' : P.eqGuardType P.depth t = false ∧ intsOnly P 8 t = some n ∧ (∀ c, valOf P t c = .agg c.toArray) := by
          unfold eqkOf at hq
          split at hq <;> first | (cases hq; done) | skip
          · rename_i hu'
            split at hq
            · rename_i n' h1 h2; cases hq; exact ⟨h1, h2, fun c => by unfold valOf; rw [hu']⟩
            · cases hq
          · rename_i hu'
            split at hq
            · rename_i n' h1 h2; cases hq; exact ⟨h1, h2, fun c => by unfold valOf; rw [hu']⟩
            · cases hq
        cases hu with
        | agg hl1 ho1 =>
          cases hv with
          | agg hl2 ho2 =>
            rename_i us vs
            have he := sameCells_eqV hb hl1 hl2
            have hlen : us.length = n := by rw [hl1.length, hn]
            have hlen2 : vs.length = n := by
              have : ∀ (xs ys : List AV) (b : Bool), sameCells xs ys = some b → xs.length = ys.length := by
                intro xs
                induction xs with
                | nil => intro ys b h; cases ys <;> simp [sameCells] at h ⊢
                | cons x r ih =>
                  intro ys b h
                  cases x <;> (try (simp [sameCells] at h; done))
                  rename_i x
                  cases x <;> (try (simp [sameCells] at h; done))
                  cases ys with
                  | nil => simp [sameCells] at h
                  | cons y s =>
                    cases y <;> (try (simp [sameCells] at h; done))
                    rename_i y
                    cases y <;> (try (simp [sameCells] at h; done))
                    simp only [sameCells] at h
                    split at h
                    · rw [Option.map_eq_some_iff] at h
                      obtain ⟨c, hc, _⟩ := h
                      simp [ih s c hc]
                    · cases h
              rw [hl2.length, ← this _ _ _ hb, hn]
            refine ⟨eqGuard_ok _ (fun h => by cases h) (fun _ _ _ _ => hq'.1), negIf_run hop _ (by simp) (by simp) (by simp) (by simp) ?_⟩
            have := eq_ints 8 t n us vs b S.w hq'.2.1 hlen hlen2 he 10000 (by omega)
            rw [hq'.2.2, hq'.2.2] at this
            exact this
      · cases hz
    · cases hz
  · split at hz
    · rename_i hq
      have ht : ∃ e, P.underlying t = some (.slice e) := by
        unfold eqkOf at hq
        split at hq <;> first | exact ⟨_,  by assumption⟩ | (cases hq; done) | (split at hq <;> cases hq)
      obtain ⟨e, ht⟩ := ht
      rw [Option.bind_eq_some_iff] at hz
      obtain ⟨b, hb, hop⟩ := hz
      refine nilable isNilS (.slice none 0 0) ?_ ?_ ?_ ⟨by simp, by simp, by simp, by simp, by simp⟩ ?_ (by simp) b hb hop
      · exact fun av y hr h => isNilS_true hr h
      · intro av y hr h
        obtain ⟨_, _, _, rfl⟩ := isNilS_false hr h
        exact ⟨eqS2 9999 ht _ _ _ _ _ _, eqS1 9999 ht _ _ _ _ _ _⟩
      · exact eqS1 9999 ht _ _ _ _ _ _
      · intro av y hr h
        obtain ⟨_, _, _, rfl⟩ := isNilS_false hr h
        simp
    · rename_i hq
      have ht : ∃ p r v, P.underlying t = some (.func p r v) := by
        unfold eqkOf at hq
        split at hq <;> first | exact ⟨_, _, _,  by assumption⟩ | (cases hq; done) | (split at hq <;> cases hq)
      obtain ⟨p, r, vv, ht⟩ := ht
      rw [Option.bind_eq_some_iff] at hz
      obtain ⟨b, hb, hop⟩ := hz
      refine nilable isNilF (.nilFunc) ?_ ?_ ?_ ⟨by simp, by simp, by simp, by simp, by simp⟩ ?_ (by simp) b hb hop
      · exact fun av y hr h => isNilF_true hr h
      · intro av y hr h
        obtain ⟨_, _, _, rfl⟩ := isNilF_false hr h
        exact ⟨eqF2 9999 ht _ _ _ _, eqF1 9999 ht _ _ _ _⟩
      · exact eqF0 9999 ht _
      · intro av y hr h
        obtain ⟨_, _, _, rfl⟩ := isNilF_false hr h
        simp
    · rename_i hq
      have ht : ∃ e, P.underlying t = some (.pointer e) := by
        unfold eqkOf at hq
        split at hq <;> first | exact ⟨_,  by assumption⟩ | (cases hq; done) | (split at hq <;> cases hq)
      obtain ⟨e, ht⟩ := ht
      rw [Option.bind_eq_some_iff] at hz
      obtain ⟨b, hb, hop⟩ := hz
      refine nilable isNilP (.pointer none) ?_ ?_ ?_ ⟨by simp, by simp, by simp, by simp, by simp⟩ ?_ (by simp) b hb hop
      · exact fun av y hr h => isNilP_true hr h
      · intro av y hr h
        obtain ⟨_, rfl⟩ := isNilP_false hr h
        exact ⟨eqP2 9999 ht _ _, eqP1 9999 ht _ _⟩
      · exact eqP1 9999 ht _ _
      · intro av y hr h
        obtain ⟨_, rfl⟩ := isNilP_false hr h
        simp
    · rename_i c hq
      have ht : (∃ ms, P.underlying t = some (.interface ms)) ∧ c = (isConstX x || isConstX y) := by
        unfold eqkOf at hq
        split at hq <;> first | (cases hq; exact ⟨⟨_, by assumption⟩, rfl⟩) | (cases hq; done) | (split at hq <;> cases hq)
      obtain ⟨⟨ms, ht⟩, hcc⟩ := ht
      split at hz
      · split at hz
        · rename_i hc
          obtain ⟨rfl, _⟩ := hu.v_inv
          obtain ⟨rfl, _⟩ := hv.v_inv
          refine ⟨eqGuard_ok _ (fun _ _ => by rw [← hcc]; exact hc) (fun _ _ h => by cases h), negIf_run hz _ (by simp) (by simp) (by simp) (by simp) ?_⟩
          exact eqI0 9999 ht _
        · cases hz
      · obtain ⟨rfl, _⟩ := hv.v_inv
        cases hu
        refine ⟨eqGuard_ok _ (fun h => by cases h) (fun _ _ h => by cases h), negIf_run hz _ (by simp) (by simp) (by simp) (by simp) ?_⟩
        exact eqI2 9999 ht _ _ _
      · obtain ⟨rfl, _⟩ := hu.v_inv
        cases hv
        refine ⟨eqGuard_ok _ (fun _ h => by cases h) (fun _ _ h => by cases h), negIf_run hz _ (by simp) (by simp) (by simp) (by simp) ?_⟩
        exact eqI1 9999 ht _ _ _
      · cases hz
    · cases hz

end

end VS
end Go.Proofs.Ytkhekmmldnjenaa
/- The other operations that read no memory, or make some. -/
namespace Go.Proofs.Ytkhekmmldnjenaa
namespace VS

section
variable {P : Program} {S : Sim} {fr : Fr} {a : Act} {o : Oper}

theorem op_un (I : Inv S) (hf : FrOk S fr a) {op : UnOp} {t : TypeId} {x : Operand} {sx : SX} {u : AV} {z : Value} (ho : o.op = .unOp op t x) (hx : stripX x = some sx) (he : evX fr sx = some u) (hz : unAV op u = some z) : OpRet P o a S (.v z) S.st := by
  have hu := stripX_rep hf hx he
  unfold unAV at hz
  split at hz
  · obtain ⟨hv, _⟩ := hu.v_inv
    cases hz
    exact OpRet.same I (by simp [execOp, ho, hv, Op.unary, Op.intArith]) (.v rfl)
  · obtain ⟨hv, _⟩ := hu.v_inv
    simp only [binInt, Option.some.injEq] at hz
    subst hz
    exact OpRet.same I (by simp [execOp, ho, hv, Op.unary, Op.intBits]) (.v rfl)
  · obtain ⟨hv, _⟩ := hu.v_inv
    cases hz
    exact OpRet.same I (by simp [execOp, ho, hv, Op.unary]) (.v rfl)
  · cases hz

theorem op_conv (I : Inv S) (hf : FrOk S fr a) {s d : TypeId} {x : Operand} {sx : SX} {k k' : IntKind} {n : Int} {ds : TypeDesc} (ho : o.op = .convert s d x) (hs : P.underlying s = some ds) (hd : P.underlying d = some (.int k)) (hx : stripX x = some sx)
    (he : evX fr sx = some (.v (.int k' n))) : OpRet P o a S (.v (.int k (k.wrap n))) S.st := by
  obtain ⟨hv, _⟩ := (stripX_rep hf hx he).v_inv
  refine OpRet.same I (y := .int k (k.wrap n)) ?_ (.v rfl)
  simp only [execOp, ho, hv, convert, Sem.run_bind, run_underlying hs, run_underlying hd, Result.andThen_ok]
  cases ds <;> simp [Conv.intToInt]

theorem bytesOf_rep {S : Sim} : ∀ {cs : List AV} {xs : List Int} {ys : List Value}, bytesOf cs = some xs → RepL S cs ys → ys = xs.map (Value.int .u8)
  | [], xs, _, h, .nil => by simp only [bytesOf, Option.some.injEq] at h; subst h; rfl
  | c :: r, xs, _, h, .cons h1 h2 => by
    unfold bytesOf at h
    split at h
    · simp at *
    · rename_i n r' heq
      cases heq
      rw [Option.map_eq_some_iff] at h
      obtain ⟨l, hl, rfl⟩ := h
      obtain ⟨rfl, _⟩ := h1.v_inv
      rw [bytesOf_rep hl h2]; rfl
    · cases h

theorem op_tostr (I : Inv S) (hf : FrOk S fr a) {s d e : TypeId} {x : Operand} {sx : SX} {u : AV} {z : ORes} {st : St} (ho : o.op = .convert s d x) (hs : P.underlying s = some (.slice e)) (hd : P.underlying d = some .string) (he' : P.underlying e = some (.int .u8))
    (hx : stripX x = some sx) (he : evX fr sx = some u) (hz : (match u with
      | .v (.slice _ 0 0) => some (ORes.ret (.v (.string (strOfNums []))), S.st)
      | .sl cs n _ => (match bytesOf cs with
        | some xs => if xs.length = n then some (.ret (.v (.string (strOfNums xs))), S.st) else none
        | none => none)
      | _ => none) = some (z, st)) : ∃ r, z = .ret r ∧ OpRet P o a S r st := by
  have hu := stripX_rep hf hx he
  generalize hy : a.eval x = y at hu
  split at hz
  · cases hz
    obtain ⟨rfl, _⟩ := hu.v_inv
    refine ⟨_, rfl, OpRet.same I (y := .string (strOfNums [])) ?_ (.v rfl)⟩
    rename_i q _ _
    have hrun : (convert s d (.slice q 0 0)).run P S.w = .ok (.string (strOfNums [])) S.w := by
      cases q with
      | none => exact run_convert_bytes_nil S.w s e hs he' 0 0 d hd
      | some q =>
        rw [run_convert_bytes_string S.w s d e _ 0 0 hs he' hd, run_bytesToString S.w _ 0 0 [] (by simp [loadCells, loadCellsFrom])]
        rfl
    simp only [execOp, ho, hy, Sem.run_bind, hrun, Result.andThen_ok, Sem.run_pure]
  · rename_i cs n t _
    split at hz
    · rename_i xs hxs
      split at hz
      · rename_i hlen
        cases hz
        cases hu with
        | sl h1 h2 h3 h4 h5 h6 h7 h8 =>
          rename_i g off cap ys
          have hys := bytesOf_rep hxs h4
          refine ⟨_, rfl, OpRet.same I (y := .string (strOfNums xs)) ?_ (.v rfl)⟩
          have := run_convert_bytes_arg S.w s e hs he' g off n cap xs hlen (fun i hi => h5 i _ (by rw [hys, List.getElem?_map, List.getD_eq_getElem?_getD, List.getElem?_eq_getElem (show i < xs.length by omega)]; rfl)) d hd
          simp only [execOp, ho, hy, Sem.run_bind, this, Result.andThen_ok, Sem.run_pure]
      · cases hz
    · cases hz
  · cases hz

theorem op_nilck (I : Inv S) (hf : FrOk S fr a) {x : Operand} {sx : SX} {u : AV} (ho : o.op = .nilCheck x) (hx : stripX x = some sx) (he : evX fr sx = some u)
    (hk : (∃ b off, u = .ptr b off) ∨ (∃ cs off, u = .ep cs off) ∨ (∃ f caps, u = .fn f caps)) : OpRet P o a S u S.st := by
  have hu := stripX_rep hf hx he
  refine OpRet.same I (y := a.eval x) ?_ hu
  generalize hy : a.eval x = y at hu
  rcases hk with ⟨b, off, rfl⟩ | ⟨cs, off, rfl⟩ | ⟨f, caps, rfl⟩
  · cases hu; simp [execOp, ho, hy]
  · cases hu; simp [execOp, ho, hy]
  · cases hu; simp [execOp, ho, hy]

theorem op_s2ap (I : Inv S) (hf : FrOk S fr a) {t e : TypeId} {n m : Nat} {x : Operand} {sx : SX} {cs : List AV} {tg : Tag} (ho : o.op = .sliceToArrayPointer t x) (ht : P.underlying t = some (.array n e)) (hx : stripX x = some sx)
    (he : evX fr sx = some (.sl cs m tg)) (hle : n ≤ m) : OpRet P o a S (.ep cs 0) S.st := by
  have hu := stripX_rep hf hx he
  generalize hy : a.eval x = y at hu
  cases hu with
  | sl h1 h2 h3 h4 h5 h6 h7 h8 =>
    rename_i g off cap ys
    refine OpRet.same I (y := .pointer (some ⟨g, off + 0, none⟩)) ?_ (.ep h3 h4 h5 h6)
    have : ¬ m < n := by omega
    simp [execOp, ho, hy, Instr.arrayAt, run_underlying ht, this]

theorem op_mkifc (I : Inv S) (hf : FrOk S fr a) {t : TypeId} {d : TypeDesc} {x : Operand} {sx : SX} {u : AV} (ho : o.op = .makeInterface t x) (ht : P.underlying t = some d) (hd : ∀ ms, d ≠ .interface ms) (hx : stripX x = some sx) (he : evX fr sx = some u) :
    OpRet P o a S (.ifc t u) S.st := by
  have hu := stripX_rep hf hx he
  refine OpRet.same I (y := .iface t (a.eval x)) ?_ (.ifc hu)
  simp only [execOp, ho, Instr.makeInterface, Sem.run_bind, run_underlying ht, Result.andThen_ok]
  cases d <;> first | (exact absurd rfl (hd _)) | rfl

theorem op_mkfn (I : Inv S) (hf : FrOk S fr a) {f : FuncId} {first caps : Array Operand} {l : List SX} {as : List AV} (ho : o.op = .makeFunc (.func f) first caps) (h0 : first.isEmpty = true) (hx : stripXs caps.toList = some l) (he : evXs fr l = some as) :
    OpRet P o a S (.fn f as) S.st := by
  have hu := stripXs_rep hf hx he
  have h0' : first = #[] := by simpa using h0
  subst h0'
  have e : caps.map a.eval = (caps.toList.map a.eval).toArray := by apply Array.ext'; simp
  refine OpRet.same I (y := .func (.func f) #[] (caps.map a.eval)) ?_ (e ▸ .fn hu)
  simp [execOp, ho, Instr.makeFunc]

theorem op_mkslice (I : Inv S) (hf : FrOk S fr a) {t e : TypeId} {i : TypeInfo} {z : List AV} {x y : Operand} {s1 s2 : SX} {u v : AV} {n m : Int} (ho : o.op = .makeSlice t x y) (ht : P.underlying t = some (.slice e)) (hi : P.info? e = some i) (hz : zeroOf P e = some z)
    (hzl : z.length = i.size) (hpos : 0 < i.size) (hx : stripX x = some s1) (hy : stripX y = some s2) (e1 : evX fr s1 = some u) (e2 : evX fr s2 = some v) (hu : asNum u = some n) (hv : asNum v = some m)
    (hc : 0 ≤ n ∧ n ≤ m ∧ m * i.bytes ≤ most47 ∧ m ≤ maxLen) : OpRet P o a S (.hs S.st.H.length 0 n.toNat z.length) { S.st with H := S.st.H ++ [{ cells := repeatL z m.toNat, fz := false }] } := by
  obtain ⟨h0, hnm, hby, hmax⟩ := hc
  have num : ∀ {av : AV} {k : Int} {w : Value}, asNum av = some k → Rep S av w → ∃ q, w = .int q k := by
    intro av k w h hr
    unfold asNum at h
    split at h
    · cases h; exact ⟨_, hr.v_inv.1⟩
    · cases h
  obtain ⟨q1, hx'⟩ := num hu (stripX_rep hf hx e1)
  obtain ⟨q2, hy'⟩ := num hv (stripX_rep hf hy e2)
  obtain ⟨i', zv, hi', hz1, hz2⟩ := zeroOf_inv hz
  rw [hi] at hi'; cases hi'
  obtain ⟨hl, hone⟩ := atomsOf_rep (S := S) hz2
  have hzs : zv.cells.size = i.size := by have := hl.length; simp at this; omega
  obtain ⟨n', rfl⟩ := Int.eq_ofNat_of_zero_le h0
  obtain ⟨m', rfl⟩ := Int.eq_ofNat_of_zero_le (Int.le_trans h0 hnm)
  have hrep := hl.rep m'
  obtain ⟨S', hw, hst, hB, hA, hs, hr⟩ := Step.alloc I e hrep (repeatL_one hone m')
  have e47 : ((most47 : Nat) : Int) = 140737488355328 := rfl
  have e63 : ((maxLen : Nat) : Int) = 9223372036854775807 := rfl
  rw [e47] at hby
  rw [e63] at hmax
  have wl : IntKind.i64.wrap (n' : Int) = n' := IntWalk.i64_in _ (by omega)
  have wm : IntKind.i64.wrap (m' : Int) = m' := IntWalk.i64_in _ (by omega)
  have hby' : (i.bytes : Int) * m' ≤ 140737488355328 := by rw [Int.mul_comm]; exact hby
  have hcells : ((Array.range (m' * i.size)).map fun j => (if m' * i.size = 0 then #[] else zv.cells)[j % (if m' * i.size = 0 then #[] else zv.cells).size]!) = (List.flatten (List.replicate m' zv.cells.toList)).toArray := by
    by_cases h0 : m' * i.size = 0
    · have hn : m' = 0 := by rcases Nat.mul_eq_zero.1 h0 with h | h <;> omega
      subst hn
      simp
    · rw [if_neg h0, ← hzs, range_zero _ (by omega)]
  refine ⟨S', by simpa using hst, hB, hA, hs, .inl ⟨.slice (some ⟨S.w.heap.size, 0, none⟩) n' m', ?_, ?_⟩⟩
  · rw [hw]
    have g1 : ¬ ((m' : Int) < 0) := by omega
    have g2 : ¬ ((i.bytes : Int) * m' > 281474976710656) := by omega
    have g3 : ¬ ((n' : Int) < 0) := by omega
    have g4 : ¬ ((n' : Int) > m') := by omega
    have g2' : ¬ (281474976710656 < (i.bytes : Int) * m') := by omega
    have g4' : ¬ (m' < n') := by omega
    simp only [execOp, ho, hx', hy', Instr.makeSlice, asInt, asIntOf, Sem.run_bind, run_underlying ht, Result.andThen_ok, Sem.run_pure, run_typeInfo' hi, wl, wm, Int.toNat_natCast]
    simp only [g1, g2', g3, g4', decide_false, Bool.false_eq_true, if_false, Int.reducePow, Int.ofNat_lt, gt_iff_lt, Bool.or_self, Sem.run_pure, Result.andThen_ok, run_askRoom, Sem.run_bind, run_sizeOf' hi, Sem.run_ite]
    by_cases h0 : m' * i.size = 0
    · rw [if_pos h0] at hcells
      simp only [if_pos h0, Sem.run_pure, Result.andThen_ok, hcells, newRow, Sem.run_bind, run_newObj]
      rfl
    · rw [if_neg h0] at hcells
      simp only [if_neg h0, Sem.run_bind, run_zero' hi hz1, Sem.run_pure, Result.andThen_ok, hcells, newRow, run_newObj]
      rfl
  · generalize hyy : Value.pointer (some ⟨S.w.heap.size, 0, none⟩) = py at hr
    cases hr with
    | ptr hb =>
      cases hyy
      refine .hs hb (by omega) (by have e : maxLen = 9223372036854775807 := rfl; omega) (c := (List.flatten (List.replicate m' zv.cells.toList)).toArray) (ty := e) (by rw [hw]; exact heap_alloc_new S.w _) ?_
      rw [hzl, ← hzs]
      refine .inl ⟨rfl, ?_⟩
      simp [List.length_flatten, List.sum_replicate_nat]

end

end VS
end Go.Proofs.Ytkhekmmldnjenaa
/- Slice expressions; addresses; parts of values. -/
namespace Go.Proofs.Ytkhekmmldnjenaa
namespace VS

section
variable {P : Program} {S : Sim} {fr : Fr} {a : Act} {o : Oper}

theorem asNum_rep {av : AV} {k : Int} {w : Value} (h : asNum av = some k) (hr : Rep S av w) : ∃ q, w = .int q k := by
  unfold asNum at h
  split at h
  · cases h; exact ⟨_, hr.v_inv.1⟩
  · cases h

theorem bnd_run (hf : FrOk S fr a) {x : Operand} {so : Option SX} {d top l : Nat} (hx : stripO (some x) = some so) (h : bnd fr d so top = some l) (code : BoundsCode) (w : World) :
    (Instr.sliceBound (a.eval x) top code).run P w = .ok l w ∧ l ≤ top := by
  simp only [stripO, Option.map_eq_some_iff] at hx
  obtain ⟨sx, hsx, rfl⟩ := hx
  simp only [bnd] at h
  split at h
  · rename_i i hi
    split at h
    · rename_i hc
      cases h
      rw [Option.bind_eq_some_iff] at hi
      obtain ⟨av, h1, h2⟩ := hi
      obtain ⟨q, hq⟩ := asNum_rep h2 (stripX_rep hf hsx h1)
      refine ⟨?_, by omega⟩
      simp [Instr.sliceBound, hq, asIntOf, hc]
    · cases h
  · cases h

theorem bounds_run (hf : FrOk S fr a) {lo hi : Option Operand} {slo shi : Option SX} {n cap l h : Nat} (b : Bool) (hlo : stripO lo = some slo) (hhi : stripO hi = some shi) (h1 : bnd fr n shi n = some h) (h2 : bnd fr 0 slo h = some l) (hn : n ≤ cap) (w : World) :
    (Instr.sliceBounds b n cap (lo.map a.eval) (hi.map a.eval) none).run P w = .ok (l, h, cap) w ∧ l ≤ h ∧ h ≤ n := by
  have hh : h ≤ n ∧ ∀ code, (match hi.map a.eval with | some v => Instr.sliceBound v cap code | none => pure n).run P w = .ok h w := by
    cases hi with
    | none =>
      simp only [stripO, Option.some.injEq] at hhi; subst hhi
      simp only [bnd, Option.some.injEq] at h1; subst h1
      exact ⟨Nat.le_refl _, fun _ => rfl⟩
    | some x =>
      refine ⟨(bnd_run (P := P) hf hhi h1 .index w).2, fun code => ?_⟩
      simp only [stripO, Option.map_eq_some_iff] at hhi
      obtain ⟨sx, hsx, rfl⟩ := hhi
      simp only [bnd] at h1
      split at h1
      · rename_i i hi'
        split at h1
        · rename_i hc
          cases h1
          rw [Option.bind_eq_some_iff] at hi'
          obtain ⟨av, h3, h4⟩ := hi'
          obtain ⟨q, hq⟩ := asNum_rep h4 (stripX_rep hf hsx h3)
          have : 0 ≤ i ∧ i ≤ (cap : Int) := by omega
          simp [Instr.sliceBound, hq, asIntOf, this]
        · cases h1
      · cases h1
  have hl : l ≤ h ∧ ∀ code, (match lo.map a.eval with | some v => Instr.sliceBound v h code | none => pure 0).run P w = .ok l w := by
    cases lo with
    | none =>
      simp only [stripO, Option.some.injEq] at hlo; subst hlo
      simp only [bnd, Option.some.injEq] at h2; subst h2
      exact ⟨Nat.zero_le _, fun _ => rfl⟩
    | some x => exact ⟨(bnd_run (P := P) hf hlo h2 .index w).2, fun code => (bnd_run hf hlo h2 code w).1⟩
  refine ⟨?_, hl.1, hh.1⟩
  unfold Instr.sliceBounds
  simp only [Sem.run_bind, Sem.run_pure, Result.andThen_ok]
  have e1 := hh.2 (if b then .sliceAcap else .sliceAlen)
  have e2 := hl.2 .sliceB
  have fin : ∀ h', h' = h → ((match lo.map a.eval with
          | some v => do
            let l ← Instr.sliceBound v h' (if (none : Option Value).isSome = true then BoundsCode.slice3C else BoundsCode.sliceB)
            pure (l, h', cap)
          | none => do
            let l ← pure 0
            pure (l, h', cap)) : Sem (Nat × Nat × Nat)).run P w = .ok (l, h, cap) w := by
    intro h' hh'
    subst hh'
    cases lo with
    | none =>
      simp only [stripO, Option.some.injEq] at hlo; subst hlo
      simp only [bnd, Option.some.injEq] at h2; subst h2
      rfl
    | some x =>
      simp only [Option.map_some] at e2 ⊢
      rw [show (none : Option Value).isSome = false from rfl]
      simp only [Bool.false_eq_true, if_false, Sem.run_bind, e2, Result.andThen_ok, Sem.run_pure]
  cases hi with
  | none =>
    simp only [stripO, Option.some.injEq] at hhi; subst hhi
    simp only [bnd, Option.some.injEq] at h1; subst h1
    simp only [Option.map_none, Sem.run_bind, Sem.run_pure, Result.andThen_ok]
    exact fin _ rfl
  | some z =>
    simp only [Option.map_some] at e1 ⊢
    simp only [Sem.run_bind, e1, Result.andThen_ok]
    exact fin _ rfl

theorem Rep.cut (I : Inv S) {cs : List AV} {n l h sz : Nat} {t : Tag} {g off cap : Nat} (hr : Rep S (.sl cs n t) (.slice (some ⟨g, off, none⟩) n cap)) (hl : l ≤ h) (hh : h ≤ n) (hlen : cs.length = n * sz) :
    Rep S (.sl ((cs.drop (l * sz)).take ((h - l) * sz)) (h - l) (tagCut t (h == n))) (.slice (if cap = l then some ⟨g, off, none⟩ else some ⟨g, off + l * sz, none⟩) (h - l) (cap - l)) := by
  cases hr with
  | sl h1 h2 h3 h4 h5 h6 h7 h8 =>
    rename_i ys
    have hm : l * sz + (h - l) * sz ≤ n * sz := by rw [← Nat.add_mul]; exact Nat.mul_le_mul_right _ (by omega)
    have hk : ((cs.drop (l * sz)).take ((h - l) * sz)).length = (h - l) * sz := by simp; omega
    have hL := (h4.drop (l * sz)).take ((h - l) * sz)
    have hone : ∀ c ∈ (cs.drop (l * sz)).take ((h - l) * sz), c.one = true := fun c hc => h6 c (List.mem_of_mem_drop (List.mem_of_mem_take hc))
    have hcl : tagCut t (h == n) ≠ .ptrs → ∀ c ∈ (cs.drop (l * sz)).take ((h - l) * sz), clean1 c = some c := fun hne c hc =>
      h7 (fun he => hne (by subst he; rfl)) c (List.mem_of_mem_drop (List.mem_of_mem_take hc))
    by_cases hc : cap = l
    · have : n = l := by omega
      have : h = l := by omega
      subst hc
      have h0 : h - cap = 0 := by omega
      simp only [if_true]
      have hkk : ((cs.drop (cap * sz)).take ((h - cap) * sz)).length = 0 := by rw [hk, h0]; simp
      refine .sl (by omega) (by omega) (h3.sub I (Nat.le_refl _) (by rw [hkk]; omega)) hL (fun i y hy => ?_) hone hcl ?_
      · have : ((ys.drop (cap * sz)).take ((h - cap) * sz)).length = 0 := by rw [hL.length, hkk]
        have := (List.getElem?_eq_some_iff.1 hy).1
        omega
      · cases t with
        | ro => trivial
        | ptrs => trivial
        | full => simp only [tagCut]; split <;> simp [tagOk]; omega
        | own r e =>
          simp only [tagCut]
          split
          · obtain ⟨e1, z, k1, k2, k3⟩ := h8
            refine ⟨e1, z, k1, k2, fun hee => ?_⟩
            obtain ⟨⟨_, k4, k5⟩, _⟩ := k3 hee
            exact ⟨⟨by rw [hkk, h0]; simp, by rw [hkk]; omega, fun he => k5 (by rw [hkk] at he; omega)⟩, .inl (by omega)⟩
          · trivial
    · simp only [if_neg hc]
      refine .sl (by omega) (by omega) (h3.sub I (by omega) (by rw [hk]; omega)) hL (fun i y hy => ?_) hone hcl ?_
      · rw [Nat.add_assoc]
        refine h5 _ _ ?_
        rw [List.getElem?_take] at hy
        split at hy
        · simpa using hy
        · cases hy
      · cases t with
        | ro => trivial
        | ptrs => trivial
        | full =>
          simp only [tagCut]
          split
          · rename_i he
            have : h = n := by simpa using he
            simp only [tagOk] at h8 ⊢
            omega
          · trivial
        | own r e =>
          simp only [tagCut]
          split
          · rename_i he
            have hhn : h = n := by simpa using he
            subst hhn
            obtain ⟨e1, z, k1, k2, k3⟩ := h8
            refine ⟨e1, z, k1, k2, fun hee => ?_⟩
            obtain ⟨⟨k4, k4a, k4b⟩, k5⟩ := k3 hee
            have hzz : l * z = l * sz ∧ (h - l) * z = (h - l) * sz := by
              rcases Nat.eq_zero_or_pos h with h0 | h0
              · have : l = 0 := by omega
                subst this; subst h0; simp
              · have : h * sz = h * z := by rw [← hlen, k4]
                have := Nat.eq_of_mul_eq_mul_left h0 this
                subst this; exact ⟨rfl, rfl⟩
            have hsum : l * sz + (h - l) * sz = h * sz := by rw [← Nat.add_mul]; congr 1; omega
            refine ⟨⟨by rw [hk]; exact hzz.2.symm, by rw [hk]; omega, fun he => ?_⟩, k5.imp (fun h => by omega) ?_⟩
            · rw [hk] at he
              have := k4b (by omega)
              omega
            rintro ⟨k6, c, ty, k7, k8⟩
            refine ⟨?_, c, ty, k7, ?_⟩
            · rw [k6, hk, hlen]
              have : l * sz + (h - l) * sz = h * sz := by rw [← Nat.add_mul]; congr 1; omega
              congr 2; omega
            · have : l * z + (cap - l) * z = cap * z := by rw [← Nat.add_mul]; congr 1; omega
              rw [hzz.1] at this
              omega
          · trivial

theorem op_slice (I : Inv S) (hf : FrOk S fr a) {t e : TypeId} {i : TypeInfo} {x : Operand} {lo hi : Option Operand} {sx : SX} {slo shi : Option SX} {u y : AV} (ho : o.op = .slice t x lo hi none) (ht : P.underlying t = some (.slice e)) (hi' : P.info? e = some i)
    (hx : stripX x = some sx) (hlo : stripO lo = some slo) (hhi : stripO hi = some shi) (he : evX fr sx = some u) (hs : opSlice fr i.size slo shi u = some y) : OpRet P o a S y S.st := by
  have hu := stripX_rep hf hx he
  generalize hxv : a.eval x = xv at hu
  unfold opSlice at hs
  split at hs
  · rename_i q
    obtain ⟨rfl, _⟩ := hu.v_inv
    split at hs
    · rename_i h hh
      split at hs
      · rename_i l hl
        cases hs
        obtain ⟨hb, h1, h2⟩ := bounds_run (P := P) hf true hlo hhi hh hl (Nat.le_refl 0) S.w
        have : l = 0 := by omega
        have : h = 0 := by omega
        subst_vars
        refine OpRet.same I (y := .slice q 0 0) ?_ (.v rfl)
        cases q <;> simp [execOp, ho, hxv, Instr.sliceAt, Instr.slice, run_underlying ht, hb, run_sizeOf' hi']
      · cases hs
    · cases hs
  · split at hs
    · rename_i h hh
      split at hs
      · rename_i l hl
        split at hs
        · rename_i hlen
          cases hs
          cases hu with
          | sl k1 k2 k3 k4 k5 k6 k7 k8 =>
            rename_i cs n tg g off cap ys
            obtain ⟨hb, h1, h2⟩ := bounds_run (P := P) hf true hlo hhi hh hl k1 S.w
            have hr := Rep.cut I (.sl k1 k2 k3 k4 k5 k6 k7 k8) h1 h2 hlen
            refine OpRet.same I ?_ hr
            simp only [execOp, ho, hxv, Instr.sliceAt, Instr.slice, Sem.run_bind, run_underlying ht, Result.andThen_ok, Option.map_none, hb, run_sizeOf' hi', Sem.run_pure, Option.map_some, Addr_add]
        · cases hs
      · cases hs
    · cases hs
  · rename_i b q n z
    split at hs
    · rename_i h hh
      split at hs
      · rename_i l hl
        split at hs
        · rename_i hz
          cases hs
          subst hz
          cases hu with
          | hs k1 k2 k3 k4 k5 =>
            rename_i g p cap c ty
            obtain ⟨hb, h1, h2⟩ := bounds_run (P := P) hf true hlo hhi hh hl k2 S.w
            have hsum : l * i.size + (cap - l) * i.size = cap * i.size := by rw [← Nat.add_mul]; congr 1; omega
            have hr : Rep S (.hs b (q + l * i.size) (h - l) i.size) (.slice (if cap = l then some ⟨g, p, none⟩ else some ⟨g, p + l * i.size, none⟩) (h - l) (cap - l)) := by
              by_cases hc : cap = l
              · rw [if_pos hc]
                exact .hs k1 (by omega) (by omega) k4 (.inr ⟨by omega, by rcases k5 with ⟨h, _⟩ | ⟨_, h⟩ <;> omega⟩)
              · rw [if_neg hc]
                refine .hs k1 (by omega) (by omega) k4 (.inl ?_)
                rcases k5 with ⟨h3, h4⟩ | ⟨h3, _⟩ <;> omega
            refine OpRet.same I ?_ hr
            simp only [execOp, ho, hxv, Instr.sliceAt, Instr.slice, Sem.run_bind, run_underlying ht, Result.andThen_ok, Option.map_none, hb, run_sizeOf' hi', Sem.run_pure, Option.map_some, Addr_add]
        · cases hs
      · cases hs
    · cases hs
  · cases hs

theorem op_arrslice (I : Inv S) (hf : FrOk S fr a) {t e : TypeId} {i : TypeInfo} {x : Operand} {lo hi : Option Operand} {sx : SX} {slo shi : Option SX} {n b off l h : Nat} {hb : HB} {cs : List AV} (ho : o.op = .slice t x lo hi none) (ht : P.underlying t = some (.array n e)) (hi' : P.info? e = some i)
    (hx : stripX x = some sx) (hlo : stripO lo = some slo) (hhi : stripO hi = some shi) (he : evX fr sx = some (.ptr b off)) (hH : S.st.H[b]? = some hb) (h1 : bnd fr n shi n = some h) (h2 : bnd fr 0 slo h = some l)
    (hmax : n ≤ maxLen) (hfit : off + n * i.size ≤ hb.cells.length) (hcl : cleanL ((hb.cells.drop (off + l * i.size)).take ((h - l) * i.size)) = some cs) : OpRet P o a S (.sl cs (h - l) .ro) (S.st.freeze b hb) := by
  have hu := stripX_rep hf hx he
  generalize hxv : a.eval x = xv at hu
  cases hu with
  | ptr hg =>
    rename_i g
    obtain ⟨hb', k1, k2⟩ := bounds_run (P := P) hf false hlo hhi h1 h2 (Nat.le_refl n) S.w
    obtain ⟨g', ys, hg', hl, hone, hc⟩ := block_cells I hH
    rw [hg] at hg'; cases hg'
    obtain ⟨E, J⟩ := freeze_ok I hH
    have hle : l * i.size + (h - l) * i.size ≤ n * i.size := by rw [← Nat.add_mul]; exact Nat.mul_le_mul_right _ (by omega)
    have hL := (hl.drop (off + l * i.size)).take ((h - l) * i.size)
    obtain ⟨k3, k4⟩ := cleanL_rep hcl hL
    have hcell : ∀ j y, ((ys.drop (off + l * i.size)).take ((h - l) * i.size))[j]? = some y → (S.frz b hb).w.cell? ⟨g, off + l * i.size + j, none⟩ = some y := by
      intro j y hy
      rw [List.getElem?_take] at hy
      split at hy
      · rw [List.getElem?_drop] at hy
        have := hc _ _ hy
        rw [Nat.zero_add] at this
        exact this
      · cases hy
    have hrun : ∀ q : Nat, (execOp a.eval o).run P S.w = .ok (.value (.slice (if n = l then some ⟨g, off, none⟩ else some ⟨g, off + l * i.size, none⟩) (h - l) (n - l))) S.w := by
      intro _
      simp only [execOp, ho, hxv, Instr.sliceAt, Instr.sureAddr, Sem.run_bind, run_underlying ht, Result.andThen_ok, Sem.run_pure, Option.map_none, hb', run_sizeOf' hi', Addr_add]
      split <;> rfl
    refine ⟨S.frz b hb, rfl, rfl, rfl, ⟨E, J, RowKit.Below.refl _ _⟩, .inl ⟨_, hrun 0, ?_⟩⟩
    by_cases hnl : n = l
    · have hz : h - l = 0 := by omega
      rw [if_pos hnl]
      have hcs : cs = [] := List.eq_nil_of_length_eq_zero (by rw [← k3.length, hL.length, hz]; simp)
      subst hcs
      rw [hz]
      exact .sl (by omega) (by omega) (safe_frz I hH hg _ _ (by simp; omega)) .nil (by simp) (by simp) (by simp) trivial
    · rw [if_neg hnl]
      exact .sl (by omega) (by omega) (safe_frz I hH hg _ _ (by rw [← k3.length, List.length_take, List.length_drop, hl.length]; omega)) (RepL.ext E k3) hcell (clean_one k4) (fun _ => k4) trivial

theorem op_faddr (I : Inv S) (hf : FrOk S fr a) {s : TypeId} {fs : Array Field} {f : Nat} {fd : Field} {i : TypeInfo} {x : Operand} {sx : SX} {u v : AV} (ho : o.op = .fieldAddr s x f) (hs : P.underlying s = some (.struct fs)) (hfd : fs[f]? = some fd) (hi : P.info? fd.type = some i) (hz : i.size ≠ 0)
    (hx : stripX x = some sx) (he : evX fr sx = some u) (hv : (∃ b q, u = .ptr b q ∧ v = .ptr b (q + fd.offset)) ∨ (∃ cs q, u = .ep cs q ∧ v = .ep cs (q + fd.offset))) : OpRet P o a S v S.st := by
  have hu := stripX_rep hf hx he
  generalize hxv : a.eval x = xv at hu
  rcases hv with ⟨b, q, rfl, rfl⟩ | ⟨cs, q, rfl, rfl⟩
  · cases hu with
    | ptr hg =>
      refine OpRet.same I ?_ (.ptr hg (off := q + fd.offset))
      simp [execOp, ho, hxv, Instr.fieldAt, run_underlying hs, hfd, Instr.sureAddr, fieldPlace, run_sizeOf' hi, hz, Addr_add]
  · cases hu with
    | ep h1 h2 h3 h4 =>
      refine OpRet.same I ?_ (.ep h1 h2 h3 h4 (off := q + fd.offset))
      simp [execOp, ho, hxv, Instr.fieldAt, run_underlying hs, hfd, Instr.sureAddr, fieldPlace, run_sizeOf' hi, hz, Addr_add, Nat.add_assoc]

theorem part_rep {t : TypeId} {k : Option Nat} (hk : aggK P t = some k) {cs : List AV} {ys : List Value} {w : World} {off : Nat} {x : AV} (hl : RepL S cs ys) (h1 : ∀ c ∈ cs, c.one = true) (hp : partOf cs off k = some x) :
    ∃ y, (part t ys.toArray off).run P w = .ok y w ∧ Rep S x y := by
  rcases aggK_inv hk w with ⟨rfl, hA⟩ | ⟨i, rfl, hi, hA⟩
  · simp only [partOf] at hp
    obtain ⟨y, hy, hr⟩ := hl.get off x hp
    exact ⟨y, by simp [part, hA, hy], hr⟩
  · simp only [partOf] at hp
    split at hp
    · cases hp
      have hl2 : RepL S ((cs.drop off).take i.size) ((ys.drop off).take i.size) := (hl.drop off).take _
      refine ⟨.agg ((ys.drop off).take i.size).toArray, ?_, .agg hl2 (fun c hc' => h1 c (List.mem_of_mem_drop (List.mem_of_mem_take hc')))⟩
      have e : ys.toArray.extract off (off + i.size) = ((ys.drop off).take i.size).toArray := by apply Array.ext'; simp [List.take_drop]
      simp only [part, Sem.run_bind, hA, Result.andThen_ok, if_true, run_sizeOf' hi, Sem.run_pure, e]
    · cases hp

theorem op_field (I : Inv S) (hf : FrOk S fr a) {t : TypeId} {fs : Array Field} {f : Nat} {fd : Field} {k : Option Nat} {x : Operand} {sx : SX} {cs : List AV} {y : AV} (ho : o.op = .field t x f) (hs : P.underlying t = some (.struct fs)) (hfd : fs[f]? = some fd) (hk : aggK P fd.type = some k)
    (hx : stripX x = some sx) (he : evX fr sx = some (.agg cs)) (hp : partOf cs fd.offset k = some y) : OpRet P o a S y S.st := by
  have hu := stripX_rep hf hx he
  generalize hxv : a.eval x = xv at hu
  cases hu with
  | agg hl h1 =>
    obtain ⟨z, hz, hr⟩ := part_rep (w := S.w) hk hl h1 hp
    exact OpRet.same I (y := z) (by simp [execOp, ho, hxv, Instr.field, run_underlying hs, hfd, asAgg, hz]) hr

theorem op_iaddr_sl (I : Inv S) (hf : FrOk S fr a) {t e : TypeId} {i : TypeInfo} {x z : Operand} {s1 s2 : SX} {u v w : AV} {j : Int} (ho : o.op = .indexAddr t x z) (ht : P.underlying t = some (.slice e)) (hi : P.info? e = some i) (hx : stripX x = some s1) (hz : stripX z = some s2)
    (e1 : evX fr s1 = some u) (e2 : evX fr s2 = some v) (hj : asNum v = some j)
    (hv : (∃ cs n tg, u = .sl cs n tg ∧ 0 ≤ j ∧ j < n ∧ w = .ep cs (j.toNat * i.size)) ∨ (∃ b q n sz, u = .hs b q n sz ∧ 0 ≤ j ∧ j < n ∧ w = .ptr b (q + j.toNat * i.size))) : OpRet P o a S w S.st := by
  have hu := stripX_rep hf hx e1
  obtain ⟨q, hq⟩ := asNum_rep hj (stripX_rep hf hz e2)
  generalize hxv : a.eval x = xv at hu
  rcases hv with ⟨cs, n, tg, rfl, h0, hn, rfl⟩ | ⟨b, p, n, sz, rfl, h0, hn, rfl⟩
  · cases hu with
    | sl h1 h2 h3 h4 h5 h6 h7 h8 =>
      refine OpRet.same I ?_ (.ep h3 h4 h5 h6 (off := j.toNat * i.size))
      simp [execOp, ho, hxv, hq, Instr.indexAt, asIntOf, run_underlying ht, h0, hn, run_sizeOf' hi, Addr_add]
  · cases hu with
    | hs h1 h2 h3 h4 h5 =>
      rcases h5 with ⟨rfl, _⟩ | ⟨h5, _⟩
      rotate_left
      · omega
      refine OpRet.same I ?_ (.ptr h1 (off := _))
      simp [execOp, ho, hxv, hq, Instr.indexAt, asIntOf, run_underlying ht, h0, hn, run_sizeOf' hi, Addr_add]

theorem op_iaddr_arr (I : Inv S) (hf : FrOk S fr a) {t e : TypeId} {i : TypeInfo} {n : Nat} {x z : Operand} {s1 s2 : SX} {u v w : AV} {j : Int} (ho : o.op = .indexAddr t x z) (ht : P.underlying t = some (.array n e)) (hi : P.info? e = some i) (hx : stripX x = some s1) (hz : stripX z = some s2)
    (e1 : evX fr s1 = some u) (e2 : evX fr s2 = some v) (hj : asNum v = some j) (h0 : 0 ≤ j) (hn : j < n)
    (hv : (∃ cs q, u = .ep cs q ∧ w = .ep cs (q + j.toNat * i.size)) ∨ (∃ b q, u = .ptr b q ∧ w = .ptr b (q + j.toNat * i.size))) : OpRet P o a S w S.st := by
  have hu := stripX_rep hf hx e1
  obtain ⟨q, hq⟩ := asNum_rep hj (stripX_rep hf hz e2)
  generalize hxv : a.eval x = xv at hu
  rcases hv with ⟨cs, p, rfl, rfl⟩ | ⟨b, p, rfl, rfl⟩
  · cases hu with
    | ep h3 h4 h5 h6 =>
      refine OpRet.same I ?_ (.ep h3 h4 h5 h6 (off := p + j.toNat * i.size))
      simp [execOp, ho, hxv, hq, Instr.indexAt, asIntOf, run_underlying ht, h0, hn, run_sizeOf' hi, Addr_add, Instr.sureAddr, Nat.add_assoc]
  · cases hu with
    | ptr h1 =>
      refine OpRet.same I ?_ (.ptr h1 (off := p + j.toNat * i.size))
      simp [execOp, ho, hxv, hq, Instr.indexAt, asIntOf, run_underlying ht, h0, hn, run_sizeOf' hi, Addr_add, Instr.sureAddr]

theorem op_index (I : Inv S) (hf : FrOk S fr a) {t e : TypeId} {i : TypeInfo} {n : Nat} {k : Option Nat} {x z : Operand} {s1 s2 : SX} {cs : List AV} {v y : AV} {j : Int} (ho : o.op = .index t x z) (ht : P.underlying t = some (.array n e)) (hi : P.info? e = some i) (hk : aggK P e = some k) (hx : stripX x = some s1) (hz : stripX z = some s2)
    (e1 : evX fr s1 = some (.agg cs)) (e2 : evX fr s2 = some v) (hj : asNum v = some j) (h0 : 0 ≤ j) (hn : j < n) (hp : partOf cs (j.toNat * i.size) k = some y) : OpRet P o a S y S.st := by
  have hu := stripX_rep hf hx e1
  obtain ⟨q, hq⟩ := asNum_rep hj (stripX_rep hf hz e2)
  generalize hxv : a.eval x = xv at hu
  cases hu with
  | agg hl h1 =>
    obtain ⟨z', hz', hr⟩ := part_rep (w := S.w) hk hl h1 hp
    exact OpRet.same I (y := z') (by simp [execOp, ho, hxv, hq, Instr.index, asIntOf, run_underlying ht, h0, hn, run_sizeOf' hi, hz']) hr

theorem op_extract (I : Inv S) (hf : FrOk S fr a) {x : Operand} {sx : SX} {i : Nat} {vs : List AV} {y : AV} (ho : o.op = .extract x i) (hx : stripX x = some sx) (he : evX fr sx = some (.tup vs)) (hy : vs[i]? = some y) : OpRet P o a S y S.st := by
  have hu := stripX_rep hf hx he
  generalize hxv : a.eval x = xv at hu
  cases hu with
  | tup hl =>
    obtain ⟨z, hz, hr⟩ := hl.get i y hy
    exact OpRet.same I (y := z) (by simp [execOp, ho, hxv, Instr.extract, hz]) hr

theorem op_len (I : Inv S) (hf : FrOk S fr a) {t e ty : TypeId} {x : Operand} {sx : SX} {u : AV} {n : Nat} (ho : o.op = .call { callee := .builtin .len, args := #[x], argTypes := #[t] }) (ht : P.underlying t = some (.slice e)) (hx : stripX x = some sx) (he : evX fr sx = some u)
    (hu' : (∃ cs tg, u = .sl cs n tg) ∨ (∃ b p sz, u = .hs b p n sz) ∨ ((∃ q, u = .v (.slice q 0 0)) ∧ n = 0)) (_h : ty = o.type) : OpRet P o a S (.v (.int .i64 n)) S.st := by
  have hu := stripX_rep hf hx he
  generalize hxv : a.eval x = xv at hu
  have key : ∀ b n c, xv = .slice b n c → (execOp a.eval o).run P S.w = .ok (.value (.int .i64 n)) S.w := by
    intro b n c h
    subst h
    simp [execOp, ho, resolve, invoke, builtin, hxv, Builtin.len_, run_underlying ht, goInt]
  rcases hu' with ⟨cs, tg, rfl⟩ | ⟨b, p, sz, rfl⟩ | ⟨⟨q, rfl⟩, rfl⟩
  · cases hu; exact OpRet.same I (key _ _ _ rfl) (.v rfl)
  · cases hu; exact OpRet.same I (key _ _ _ rfl) (.v rfl)
  · obtain ⟨rfl, _⟩ := hu.v_inv; exact OpRet.same I (key _ _ _ rfl) (.v rfl)

theorem op_minmax (I : Inv S) (hf : FrOk S fr a) {mx : Bool} {ts : Array TypeId} {x y : Operand} {s1 s2 : SX} {k : IntKind} {m n : Int} (ho : o.op = .call { callee := .builtin (if mx then .max else .min), args := #[x, y], argTypes := ts }) (hx : stripX x = some s1) (hy : stripX y = some s2)
    (e1 : evX fr s1 = some (.v (.int k m))) (e2 : evX fr s2 = some (.v (.int k n))) : OpRet P o a S (.v (.int k (if mx then (if n > m then n else m) else (if n < m then n else m)))) S.st := by
  obtain ⟨h1, _⟩ := (stripX_rep hf hx e1).v_inv
  obtain ⟨h2, _⟩ := (stripX_rep hf hy e2).v_inv
  refine OpRet.same I ?_ (.v rfl)
  cases mx
  · simp [execOp, ho, resolve, invoke, builtin, h1, h2, Builtin.min_, Builtin.min2]
  · simp [execOp, ho, resolve, invoke, builtin, h1, h2, Builtin.max_, Builtin.max2]

theorem op_tassert (I : Inv S) (hf : FrOk S fr a) {xt t : TypeId} {d : TypeDesc} {ok : Bool} {x : Operand} {sx : SX} {u : TypeId} {y z r : AV} (ho : o.op = .typeAssert x xt t ok) (ht : P.underlying t = some d) (hd : ∀ ms, d ≠ .interface ms) (hz : zeroV P t = some z)
    (hx : stripX x = some sx) (he : evX fr sx = some (.ifc u y)) (hr : (u = t ∧ r = (if ok then .tup [y, .v (.bool true)] else y)) ∨ (u ≠ t ∧ ok = true ∧ r = .tup [z, .v (.bool false)])) : OpRet P o a S r S.st := by
  have hu := stripX_rep hf hx he
  generalize hxv : a.eval x = xv at hu
  cases hu with
  | ifc hy =>
    rename_i yv
    rcases hr with ⟨rfl, rfl⟩ | ⟨hne, rfl, rfl⟩
    · cases ok
      · refine OpRet.same I (y := yv) ?_ hy
        simp only [execOp, ho, hxv, Instr.typeAssert, Sem.run_bind, run_underlying ht, Result.andThen_ok]
        cases d <;> first | (exact absurd rfl (hd _)) | simp
      · refine OpRet.same I (y := .tuple #[yv, .bool true]) ?_ (by simpa using Rep.tup (.cons hy (.cons (.v (x := .bool true) rfl) .nil)))
        simp only [execOp, ho, hxv, Instr.typeAssert, Sem.run_bind, run_underlying ht, Result.andThen_ok]
        cases d <;> first | (exact absurd rfl (hd _)) | simp
    · unfold zeroV at hz
      split at hz
      · rename_i i hi
        split at hz
        · rename_i zv hzv
          have hrz := ofVal_rep (S := S) hz
          refine OpRet.same I (y := .tuple #[zv, .bool false]) ?_ (by simpa using Rep.tup (.cons hrz (.cons (.v (x := .bool false) rfl) .nil)))
          simp only [execOp, ho, hxv, Instr.typeAssert, Sem.run_bind, run_underlying ht, Result.andThen_ok]
          cases d <;> first | (exact absurd rfl (hd _)) | simp [hne, run_zero' hi hzv]
        · cases hz
      · cases hz

end

end VS
end Go.Proofs.Ytkhekmmldnjenaa
/- The built-in append, on a slice that may be appended to. -/
namespace Go.Proofs.Ytkhekmmldnjenaa
namespace VS

section
variable {P : Program} {S : Sim} {fr : Fr} {a : Act} {o : Oper}

theorem src_rep (I : Inv S) {x : AV} {xv : Value} {size m : Nat} {news : List AV} (hr : Rep S x xv) (h : srcOf S.st x size = some (news, m)) :
    ∃ ys, RepL S news ys ∧ (∀ c ∈ news, clean1 c = some c) ∧ (((∃ q, xv = .slice q 0 0) ∧ m = 0) ∨ ∃ g off c, xv = .slice (some ⟨g, off, none⟩) m c ∧ ∀ i y, ys[i]? = some y → S.w.cell? ⟨g, off + i, none⟩ = some y) := by
  unfold srcOf at h
  split at h
  · cases h
    exact ⟨[], .nil, by simp, .inl ⟨⟨_, hr.v_inv.1⟩, rfl⟩⟩
  · split at h
    · cases h
    · rename_i hne
      cases h
      cases hr with
      | sl h1 h2 h3 h4 h5 h6 h7 h8 => exact ⟨_, h4, h7 hne, .inr ⟨_, _, _, rfl, h5⟩⟩
  · split at h
    · rename_i hb hH
      split at h
      · rename_i hc
        rw [Option.map_eq_some_iff] at h
        obtain ⟨cs, hcl, he⟩ := h
        cases he
        cases hr with
        | hs k1 k2 k3 k4 k5 =>
          obtain ⟨g', ys, hg', hl, hone, hcell⟩ := block_cells I hH
          rw [k1] at hg'; cases hg'
          obtain ⟨k6, k7⟩ := cleanL_rep hcl ((hl.drop _).take _)
          refine ⟨_, k6, k7, .inr ⟨_, _, _, rfl, fun i y hy => ?_⟩⟩
          rw [List.getElem?_take] at hy
          split at hy
          · rename_i hi
            rw [List.getElem?_drop] at hy
            rcases k5 with ⟨h5, _⟩ | ⟨h5, _⟩
            · have := hcell _ _ hy
              rw [Nat.zero_add, ← h5] at this
              exact this
            · exfalso
              subst h5
              have h6 := Nat.le_zero.1 k2
              rw [h6] at hi
              omega
          · cases hy
      · cases h
    · cases h
  · cases h

theorem run_append_zero (t ty e : TypeId) {i : TypeInfo} (ht : P.underlying t = some (.slice e)) (hi : P.info? e = some i) (b : Option Addr) (n cap : Nat) (hn : n ≤ cap) (xv : Value) (hx : xv = .slice none 0 0 ∨ ∃ ad c, xv = .slice (some ad) 0 c) (w : World) :
    (Builtin.append_ #[t, t] ty #[.slice b n cap, xv]).run P w = .ok (.slice b n cap) w := by
  rcases hx with rfl | ⟨ad, c, rfl⟩
  · cases b <;> simp [Builtin.append_, run_underlying ht, run_sizeOf' hi, Builtin.lenOf, hn, Builtin.firstCells, storeCells]
  · cases b <;> simp [Builtin.append_, run_underlying ht, run_sizeOf' hi, Builtin.lenOf, hn, Builtin.firstCells, storeCells, loadCells, loadCellsFrom]

theorem run_append_room' (t ty e : TypeId) {i : TypeInfo} (ht : P.underlying t = some (.slice e)) (hi : P.info? e = some i) (w : World)
    (g o sLen sCap : Nat) (cur : Array Value) (ty0 : TypeId) (hg : w.heap[g]? = some (.cells cur ty0 (0, 0)))
    (ad : Addr) (m c : Nat) (news : List Value) (hl : news.length = m * i.size) (hnews : ∀ j u, news[j]? = some u → w.cell? (ad.add j) = some u) (h1 : ∀ u ∈ news, u.oneCell' = true)
    (hroom : sLen + m ≤ sCap) (hfit : o + sLen * i.size + news.length ≤ cur.size) :
    (Builtin.append_ #[t, t] ty #[.slice (some ⟨g, o, none⟩) sLen sCap, .slice (some ad) m c]).run P w =
      .ok (.slice (some ⟨g, o, none⟩) (sLen + m) sCap) (w.setRow g (cur.toList.take (o + sLen * i.size) ++ news ++ cur.toList.drop (o + sLen * i.size + news.length)).toArray) := by
  have hf := run_firstCells_some (P := P) w i.size m ad m c news hl hnews
  have hst := run_storeCells_at P g (o + sLen * i.size) ty0 news 0 cur w hg (by simpa using hfit) h1
  simp only [Nat.add_zero] at hst
  simp [Builtin.append_, run_underlying ht, run_sizeOf' hi, Builtin.lenOf, hroom, hf, Addr_add, hst]

theorem RepL.oneCells {l : List AV} {ys : List Value} (h : RepL S l ys) (h1 : ∀ c ∈ l, c.one = true) : ∀ u ∈ ys, u.oneCell' = true := by
  intro u hu
  obtain ⟨j, hj⟩ := List.mem_iff_getElem?.1 hu
  obtain ⟨av, h2, h3⟩ := h.get' j u hj
  exact h3.oneCell (h1 av (List.mem_of_getElem? h2))

/-- A slice that owns the row it lies in. -/
theorem own_rep {S' : Sim} {cs : List AV} {ys : List Value} {n sz r e g off cap : Nat} {c : Array Value} {ty : TypeId} (hl : RepL S' cs ys) (hcl : ∀ x ∈ cs, clean1 x = some x) (hn : n ≤ cap) (hm : cap ≤ maxLen) (hlen : cs.length = n * sz) (hF : S'.st.F[r]? = some (e, sz))
    (hr : S'.rm[r]? = some (g, off + cs.length)) (I : Inv S') (hc : S'.w.heap[g]? = some (.cells c ty (0, 0))) (hfit : off + cap * sz ≤ c.size) (hcell : ∀ i y, ys[i]? = some y → S'.w.cell? ⟨g, off + i, none⟩ = some y) (hke : cs.length ≤ e) (hz : cs.length = e → off = 0) :
    Rep S' (.sl cs n (.own r e)) (.slice (some ⟨g, off, none⟩) n cap) := by
  refine .sl hn hm ⟨fun h => ?_, heap_lt hc, fun b hb => let ⟨x, h1, h2, _⟩ := I.disj b r g _ hb hr; ⟨x, h1, h2⟩, fun r1 fl hr1 => ?_⟩ hl hcell (clean_one hcl) (fun _ => hcl) ⟨e, sz, hF, Nat.le_refl _, fun _ => ⟨⟨hlen, hke, hz⟩, .inr ⟨hr, c, ty, hc, hfit⟩⟩⟩
  · exact absurd h (Nat.not_lt.2 (I.rowb r g _ hr).1)
  · have := I.distr r1 r g fl _ hr1 hr
    subst this
    rw [hr] at hr1; cases hr1
    exact Nat.le_refl _

theorem no_room {n m cap : Nat} (h : cap = 0) (h1 : n + m ≤ cap) (hm : ¬ m = 0) : False := by omega

def Sim.addRow (S : Sim) (w' : World) (p f : Nat × Nat) : Sim := { S with w := w', hm := S.hm ++ [], rm := S.rm ++ [p], st := { H := S.st.H ++ [], F := S.st.F ++ [f] } }

theorem below_drew_alloc {S : Sim} (I : Inv S) (ob : Obj) : RowKit.Below S.B S.w (S.w.drew.alloc ob) := ((RowKit.Below.refl _ _).drew).alloc I.hB _

theorem keeps_drew_alloc (w : World) (ob : Obj) : Keeps w (w.drew.alloc ob) := (Keeps.drew w).trans (Keeps.alloc _ _)

theorem cleanL_len : ∀ {l m : List AV}, cleanL l = some m → m.length = l.length
  | [], m, h => by simp only [cleanL, Option.some.injEq] at h; subst h; rfl
  | a :: r, m, h => by
    simp only [cleanL] at h
    split at h
    · rename_i x l _ hl
      cases h
      simp [cleanL_len hl]
    · cases h

/-- A slice of a block of one's own that reaches to the block's end becomes one that may be appended to; the block is frozen. -/
theorem thaw_ok (I : Inv S) {b q n z : Nat} {hb : HB} {cs : List AV} {y : Value} (hr : Rep S (.hs b q n z) y) (hH : S.st.H[b]? = some hb) (hfz : hb.fz = false) (hlen : hb.cells.length = q + n * z) (hcl : cleanL (hb.cells.drop q) = some cs) :
    ∃ S1 : Sim, S1.w = S.w ∧ S1.st = { H := S.st.H.set b { hb with fz := true }, F := S.st.F ++ [(hb.cells.length, z)] } ∧ S1.B = S.B ∧ S1.A = S.A ∧ Ext S S1 ∧ Inv S1 ∧ Rep S1 (.sl cs n (.own S.st.F.length hb.cells.length)) y := by
  cases hr with
  | hs k1 k2 k3 k4 k5 =>
    rename_i g p cap c ty
    obtain ⟨g', ys, hg', hl, hone, hcell⟩ := block_cells I hH
    rw [k1] at hg'; cases hg'
    obtain ⟨g', c', ty', hg', hc', hle', _, _, hB⟩ := I.hm_of hH
    rw [k1] at hg'; cases hg'
    rw [k4] at hc'; cases hc'
    have nor : ∀ r fl, S.rm[r]? = some (g, fl) → False := fun r fl hr => by
      obtain ⟨x, hx, hf, _⟩ := I.disj b r g fl k1 hr
      rw [hH] at hx; cases hx
      rw [hfz] at hf; cases hf
    have hbl := (List.getElem?_eq_some_iff.1 hH).1
    let S1 : Sim := { S with rm := S.rm ++ [(g, hb.cells.length)], st := { H := S.st.H.set b { hb with fz := true }, F := S.st.F ++ [(hb.cells.length, z)] } }
    have hself : (S.st.H.set b { hb with fz := true })[b]? = some { hb with fz := true } := by rw [List.getElem?_set_self hbl]
    have rows : ∀ r g1 fl, S1.rm[r]? = some (g1, fl) → S.rm[r]? = some (g1, fl) ∨ (r = S.rm.length ∧ g1 = g ∧ fl = hb.cells.length) := by
      intro r g1 fl hr
      change (S.rm ++ [(g, hb.cells.length)])[r]? = some (g1, fl) at hr
      rcases Nat.lt_or_ge r S.rm.length with h | h
      · rw [List.getElem?_append_left h] at hr; exact .inl hr
      · rw [List.getElem?_append_right h] at hr
        have hlt := (List.getElem?_eq_some_iff.1 hr).1
        have hm := List.mem_of_getElem? hr
        simp only [List.mem_singleton, Prod.mk.injEq] at hm
        simp only [List.length_singleton] at hlt
        exact .inr ⟨by omega, hm.1, hm.2⟩
    have E : Ext S S1 := by
      refine ⟨rfl, rfl, fun _ _ h => h, fun g1 lo k h => ?_, fun _ _ _ _ _ _ => rfl, fun t k n1 g1 off cap1 ht => ?_, fun b1 g1 c1 ty1 _ hc1 => ⟨c1, hc1, rfl⟩⟩
      · have hne : g1 ≠ g := by
          intro he
          subst he
          obtain ⟨x, hx, hf⟩ := h.2.2.1 b k1
          rw [hH] at hx; cases hx
          rw [hfz] at hf; cases hf
        refine ⟨h.1, h.2.1, fun b1 hb1 => ?_, fun r fl hr => ?_⟩
        · obtain ⟨x, hx, hf⟩ := h.2.2.1 b1 hb1
          have hbb : b1 ≠ b := by
            intro he
            subst he
            change S.hm[b1]? = some g1 at hb1
            rw [k1] at hb1; cases hb1; exact hne rfl
          exact ⟨x, by show (S.st.H.set b _)[b1]? = _; rw [getElem?_set_ne' hbb]; exact hx, hf⟩
        · rcases rows r g1 fl hr with hr | ⟨_, he, _⟩
          · exact h.2.2.2 r fl hr
          · exact absurd he hne
      · cases t with
        | own r e =>
          obtain ⟨e1, sz, hF, hle, hx⟩ := ht
          refine ⟨e1, sz, by show (S.st.F ++ _)[r]? = _; rw [List.getElem?_append_left (List.getElem?_eq_some_iff.1 hF).1]; exact hF, hle, fun he => ?_⟩
          obtain ⟨h1, h2⟩ := hx he
          refine ⟨h1, h2.imp id ?_⟩
          rintro ⟨h3, h4⟩
          exact ⟨by show (S.rm ++ _)[r]? = _; rw [List.getElem?_append_left (List.getElem?_eq_some_iff.1 h3).1]; exact h3, h4⟩
        | full => exact ht
        | ro => trivial
        | ptrs => trivial
    have J : Inv S1 := by
      refine ⟨I.hB, by simp [S1, I.hl], by simp [S1, I.rl], fun b1 g1 hb1 => ?_, fun r g1 fl hr => ?_, I.dist, fun r1 r2 g1 f1 f2 h1 h2 => ?_, fun b1 r g1 fl hb1 hr => ?_, I.acl⟩
      · obtain ⟨h2, x, c1, ty1, hx, hc1, hle1, hl1, ho1⟩ := I.blk b1 g1 hb1
        refine ⟨h2, ?_⟩
        by_cases he : b1 = b
        · subst he
          rw [hH] at hx; cases hx
          exact ⟨_, c1, ty1, hself, hc1, hle1, RepL.ext E hl1, ho1⟩
        · exact ⟨x, c1, ty1, by show (S.st.H.set b _)[b1]? = _; rw [getElem?_set_ne' he]; exact hx, hc1, hle1, RepL.ext E hl1, ho1⟩
      · rcases rows r g1 fl hr with hr | ⟨_, rfl, rfl⟩
        · exact I.rowb r g1 fl hr
        · exact ⟨hB, c, ty, k4, hle'⟩
      · rcases rows r1 g1 f1 h1 with o1 | ⟨e1, e2, _⟩ <;> rcases rows r2 g1 f2 h2 with o2 | ⟨d1, d2, _⟩
        · exact I.distr r1 r2 g1 f1 f2 o1 o2
        · subst d2; exact (nor _ _ o1).elim
        · subst e2; exact (nor _ _ o2).elim
        · omega
      · rcases rows r g1 fl hr with hr | ⟨_, rfl, rfl⟩
        · obtain ⟨x, hx, hf, hle⟩ := I.disj b1 r g1 fl hb1 hr
          have hbb : b1 ≠ b := by
            intro he
            subst he
            rw [hH] at hx; cases hx
            rw [hfz] at hf; cases hf
          exact ⟨x, by show (S.st.H.set b _)[b1]? = _; rw [getElem?_set_ne' hbb]; exact hx, hf, hle⟩
        · have : b1 = b := I.dist b1 b g1 hb1 k1
          subst this
          exact ⟨_, hself, rfl, Nat.le_refl _⟩
    obtain ⟨k6, k7⟩ := cleanL_rep hcl (hl.drop q)
    have hcl2 : cs.length = n * z := by rw [cleanL_len hcl, List.length_drop]; omega
    have hp : p ≤ q ∧ (n * z = 0 ∨ p = q) := by
      rcases k5 with ⟨h, _⟩ | ⟨h, h'⟩
      · exact ⟨by omega, .inr h⟩
      · have : n = 0 := by omega
        subst this
        exact ⟨h', .inl (by omega)⟩
    have hrow : S1.rm[S.st.F.length]? = some (g, hb.cells.length) := by
      show (S.rm ++ [(g, hb.cells.length)])[S.st.F.length]? = _
      rw [← I.rl]; simp
    have hFr : S1.st.F[S.st.F.length]? = some (hb.cells.length, z) := by
      show (S.st.F ++ [(hb.cells.length, z)])[S.st.F.length]? = _
      simp
    refine ⟨S1, rfl, rfl, rfl, rfl, E, J, ?_⟩
    refine .sl k2 k3 ⟨fun h => absurd h (Nat.not_lt.2 hB), heap_lt k4, fun b1 hb1 => ?_, fun r fl hr => ?_⟩ (RepL.ext E k6) (fun i y hy => ?_) (clean_one k7) (fun _ => k7) ⟨_, z, hFr, Nat.le_refl _, fun _ => ⟨⟨hcl2, by omega, fun h => by omega⟩, ?_⟩⟩
    · have : b1 = b := I.dist b1 b g hb1 k1
      subst this
      exact ⟨_, hself, rfl⟩
    · rcases rows r g fl hr with hr | ⟨_, _, rfl⟩
      · exact (nor _ _ hr).elim
      · rw [hcl2]; omega
    · rcases hp.2 with h | h
      · have := (List.getElem?_eq_some_iff.1 hy).1
        rw [k6.length, hcl2] at this
        omega
      · rw [List.getElem?_drop] at hy
        have := hcell _ _ hy
        rw [Nat.zero_add, ← h] at this
        exact this
    · rcases k5 with ⟨h, h'⟩ | ⟨h, _⟩
      · refine .inr ⟨?_, c, ty, k4, by omega⟩
        rw [hrow, hcl2]; congr 2; omega
      · exact .inl h

/-- What an append comes to. -/
def AppRet (P : Program) (t ty : TypeId) (S : Sim) (xv yv : Value) (x : AV) (st : St) : Prop :=
  ∃ S', S'.st = st ∧ S'.B = S.B ∧ S'.A = S.A ∧ Step S S' ∧ ∃ y, (Builtin.append_ #[t, t] ty #[xv, yv]).run P S.w = .ok y S'.w ∧ Rep S' x y

/-- Where what is appended lies. -/
structure Src (S : Sim) (yv : Value) (news : List AV) (ys : List Value) (m sz : Nat) : Prop where
  L : RepL S news ys
  cl : ∀ c ∈ news, clean1 c = some c
  len : news.length = m * sz
  pos : 0 < sz
  zero : m = 0 → yv = .slice none 0 0 ∨ ∃ ad c, yv = .slice (some ad) 0 c
  full : m ≠ 0 → ∃ ad c, yv = .slice (some ad) m c ∧ ∀ j w, ys[j]? = some w → S.w.cell? (ad.add j) = some w

/-- An append to a slice that may be appended to. -/
def appSl (st : St) (sz bytes : Nat) (cs : List AV) (n : Nat) (t : Tag) (news : List AV) (m : Nat) : Option (AV × St) :=
  if m = 0 then some (.sl cs n t, st)
  else if (n + m) * bytes ≤ most47 ∧ n + m ≤ maxLen ∧ cs.length = n * sz then
    match t with
    | .full => some (.sl (cs ++ news) (n + m) (.own st.F.length (cs ++ news).length), { st with F := st.F ++ [((cs ++ news).length, sz)] })
    | .own r e => if st.F[r]? = some (e, sz) then some (.sl (cs ++ news) (n + m) (.own r (e + news.length)), { st with F := st.F.set r (e + news.length, sz) }) else none
    | _ => none
  else none

theorem append_sl (I : Inv S) {t ty e : TypeId} {i : TypeInfo} {z : List AV} {xv yv : Value} {cs news : List AV} {ys : List Value} {n m : Nat} {tg : Tag} {r : AV} {st : St} (ht : P.underlying t = some (.slice e)) (hi : P.info? e = some i) (hz : zeroOf P e = some z) (hzl : z.length = i.size)
    (hu : Rep S (.sl cs n tg) xv) (hs : Src S yv news ys m i.size) (hap : appSl S.st i.size i.bytes cs n tg news m = some (r, st)) : AppRet P t ty S xv yv r st := by
  unfold appSl at hap
  obtain ⟨hL, hcl, hnl, hpos, zero, full⟩ := hs
  obtain ⟨i', zv, hi', hz1, hz2⟩ := zeroOf_inv hz
  rw [hi] at hi'; cases hi'
  obtain ⟨hzr, hzo⟩ := atomsOf_rep (S := S) hz2
  have hzs : zv.cells.size = i.size := by have := hzr.length; simp at this; omega
  have hyl : ys.length = m * i.size := by rw [hL.length, hnl]
  have hone := hL.oneCells (clean_one hcl)
  have e47 : most47 = 140737488355328 := rfl
  have e63 : maxLen = 9223372036854775807 := rfl
  split at hap
  · rename_i hm
    cases hap
    cases hu with
    | sl k1 k2 k3 k4 k5 k6 k7 k8 =>
      exact ⟨S, rfl, rfl, rfl, Step.refl I, _, run_append_zero t ty e ht hi _ _ _ k1 yv (zero hm) S.w, .sl k1 k2 k3 k4 k5 k6 k7 k8⟩
  · rename_i hm
    split at hap
    · rename_i hb
      obtain ⟨hb1, hb2, hb3⟩ := hb
      obtain ⟨ad, c, rfl, hk⟩ := full hm
      cases hu with
      | sl k1 k2 k3 k4 k5 k6 k7 k8 =>
        rename_i g off cap zs
        have hzl2 : zs.length = n * i.size := by rw [k4.length, hb3]
        have hkc : ∀ j w, zs[j]? = some w → S.w.cell? ((⟨g, off, none⟩ : Addr).add j) = some w := fun j w hw => by rw [Addr_add]; exact k5 j w hw
        have hlen2 : (cs ++ news).length = (n + m) * i.size := by rw [List.length_append, hb3, hnl, Nat.add_mul]
        have grow : cap < n + m → ∃ (cells : Array Value) (cap2 : Nat), n + m ≤ cap2 ∧ cap2 ≤ maxLen ∧ cells.size = cap2 * i.size ∧ (∀ (j : Nat) (w : Value), (zs ++ ys)[j]? = some w → cells[j]? = some w) ∧
            (Builtin.append_ #[t, t] ty #[.slice (some ⟨g, off, none⟩) n cap, .slice (some ad) m c]).run P S.w = .ok (.slice (some ⟨S.w.heap.size, 0, none⟩) (n + m) cap2) (S.w.drew.alloc (.cells cells e)) := by
          intro hg
          have hrun := run_append_grow (P := P) S.w t ty e i zv ht hi hz1 ⟨g, off, none⟩ n cap zs hzl2 hkc ad m c ys hyl hk hg (by omega) (growslice_fits hg (by omega))
          refine ⟨_, _, grownCap_ge S.w (n + m) cap e, grownCap_le_maxLen S.w (n + m) cap e hb2, ?_, ?_, hrun⟩
          · have := grownCap_ge S.w (n + m) cap e
            simp only [Array.size_append, List.size_toArray, size_zeroCells, hzs, hyl, hzl2, ← Nat.add_mul]
            congr 1; omega
          · intro j w hw
            have hj := (List.getElem?_eq_some_iff.1 hw).1
            rw [Array.getElem?_append, if_pos (by simpa using hj)]
            simpa using hw
        have moved : ∀ {cells : Array Value} {cap2 : Nat}, n + m ≤ cap2 → cells.size = cap2 * i.size → (S.w.drew.alloc (.cells cells e)).heap[S.w.heap.size]? = some (.cells cells e (0, 0)) ∧ (cs ++ news).length ≤ cells.size := by
          intro cells cap2 h1 h2
          exact ⟨heap_alloc_new S.w.drew _, by rw [hlen2, h2]; exact Nat.mul_le_mul_right _ h1⟩
        split at hap
        · cases hap
          obtain ⟨cells, cap2, g1, g2, g3, g4, g5⟩ := grow (by simp only [tagOk] at k8; omega)
          obtain ⟨hheap, hle⟩ := moved g1 g3
          obtain ⟨E, J⟩ := new_row I (keeps_drew_alloc S.w (.cells cells e)) (g := S.w.heap.size) (fl := (cs ++ news).length) ((cs ++ news).length, i.size) (Nat.le_refl _) hheap hle
          refine ⟨S.addRow (S.w.drew.alloc (.cells cells e)) (S.w.heap.size, (cs ++ news).length) ((cs ++ news).length, i.size), ?_, rfl, rfl, ⟨E, J, below_drew_alloc I _⟩, _, g5, ?_⟩
          · simp [Sim.addRow]
          · refine own_rep (ys := zs ++ ys) (RepL.ext E (k4.append hL)) (fun c hc => ?_) g1 g2 hlen2 (by simp [Sim.addRow]) ?_ J hheap (by rw [g3]; omega) (fun j w hw => ?_) (by first | exact Nat.le_refl _ | (rw [List.length_append]; omega)) (fun _ => rfl)
            · rcases List.mem_append.1 hc with hc | hc
              · exact k7 (by simp) c hc
              · exact hcl c hc
            · show (S.rm ++ [_])[S.st.F.length]? = _
              rw [← I.rl, List.getElem?_append_right (Nat.le_refl _)]
              simp
            · show (S.w.drew.alloc (.cells cells e)).cell? _ = _
              rw [Nat.zero_add, cell_of_row _ _ _ _ _ _ hheap]
              exact g4 j w hw
        · rename_i r0 e0
          split at hap
          · rename_i hF
            cases hap
            have hk0 : 0 < news.length := by rw [hnl]; exact Nat.mul_pos (by omega) hpos
            obtain ⟨e', sz', hF', _, htag⟩ := k8
            rw [hF] at hF'; cases hF'
            obtain ⟨⟨_, hke, hkz⟩, hplace⟩ := htag rfl
            by_cases hroom : n + m ≤ cap
            · rcases hplace with h | ⟨hrm, cur, tb, hcur, hfit⟩
              · exact (no_room h hroom hm).elim
              · have hfit2 : off + n * i.size + ys.length ≤ cur.size := by
                  have : (n + m) * i.size ≤ cap * i.size := Nat.mul_le_mul_right _ hroom
                  rw [hyl]; rw [Nat.add_mul] at this; omega
                have hrun := run_append_room' (P := P) t ty e ht hi S.w g off n cap cur tb hcur ad m c ys hyl hk hone hroom hfit2
                generalize hcd : (cur.toList.take (off + n * i.size) ++ ys ++ cur.toList.drop (off + n * i.size + ys.length)).toArray = c' at hrun
                have hsz : c'.size = cur.size := by
                  rw [← hcd]
                  simp only [List.size_toArray, List.length_append, List.length_take, List.length_drop, Array.length_toList]
                  omega
                have hh := setRow_heap S.w g cur c' tb (0, 0) hcur
                have hwsz : (S.w.setRow g c').heap.size = S.w.heap.size := by simp [World.setRow]
                have hold : ∀ j, j < off + cs.length → c'[j]? = cur[j]? := by
                  intro j hj
                  rw [hb3] at hj
                  rw [← hcd]
                  simp only [List.getElem?_toArray, List.append_assoc]
                  rw [List.getElem?_append_left (by simp; omega), List.getElem?_take, if_pos hj]
                  simp
                obtain ⟨E, J⟩ := row_place I hrm hF hcur hh hsz hwsz (fun k hk => setRow_other S.w g k c' hk) hk0 (by rw [hb3, ← hL.length]; omega) hold
                refine ⟨S.row (S.w.setRow g c') r0 (g, off + cs.length + news.length) (e0 + news.length, i.size), rfl, rfl, rfl, ⟨E, J, ⟨rfl, rfl, rfl, Nat.le_of_eq hwsz.symm, fun k hk => setRow_other S.w g k c' (Nat.ne_of_lt (Nat.lt_of_lt_of_le hk (I.rowb _ _ _ hrm).1))⟩⟩, _, hrun, ?_⟩
                have hFl := (List.getElem?_eq_some_iff.1 hF).1
                have hrl := (List.getElem?_eq_some_iff.1 hrm).1
                refine own_rep (ys := zs ++ ys) (RepL.ext E (k4.append hL)) (fun c hc => ?_) hroom k2 hlen2 ?_ ?_ J hh (by rw [hsz]; exact hfit) (fun j w hw => ?_) (by rw [List.length_append]; omega) (fun h => hkz (by rw [List.length_append] at h; omega))
                · rcases List.mem_append.1 hc with hc | hc
                  · exact k7 (by simp) c hc
                  · exact hcl c hc
                · show (S.st.F.set r0 _)[r0]? = _
                  rw [List.getElem?_set_self hFl]
                · show (S.rm.set r0 _)[r0]? = _
                  rw [List.getElem?_set_self hrl, List.length_append, Nat.add_assoc]
                · show (S.w.setRow g c').cell? _ = _
                  rw [cell_of_row _ _ _ _ _ _ hh]
                  rcases Nat.lt_or_ge j zs.length with hj | hj
                  · rw [List.getElem?_append_left hj] at hw
                    rw [hold _ (by rw [k4.length] at hj; omega), ← cell_of_row S.w g _ cur tb (0, 0) hcur]
                    exact k5 j w hw
                  · rw [List.getElem?_append_right hj] at hw
                    have hj2 := (List.getElem?_eq_some_iff.1 hw).1
                    rw [← hcd]
                    simp only [List.getElem?_toArray, List.append_assoc]
                    rw [List.getElem?_append_right (by simp; omega), List.getElem?_append_left (by simp; omega)]
                    rw [← hw]
                    congr 1
                    simp; omega
            · obtain ⟨cells, cap2, g1, g2, g3, g4, g5⟩ := grow (by omega)
              obtain ⟨hheap, hle⟩ := moved g1 g3
              obtain ⟨E, J⟩ := row_moved I hF (keeps_drew_alloc S.w (.cells cells e)) (Nat.le_refl _) hheap hk0 hle
              have hFl := (List.getElem?_eq_some_iff.1 hF).1
              refine ⟨S.row (S.w.drew.alloc (.cells cells e)) r0 (S.w.heap.size, (cs ++ news).length) (e0 + news.length, i.size), rfl, rfl, rfl, ⟨E, J, below_drew_alloc I _⟩, _, g5, ?_⟩
              refine own_rep (ys := zs ++ ys) (RepL.ext E (k4.append hL)) (fun c hc => ?_) g1 g2 hlen2 ?_ ?_ J hheap (by rw [g3]; omega) (fun j w hw => ?_) (by first | exact Nat.le_refl _ | (rw [List.length_append]; omega)) (fun _ => rfl)
              · rcases List.mem_append.1 hc with hc | hc
                · exact k7 (by simp) c hc
                · exact hcl c hc
              · show (S.st.F.set r0 _)[r0]? = _
                rw [List.getElem?_set_self hFl]
              · show (S.rm.set r0 _)[r0]? = _
                rw [List.getElem?_set_self (by rw [I.rl]; exact hFl), Nat.zero_add]
              · show (S.w.drew.alloc (.cells cells e)).cell? _ = _
                rw [Nat.zero_add, cell_of_row _ _ _ _ _ _ hheap]
                exact g4 j w hw
          · cases hap
        · cases hap
    · cases hap

theorem op_append (I : Inv S) (hf : FrOk S fr a) {t e : TypeId} {i : TypeInfo} {z : List AV} {x y : Operand} {s1 s2 : SX} {u v r : AV} {st : St} (ho : o.op = .call { callee := .builtin .append, args := #[x, y], argTypes := #[t, t] }) (ht : P.underlying t = some (.slice e)) (hi : P.info? e = some i) (hz : zeroOf P e = some z) (hzl : z.length = i.size)
    (hx : stripX x = some s1) (hy : stripX y = some s2) (e1 : evX fr s1 = some u) (e2 : evX fr s2 = some v) (hap : opAppend S.st i.size i.bytes u v = some (r, st)) : OpRet P o a S r st := by
  have hu := stripX_rep hf hx e1
  have hv := stripX_rep hf hy e2
  generalize hxv : a.eval x = xv at hu
  generalize hyv : a.eval y = yv at hv
  have hexec : ∀ {r : Value} {w' : World}, (Builtin.append_ #[t, t] o.type #[xv, yv]).run P S.w = .ok r w' → (execOp a.eval o).run P S.w = .ok (.value r) w' := by
    intro r w' h
    simp [execOp, ho, resolve, invoke, builtin, hxv, hyv, h]
  have fin : ∀ {r : AV} {st : St}, AppRet P t o.type S xv yv r st → OpRet P o a S r st := by
    rintro r st ⟨S', a1, a2, a3, a4, y, a5, a6⟩
    exact ⟨S', a1, a2, a3, a4, .inl ⟨y, hexec a5, a6⟩⟩
  unfold opAppend at hap
  split at hap
  · cases hap
  · rename_i news m hsrc
    obtain ⟨ys, hL, hcl, hsv⟩ := src_rep I hv hsrc
    split at hap
    · rename_i hc0
      obtain ⟨hnl, hpos⟩ := hc0
      obtain ⟨i', zv, hi', hz1, hz2⟩ := zeroOf_inv hz
      rw [hi] at hi'; cases hi'
      obtain ⟨hzr, hzo⟩ := atomsOf_rep (S := S) hz2
      have hzs : zv.cells.size = i.size := by have := hzr.length; simp at this; omega
      have hyl : ys.length = m * i.size := by rw [hL.length, hnl]
      have hone := hL.oneCells (clean_one hcl)
      have zero : m = 0 → yv = .slice none 0 0 ∨ ∃ ad c, yv = .slice (some ad) 0 c := by
        intro hm
        rcases hsv with ⟨⟨q, h⟩, _⟩ | ⟨g, off, c, h, _⟩
        · cases q with
          | none => exact .inl h
          | some q => exact .inr ⟨_, _, h⟩
        · subst hm; exact .inr ⟨_, _, h⟩
      have full : m ≠ 0 → ∃ ad c, yv = .slice (some ad) m c ∧ ∀ j w, ys[j]? = some w → S.w.cell? (ad.add j) = some w := by
        intro hm
        rcases hsv with ⟨_, h⟩ | ⟨g, off, c, h, hk⟩
        · exact absurd h hm
        · exact ⟨_, c, h, fun j w hw => by rw [Addr_add]; exact hk j w hw⟩
      have e47 : most47 = 140737488355328 := rfl
      have e63 : maxLen = 9223372036854775807 := rfl
      split at hap
      · obtain ⟨rfl, _⟩ := hu.v_inv
        split at hap
        · rename_i hm
          cases hap
          exact OpRet.same I (hexec (run_append_zero t o.type e ht hi none 0 0 (Nat.le_refl _) yv (zero hm) S.w)) (.v rfl)
        · rename_i hm
          split at hap
          · rename_i hb
            cases hap
            obtain ⟨ad, c, rfl, hk⟩ := full hm
            have hrun := run_append_nil (P := P) S.w t o.type e i zv ht hi hz1 ad m c ys hyl hk (by omega) (by omega) (by omega)
            have hcap := grownCap_ge S.w m 0 e
            have hcm := grownCap_le_maxLen S.w m 0 e hb.2
            generalize hcd : grownCap S.w m 0 e = cap at *
            generalize hcell : (ys.toArray ++ Builtin.zeroCells zv.cells (cap - m)) = cells at *
            have hsz : cells.size = cap * i.size := by
              rw [← hcell]
              simp only [Array.size_append, List.size_toArray, size_zeroCells, hzs, hyl, ← Nat.add_mul]
              congr 1; omega
            have hheap : (S.w.drew.alloc (.cells cells e)).heap[S.w.heap.size]? = some (.cells cells e (0, 0)) := heap_alloc_new S.w.drew _
            obtain ⟨E, J⟩ := new_row I (keeps_drew_alloc S.w (.cells cells e)) (g := S.w.heap.size) (fl := news.length) (news.length, i.size) (Nat.le_refl _) hheap (by rw [hsz, hnl]; exact Nat.mul_le_mul_right _ hcap)
            refine ⟨S.addRow (S.w.drew.alloc (.cells cells e)) (S.w.heap.size, news.length) (news.length, i.size), ?_, rfl, rfl, ⟨E, J, below_drew_alloc I _⟩, .inl ⟨_, hexec hrun, ?_⟩⟩
            · simp [Sim.addRow]
            · refine own_rep (RepL.ext E hL) hcl hcap hcm hnl (by simp [Sim.addRow]) ?_ J hheap (by rw [hsz]; omega) (fun j w hw => ?_) (Nat.le_refl _) (fun _ => rfl)
              · show (S.rm ++ [_])[S.st.F.length]? = _
                rw [← I.rl, List.getElem?_append_right (Nat.le_refl _)]
                simp
              · show (S.w.drew.alloc (.cells cells e)).cell? _ = _
                rw [Nat.zero_add, cell_of_row _ _ _ _ _ _ hheap, ← hcell]
                have hj := (List.getElem?_eq_some_iff.1 hw).1
                rw [Array.getElem?_append, if_pos (by simpa using hj)]
                simpa using hw
          · cases hap
      · rename_i cs n tg
        have hap' : appSl S.st i.size i.bytes cs n tg news m = some (r, st) := hap
        exact fin (append_sl I ht hi hz hzl hu ⟨hL, hcl, hnl, hpos, zero, full⟩ hap')
      · rename_i b q n z'
        split at hap
        · rename_i hm
          cases hap
          cases hu with
          | hs k1 k2 k3 k4 k5 =>
            exact OpRet.same I (hexec (run_append_zero t o.type e ht hi _ _ _ k2 yv (zero hm) S.w)) (.hs k1 k2 k3 k4 k5)
        · rename_i hm
          split at hap
          · rename_i hb hH
            split at hap
            · rename_i hcond
              obtain ⟨hb1, hb2, rfl, hfz, hlen⟩ := hcond
              split at hap
              · rename_i cs hcs
                cases hap
                obtain ⟨S1, w1, s1, B1, A1, E1, J1, r1⟩ := thaw_ok I hu hH hfz hlen hcs
                have hst1 : Step S S1 := ⟨E1, J1, by rw [w1]; exact RowKit.Below.refl _ _⟩
                have hcl1 : cs.length = n * i.size := by
                  have := (cleanL_len hcs)
                  rw [List.length_drop] at this
                  omega
                have hap' : appSl S1.st i.size i.bytes cs n (.own S.st.F.length hb.cells.length) news m = some (.sl (cs ++ news) (n + m) (.own S.st.F.length (hb.cells.length + news.length)), { H := S.st.H.set b { hb with fz := true }, F := S.st.F ++ [(hb.cells.length + news.length, i.size)] }) := by
                  simp [appSl, hm, hb1, hb2, hcl1, s1]
                obtain ⟨S2, a1, a2, a3, a4, y2, a5, a6⟩ := append_sl (ty := o.type) J1 ht hi hz hzl r1 ⟨hL.ext E1, hcl, hnl, hpos, zero, fun h => let ⟨ad, c, g1, g2⟩ := full h; ⟨ad, c, g1, fun j w hw => by rw [w1]; exact g2 j w hw⟩⟩ hap'
                exact fin ⟨S2, a1, a2.trans B1, a3.trans A1, hst1.trans a4, y2, by rw [← w1]; exact a5, a6⟩
              · cases hap
            · cases hap
          · cases hap
      · cases hap
    · cases hap

end

end VS
end Go.Proofs.Ytkhekmmldnjenaa
