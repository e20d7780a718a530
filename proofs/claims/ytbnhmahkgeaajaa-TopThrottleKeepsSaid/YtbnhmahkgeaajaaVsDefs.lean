/- A value semantics for the model's code: the abstract values, the compact form of code, the evaluator. Nothing of Go's memory here: its meaning is proved in the texts behind this one. -/
import Derived.Calls
import Derived.Below
import Derived.Orders
import Derived.Laws.BytesArg
namespace Go.Proofs.Ytbnhmahkgeaajaa
namespace VS

/-- What is known of the room behind a slice: nothing (ro); none (full); it may be appended to (own: row and virtual end); its elements are pointers or closures (ptrs). -/
inductive Tag where
  | ro
  | full
  | ptrs
  | own (r e : Nat)
  deriving DecidableEq

/-- Abstract values. Cells are flattened: a struct of k cells is 'agg' of k values of one cell each. -/
inductive AV where
  | v (x : Value)
  | sl (cs : List AV) (n : Nat) (t : Tag)
  | agg (cs : List AV)
  | tup (vs : List AV)
  | ptr (b off : Nat)
  | ep (cs : List AV) (off : Nat)
  | hs (b o n sz : Nat)
  | fn (f : FuncId) (caps : List AV)
  | ifc (t : TypeId) (x : AV)

def und : AV := .tup []

/-- A block of variables of one's own. 'fz': nothing is stored into it any more. -/
structure HB where
  cells : List AV
  fz : Bool

/-- The abstract memory: blocks; rows that may be appended to (virtual end, cells of an element). -/
structure St where
  H : List HB
  F : List (Nat × Nat)

def St.mt : St := { H := [], F := [] }

structure Fr where
  s : List (Nat × AV)
  d : List (FuncId × List AV)

def look : List (Nat × AV) → Nat → Option AV
  | [], _ => none
  | (k, x) :: r, i => if k = i then some x else look r i

def Fr.put (fr : Fr) (d : Option Nat) (a : AV) : Fr :=
  match d with
  | some k => { fr with s := (k, a) :: fr.s }
  | none => fr

/-- An operand. -/
inductive SX where
  | t (i : Nat)
  | c (a : AV)

def evX (fr : Fr) : SX → Option AV
  | .t i => look fr.s i
  | .c a => some a

def evXs (fr : Fr) : List SX → Option (List AV)
  | [] => some []
  | x :: r => match evX fr x, evXs fr r with
    | some a, some l => some (a :: l)
    | _, _ => none

/-- Cells of a value. -/
def AV.cells : AV → List AV
  | .agg cs => cs
  | a => [a]

def AV.isTup : AV → Bool
  | .tup _ => true
  | _ => false

/-- An equality's kind. -/
inductive EqK where
  | bool | nilS | nilF | nilP | iface (c : Bool) | cells (n : Nat) | none

/-- Operations, their types resolved. -/
inductive SOp where
  | mv (x : SX)
  | pick (c a b : SX)
  | alloc (z : List AV)
  | box (x : SX)
  | build (z : List AV) (ps : List (Nat × Nat × SX))
  | bslice (z : List AV) (n : Nat) (ps : List (Nat × Nat × SX))
  | load (k : Option Nat) (a : SX)
  | store (k : Nat) (a x : SX)
  | nilck (x : SX)
  | bin (op : BinOp) (q : EqK) (x y : SX)
  | un (op : UnOp) (x : SX)
  | conv (k : IntKind) (x : SX)
  | tostr (x : SX)
  | s2ap (n : Nat) (x : SX)
  | mkifc (t : TypeId) (x : SX)
  | mkfn (f : FuncId) (caps : List SX)
  | mkslice (z : List AV) (bytes : Nat) (l c : SX)
  | slice (sz : Nat) (x : SX) (lo hi : Option SX)
  | arrslice (n sz : Nat) (x : SX) (lo hi : Option SX)
  | faddr (off : Nat) (x : SX)
  | field (off : Nat) (k : Option Nat) (x : SX)
  | iaddr (sz : Nat) (arr : Option Nat) (x i : SX)
  | index (n sz : Nat) (k : Option Nat) (x i : SX)
  | extract (x : SX) (i : Nat)
  | call (f : SX) (args : List SX)
  | append (sz bytes : Nat) (s x : SX)
  | len (x : SX)
  | minmax (mx : Bool) (x y : SX)
  | tassert (t : TypeId) (ok : Bool) (z : AV) (x : SX)
  | panic (x : SX)
  | defer (f : SX)

structure SO where
  dst : Option Nat
  g : Option (Nat × Bool)
  op : SOp

inductive SCode where
  | skip
  | region (ops : List SO) (draw : Bool)
  | regionF (ops : List SO)
  | seq (ks : List Nat) (a b : SCode)
  | cond (c : SX) (a b : SCode)
  | block (id : Nat) (c : SCode)
  | loop (ks : List Nat) (c : SCode)
  | exit (id : Nat)
  | ret

inductive SRes where
  | tmp (t : Nat)
  | cell (a : Nat) (k : Option Nat)

inductive Kind where
  | plain | keep | whole | grow | guard | fresh | pure
  | catch (r x : Nat)
  deriving DecidableEq

structure SFn where
  kind : Kind
  np : Nat
  res : List SRes
  body : SCode

inductive Ex where
  | nx
  | ex (id : Nat)
  | rt
  | pn (a : AV)

abbrev Out := Ex × Fr × St

inductive Res where
  | ret (a : AV)
  | pan (a : AV)

inductive ORes where
  | ret (a : AV)
  | pan (a : AV)
  | dfr (f : FuncId) (caps : List AV)

abbrev CallF := FuncId → List AV → St → Option (Res × St)

/-- Shallow: may it stand in a slice that is handed to others, or go to a callee that has a memory of its own? Its tags are forgotten. -/
def clean1 : AV → Option AV
  | .v x => some (.v x)
  | .sl cs n t => if t = .ptrs then none else some (.sl cs n .ro)
  | .fn f [] => some (.fn f [])
  | _ => none

def cleanL : List AV → Option (List AV)
  | [] => some []
  | a :: r => match clean1 a, cleanL r with
    | some x, some l => some (x :: l)
    | _, _ => none

def St.freeze (st : St) (b : Nat) (hb : HB) : St := { st with H := st.H.set b { hb with fz := true } }

/-- A value of one cell, as it goes out of a memory: a slice of a block of one's own is frozen. -/
def exp0 (st : St) : AV → Option (AV × St)
  | .hs b o n sz => match st.H[b]? with
    | some hb => if o + n * sz ≤ hb.cells.length then
        match cleanL ((hb.cells.drop o).take (n * sz)) with
        | some cs => some (.sl cs n .ro, st.freeze b hb)
        | none => none
      else none
    | none => none
  | a => match clean1 a with
    | some x => some (x, st)
    | none => none

def expL : St → List AV → Option (List AV × St)
  | st, [] => some ([], st)
  | st, a :: r => match exp0 st a with
    | some (x, st1) => match expL st1 r with
      | some (l, st2) => some (x :: l, st2)
      | none => none
    | none => none

def exp1 (st : St) : AV → Option (AV × St)
  | .agg cs => match expL st cs with
    | some (l, st1) => some (.agg l, st1)
    | none => none
  | a => exp0 st a

def expA : St → List AV → Option (List AV × St)
  | st, [] => some ([], st)
  | st, a :: r => match exp1 st a with
    | some (x, st1) => match expA st1 r with
      | some (l, st2) => some (x :: l, st2)
      | none => none
    | none => none

/-- A result, out of a callee's memory. -/
def expR (st : St) : AV → Option AV
  | .tup vs => (expA st vs).map fun p => .tup p.1
  | .ifc t x => (exp1 st x).map fun p => .ifc t p.1
  | a => (exp1 st a).map fun p => p.1

def AV.isV : AV → Bool
  | .v _ => true
  | _ => false

/-- Nothing that points anywhere. -/
def scal1 : AV → Bool
  | .v _ => true
  | .agg cs => cs.all AV.isV
  | _ => false

/-- Which blocks of one's own a value reaches as slices. -/
def hsOf0 : AV → List Nat
  | .hs b _ _ _ => [b]
  | _ => []

def hsOf : AV → List Nat
  | .agg cs => cs.flatMap hsOf0
  | a => hsOf0 a

def scalR : AV → Bool
  | .tup vs => vs.all scal1
  | a => scal1 a

def takeRes (l : List (Nat × AV)) (H : List HB) : SRes → Option AV
  | .tmp t => look l t
  | .cell a k => match look l a with
    | some (.ptr b off) => match H[b]? with
      | some hb => match k with
        | some n => if off + n ≤ hb.cells.length then some (.agg ((hb.cells.drop off).take n)) else none
        | none => hb.cells[off]?
      | none => none
    | _ => none

def takeRess (l : List (Nat × AV)) (H : List HB) : List SRes → Option (List AV)
  | [] => some []
  | r :: rs => match takeRes l H r, takeRess l H rs with
    | some a, some as => some (a :: as)
    | _, _ => none

def pack : List AV → AV
  | [a] => a
  | l => .tup l

def initFr : Nat → List AV → List (Nat × AV)
  | _, [] => []
  | i, a :: r => (i, a) :: initFr (i + 1) r

/-- A function's body, in the memory that it is given. -/
def inner (R : SCode → Fr → St → Option Out) (s : SFn) (args : List AV) (st : St) : Option (Res × St) :=
  match R s.body { s := initFr 0 args, d := [] } st with
  | some (.nx, fr, st1) | some (.rt, fr, st1) =>
    (match fr.d with
    | [] => (match takeRess fr.s st1.H s.res with
      | some l => some (.ret (pack l), st1)
      | none => none)
    | _ => none)
  | some (.pn a, fr, st1) =>
    (match fr.d with
    | [] => some (.pan a, st1)
    | _ => none)
  | _ => none

/-- Where a function with one deferred closure ends: its slots, the closure, what there is to recover. -/
def openG : Out → Option (List (Nat × AV) × FuncId × List AV × AV × St)
  | (.nx, fr, st) | (.rt, fr, st) => match fr.d with
    | [(g, caps)] => some (fr.s, g, caps, .v .nilIface, st)
    | _ => none
  | (.pn a, fr, st) => match fr.d with
    | [(g, caps)] => some (fr.s, g, caps, a, st)
    | _ => none
  | _ => none

/-- Where a closure that recovers ends. -/
def endC (res : List SRes) : Out → Option St
  | (.nx, fr, st) | (.rt, fr, st) => match fr.d with
    | [] => (match takeRess fr.s st.H res with
      | some _ => some st
      | none => none)
    | _ => none
  | _ => none

/-- A closure that recovers 'v'. -/
def catchR (T : FuncId → Option SFn) (R : SCode → Fr → St → Option Out) (g : FuncId) (caps : List AV) (v : AV) (st : St) : Option St :=
  match T g with
  | some s => match s.kind with
    | .catch r x => if caps.length = s.np then match R s.body { s := (x, v) :: (r, v) :: initFr 0 caps, d := [] } st with
        | some out => endC s.res out
        | none => none
      else none
    | _ => none
  | none => none

/-- A function with one deferred closure that recovers. -/
def innerG (T : FuncId → Option SFn) (R : SCode → Fr → St → Option Out) (s : SFn) (args : List AV) (st : St) : Option (AV × St) :=
  match R s.body { s := initFr 0 args, d := [] } st with
  | some out => match openG out with
    | some (l, g, caps, v, st1) => match catchR T R g caps v st1 with
      | some st2 => match takeRess l st2.H s.res with
        | some xs => some (pack xs, st2)
        | none => none
      | none => none
    | none => none
  | none => none

def callOf (T : FuncId → Option SFn) (R : SCode → Fr → St → Option Out) : CallF := fun f args st =>
  match T f with
  | none => none
  | some s =>
    if args.length = s.np then
      match s.kind with
      | .whole => inner R s args st
      | .grow => inner R s args st
      | .catch _ _ => none
      | .guard => match expA st args with
        | none => none
        | some (args1, st0) => match innerG T R s args1 .mt with
          | some (a, st1) => (expR st1 a).map fun x => (.ret x, st0)
          | none => none
      | .plain => match expA st args with
        | none => none
        | some (args1, st0) => match inner R s args1 .mt with
          | some (.ret a, st1) => (expR st1 a).map fun x => (.ret x, st0)
          | some (.pan a, st1) => (expR st1 a).map fun x => (.pan x, st0)
          | none => none
      | .keep => match expA st args with
        | none => none
        | some (args1, st0) => match inner R s args1 .mt with
          | some (.ret (.sl cs n (.own r e)), st1) => match st1.F[r]? with
            | some (e1, sz) => if e1 = e then some (.ret (.sl cs n (.own st0.F.length e)), { st0 with F := st0.F ++ [(e, sz)] }) else none
            | none => none
          | some (.ret (.sl cs n .full), _) => some (.ret (.sl cs n .full), st0)
          | some (.ret a, st1) => (expR st1 a).map fun x => (.ret x, st0)
          | some (.pan a, st1) => (expR st1 a).map fun x => (.pan x, st0)
          | none => none
      | .fresh => match expA st args with
        | none => none
        | some (args1, st0) => match inner R s args1 .mt with
          | some (.ret (.sl cs n (.own r e)), st1) => match st1.F[r]? with
            | some (e1, sz) => if e1 = e ∧ cs.length = e ∧ 0 < e ∧ cs.all AV.isV = true then some (.ret (.hs st0.H.length 0 n sz), { st0 with H := st0.H ++ [{ cells := cs, fz := false }] }) else none
            | none => none
          | some (.ret (.sl cs n .full), _) => some (.ret (.sl cs n .full), st0)
          | some (.ret a, st1) => (expR st1 a).map fun x => (.ret x, st0)
          | some (.pan a, st1) => (expR st1 a).map fun x => (.pan x, st0)
          | none => none
      | .pure => match expA st args with
        | none => none
        | some (args1, _) => match inner R s args1 .mt with
          | some (.ret a, st1) => match expR st1 a with
            | some x => if (scalR x || (args.flatMap hsOf).isEmpty) = true then some (.ret x, st) else none
            | none => none
          | _ => none
    else none

/-- Parts laid into cells. -/
def putAt (cs : List AV) (off : Nat) (xs : List AV) : List AV := cs.take off ++ xs ++ cs.drop (off + xs.length)

def fillP (fr : Fr) : List AV → List (Nat × Nat × SX) → Option (List AV)
  | cs, [] => some cs
  | cs, (off, size, x) :: r => match evX fr x with
    | some a => if a.isTup = false ∧ a.cells.length = size ∧ off + size ≤ cs.length then fillP fr (putAt cs off a.cells) r else none
    | none => none

def repeatL (z : List AV) : Nat → List AV
  | 0 => []
  | n + 1 => z ++ repeatL z n

def isNilS : AV → Option Bool
  | .v (.slice none 0 0) => some true
  | .v (.slice (some _) 0 0) | .sl _ _ _ | .hs _ _ _ _ => some false
  | _ => none

def isNilF : AV → Option Bool
  | .v .nilFunc => some true
  | .fn _ _ => some false
  | _ => none

def isNilP : AV → Option Bool
  | .v (.pointer none) => some true
  | .ptr _ _ | .ep _ _ => some false
  | _ => none

/-- Two nilable things, one of which is nil. -/
def nilEq (x y : Option Bool) : Option Bool :=
  match x, y with
  | some true, some b => some b
  | some false, some true => some false
  | _, _ => none

def binInt (op : BinOp) (k : IntKind) (a b : Int) : Option Value :=
  match op with
  | .add => some (.int k (k.wrap (a + b)))
  | .sub => some (.int k (k.wrap (a - b)))
  | .mul => some (.int k (k.wrap (a * b)))
  | .quo => if b = 0 then none else some (.int k (k.wrap (a.tdiv b)))
  | .rem => if b = 0 then none else some (.int k (a.tmod b))
  | .and => some (.int k (k.wrap (BitVec.ofInt k.bits a &&& BitVec.ofInt k.bits b).toNat))
  | .or => some (.int k (k.wrap (BitVec.ofInt k.bits a ||| BitVec.ofInt k.bits b).toNat))
  | .xor => some (.int k (k.wrap (BitVec.ofInt k.bits a ^^^ BitVec.ofInt k.bits b).toNat))
  | .andNot => some (.int k (k.wrap (BitVec.ofInt k.bits a &&& ~~~(BitVec.ofInt k.bits b)).toNat))
  | .eql => some (.bool (a == b))
  | .neq => some (.bool (a != b))
  | .lss => some (.bool (a < b))
  | .leq => some (.bool (a ≤ b))
  | .gtr => some (.bool (a > b))
  | .geq => some (.bool (a ≥ b))
  | _ => none

def shiftInt (op : BinOp) (k : IntKind) (a b : Int) : Option Value :=
  if b < 0 then none else
  match op with
  | .shl => some (.int k (k.wrap (a * 2 ^ (min b.toNat k.bits))))
  | .shr => some (.int k (a.fdiv (2 ^ (min b.toNat k.bits))))
  | _ => none

def isShift : BinOp → Bool
  | .shl | .shr => true
  | _ => false

/-- Cells that are all whole numbers: alike? -/
def sameCells : List AV → List AV → Option Bool
  | [], [] => some true
  | .v (.int k a) :: r, .v (.int k' b) :: s => if k = k' then (sameCells r s).map fun t => (a == b) && t else none
  | _, _ => none

def negIf (op : BinOp) (b : Bool) : Option Value :=
  match op with
  | .eql => some (.bool b)
  | .neq => some (.bool (!b))
  | _ => none

def binAV (op : BinOp) (q : EqK) (x y : AV) : Option Value :=
  match x, y with
  | .v (.int k a), .v (.int k' b) => if isShift op then shiftInt op k a b else if k = k' then binInt op k a b else none
  | .v (.bool a), .v (.bool b) => (match q with | .bool => negIf op (a == b) | _ => none)
  | .v (.string a), .v (.string b) => negIf op (a.toList == b.toList)
  | .agg xs, .agg ys => (match q with | .cells n => if xs.length = n then (sameCells xs ys).bind (negIf op) else none | _ => none)
  | x, y => (match q with
    | .nilS => (nilEq (isNilS x) (isNilS y)).bind (negIf op)
    | .nilF => (nilEq (isNilF x) (isNilF y)).bind (negIf op)
    | .nilP => (nilEq (isNilP x) (isNilP y)).bind (negIf op)
    | .iface c => (match x, y with
      | .v .nilIface, .v .nilIface => if c then negIf op true else none
      | .ifc _ _, .v .nilIface | .v .nilIface, .ifc _ _ => negIf op false
      | _, _ => none)
    | _ => none)

def unAV (op : UnOp) (x : AV) : Option Value :=
  match op, x with
  | .neg, .v (.int k n) => some (.int k (k.wrap (0 - n)))
  | .xor, .v (.int k n) => binInt .xor k (if k.signed then -1 else k.max) n
  | .not, .v (.bool b) => some (.bool (!b))
  | _, _ => none

/-- A part of cells, as a value. -/
def partOf (cs : List AV) (off : Nat) : Option Nat → Option AV
  | none => cs[off]?
  | some k => if off + k ≤ cs.length then some (.agg ((cs.drop off).take k)) else none

def asNum : AV → Option Int
  | .v (.int _ n) => some n
  | _ => none

/-- The bounds of a slice expression: each given one within 0 .. top. -/
def bnd (fr : Fr) (d : Nat) : Option SX → Nat → Option Nat
  | none, _ => some d
  | some x, top => match (evX fr x).bind asNum with
    | some i => if 0 ≤ i ∧ i ≤ top then some i.toNat else none
    | none => none

def tagCut (t : Tag) (atEnd : Bool) : Tag :=
  match t with
  | .ptrs => .ptrs
  | .ro => .ro
  | .full => if atEnd then .full else .ro
  | .own r e => if atEnd then .own r e else .ro

/-- The cells and the number of elements that are appended. -/
def srcOf (st : St) : AV → Nat → Option (List AV × Nat)
  | .v (.slice _ 0 0), _ => some ([], 0)
  | .sl cs n t, _ => if t = .ptrs then none else some (cs, n)
  | .hs b o n sz, size => match st.H[b]? with
    | some hb => if sz = size ∧ o + n * sz ≤ hb.cells.length then (cleanL ((hb.cells.drop o).take (n * sz))).map fun cs => (cs, n) else none
    | none => none
  | _, _ => none

def most47 : Nat := 140737488355328

def opAppend (st : St) (sz bytes : Nat) (s x : AV) : Option (AV × St) :=
  match srcOf st x sz with
  | none => none
  | some (news, m) =>
    if news.length = m * sz ∧ 0 < sz then
      match s with
      | .v (.slice none 0 0) =>
        if m = 0 then some (.v (.slice none 0 0), st)
        else if m * bytes ≤ most47 ∧ m ≤ maxLen then some (.sl news m (.own st.F.length news.length), { st with F := st.F ++ [(news.length, sz)] }) else none
      | .sl cs n t =>
        if m = 0 then some (.sl cs n t, st)
        else if (n + m) * bytes ≤ most47 ∧ n + m ≤ maxLen ∧ cs.length = n * sz then
          match t with
          | .full => some (.sl (cs ++ news) (n + m) (.own st.F.length (cs ++ news).length), { st with F := st.F ++ [((cs ++ news).length, sz)] })
          | .own r e => if st.F[r]? = some (e, sz) then some (.sl (cs ++ news) (n + m) (.own r (e + news.length)), { st with F := st.F.set r (e + news.length, sz) }) else none
          | _ => none
        else none
      | .hs b q n z =>
        if m = 0 then some (.hs b q n z, st)
        else match st.H[b]? with
          | some hb => if (n + m) * bytes ≤ most47 ∧ n + m ≤ maxLen ∧ z = sz ∧ hb.fz = false ∧ hb.cells.length = q + n * sz then
              match cleanL (hb.cells.drop q) with
              | some cs => some (.sl (cs ++ news) (n + m) (.own st.F.length (hb.cells.length + news.length)), { H := st.H.set b { hb with fz := true }, F := st.F ++ [(hb.cells.length + news.length, sz)] })
              | none => none
            else none
          | none => none
      | _ => none
    else none

def opStore (st : St) (k : Nat) (a x : AV) : Option St :=
  match a with
  | .ptr b off => match st.H[b]? with
    | some hb => if hb.fz = false ∧ x.isTup = false ∧ x.cells.length = k ∧ off + k ≤ hb.cells.length then
        some { st with H := st.H.set b { hb with cells := putAt hb.cells off x.cells } }
      else none
    | none => none
  | _ => none

def opLoad (st : St) (k : Option Nat) : AV → Option AV
  | .ptr b off => match st.H[b]? with
    | some hb => partOf hb.cells off k
    | none => none
  | .ep cs off => partOf cs off k
  | _ => none

def opSlice (fr : Fr) (sz : Nat) (lo hi : Option SX) : AV → Option AV
  | .v (.slice q 0 0) => match bnd fr 0 hi 0 with
    | some h => match bnd fr 0 lo h with
      | some _ => some (.v (.slice q 0 0))
      | none => none
    | none => none
  | .sl cs n t => match bnd fr n hi n with
    | some h => match bnd fr 0 lo h with
      | some l => if cs.length = n * sz then some (.sl ((cs.drop (l * sz)).take ((h - l) * sz)) (h - l) (tagCut t (h == n))) else none
      | none => none
    | none => none
  | .hs b q n z => match bnd fr n hi n with
    | some h => match bnd fr 0 lo h with
      | some l => if z = sz then some (.hs b (q + l * sz) (h - l) z) else none
      | none => none
    | none => none
  | _ => none

/-- Cells that are bytes. -/
def bytesOf : List AV → Option (List Int)
  | [] => some []
  | .v (.int .u8 n) :: r => (bytesOf r).map (n :: ·)
  | _ => none

/-- An operation, but for a call of a function. -/
def evOp (C : CallF) (fr : Fr) (st : St) : SOp → Option (ORes × St)
  | .mv x => match evX fr x with
    | some a => some (.ret a, st)
    | none => none
  | .pick c a b => match evX fr c with
    | some (.v (.bool true)) => (evX fr a).map fun x => (.ret x, st)
    | some (.v (.bool false)) => (evX fr b).map fun x => (.ret x, st)
    | _ => none
  | .alloc z => some (.ret (.ptr st.H.length 0), { st with H := st.H ++ [{ cells := z, fz := false }] })
  | .box x => match evX fr x with
    | some a => if a.isTup = false then some (.ret (.ptr st.H.length 0), { st with H := st.H ++ [{ cells := a.cells, fz := false }] }) else none
    | none => none
  | .build z ps => (fillP fr z ps).map fun cs => (.ret (.agg cs), st)
  | .bslice z n ps => match fillP fr (repeatL z n) ps with
    | none => none
    | some cs => match expL st cs with
      | some (l, st1) => some (.ret (.sl l n .full), st1)
      | none => some (.ret (.sl cs n .ptrs), st)
  | .load k a => match evX fr a with
    | some p => (opLoad st k p).map fun x => (.ret x, st)
    | none => none
  | .store k a x => match evX fr a, evX fr x with
    | some p, some y => (opStore st k p y).map fun st1 => (.ret und, st1)
    | _, _ => none
  | .nilck x => match evX fr x with
    | some (.ptr b off) => some (.ret (.ptr b off), st)
    | some (.ep cs off) => some (.ret (.ep cs off), st)
    | some (.fn f caps) => some (.ret (.fn f caps), st)
    | _ => none
  | .bin op q x y => match evX fr x, evX fr y with
    | some a, some b => (binAV op q a b).map fun z => (.ret (.v z), st)
    | _, _ => none
  | .un op x => match evX fr x with
    | some a => (unAV op a).map fun z => (.ret (.v z), st)
    | none => none
  | .conv k x => match evX fr x with
    | some (.v (.int _ n)) => some (.ret (.v (.int k (k.wrap n))), st)
    | _ => none
  | .tostr x => match evX fr x with
    | some (.v (.slice _ 0 0)) => some (.ret (.v (.string (strOfNums []))), st)
    | some (.sl cs n _) => match bytesOf cs with
      | some xs => if xs.length = n then some (.ret (.v (.string (strOfNums xs))), st) else none
      | none => none
    | _ => none
  | .s2ap n x => match evX fr x with
    | some (.sl cs m _) => if n ≤ m then some (.ret (.ep cs 0), st) else none
    | _ => none
  | .mkifc t x => match evX fr x with
    | some a => some (.ret (.ifc t a), st)
    | none => none
  | .mkfn f caps => (evXs fr caps).map fun l => (.ret (.fn f l), st)
  | .mkslice z bytes l c => match (evX fr l).bind asNum, (evX fr c).bind asNum with
    | some n, some m => if 0 ≤ n ∧ n ≤ m ∧ m * bytes ≤ most47 ∧ m ≤ maxLen then
        some (.ret (.hs st.H.length 0 n.toNat z.length), { st with H := st.H ++ [{ cells := repeatL z m.toNat, fz := false }] }) else none
    | _, _ => none
  | .slice sz x lo hi => match evX fr x with
    | some a => (opSlice fr sz lo hi a).map fun y => (.ret y, st)
    | none => none
  | .arrslice n sz x lo hi => match evX fr x with
    | some (.ptr b off) => match st.H[b]?, bnd fr n hi n with
      | some hb, some h => match bnd fr 0 lo h with
        | some l => if off + n * sz ≤ hb.cells.length then
            match cleanL ((hb.cells.drop (off + l * sz)).take ((h - l) * sz)) with
            | some cs => some (.ret (.sl cs (h - l) .ro), st.freeze b hb)
            | none => none
          else none
        | none => none
      | _, _ => none
    | _ => none
  | .faddr off x => match evX fr x with
    | some (.ptr b o) => some (.ret (.ptr b (o + off)), st)
    | some (.ep cs o) => some (.ret (.ep cs (o + off)), st)
    | _ => none
  | .field off k x => match evX fr x with
    | some (.agg cs) => (partOf cs off k).map fun y => (.ret y, st)
    | _ => none
  | .iaddr sz arr x i => match evX fr x, (evX fr i).bind asNum with
    | some a, some j => (match arr, a with
      | none, .sl cs n _ => if 0 ≤ j ∧ j < n then some (.ret (.ep cs (j.toNat * sz)), st) else none
      | none, .hs b q n _ => if 0 ≤ j ∧ j < n then some (.ret (.ptr b (q + j.toNat * sz)), st) else none
      | some n, .ptr b o => if 0 ≤ j ∧ j < n then some (.ret (.ptr b (o + j.toNat * sz)), st) else none
      | some n, .ep cs o => if 0 ≤ j ∧ j < n then some (.ret (.ep cs (o + j.toNat * sz)), st) else none
      | _, _ => none)
    | _, _ => none
  | .index n sz k x i => match evX fr x, (evX fr i).bind asNum with
    | some (.agg cs), some j => if 0 ≤ j ∧ j < n then (partOf cs (j.toNat * sz) k).map fun y => (.ret y, st) else none
    | _, _ => none
  | .extract x i => match evX fr x with
    | some (.tup vs) => (vs[i]?).map fun y => (.ret y, st)
    | _ => none
  | .call f args => match evX fr f, evXs fr args with
    | some (.fn g caps), some l => match C g (l ++ caps) st with
      | some (.ret a, st1) => some (.ret a, st1)
      | some (.pan a, st1) => some (.pan a, st1)
      | none => none
    | _, _ => none
  | .append sz bytes s x => match evX fr s, evX fr x with
    | some a, some b => (opAppend st sz bytes a b).map fun p => (.ret p.1, p.2)
    | _, _ => none
  | .len x => match evX fr x with
    | some (.sl _ n _) => some (.ret (.v (.int .i64 n)), st)
    | some (.hs _ _ n _) => some (.ret (.v (.int .i64 n)), st)
    | some (.v (.slice _ 0 0)) => some (.ret (.v (.int .i64 0)), st)
    | _ => none
  | .minmax mx x y => match evX fr x, evX fr y with
    | some (.v (.int k a)), some (.v (.int k' b)) => if k = k' then some (.ret (.v (.int k (if mx then (if b > a then b else a) else (if b < a then b else a)))), st) else none
    | _, _ => none
  | .tassert t ok z x => match evX fr x with
    | some (.ifc u y) => if u = t then some (.ret (if ok then .tup [y, .v (.bool true)] else y), st) else if ok then some (.ret (.tup [z, .v (.bool false)]), st) else none
    | _ => none
  | .panic x => match evX fr x with
    | some (.ifc t y) => some (.pan (.ifc t y), st)
    | _ => none
  | .defer f => match evX fr f with
    | some (.fn g caps) => some (.dfr g caps, st)
    | _ => none

def wants (fr : Fr) : Option (Nat × Bool) → Option Bool
  | none => some true
  | some (s, want) => match look fr.s s with
    | some (.v (.bool b)) => some (b == want)
    | some (.tup []) => some false
    | _ => none

def evOps (C : CallF) : List SO → Fr → St → Option Out
  | [], fr, st => some (.nx, fr, st)
  | o :: r, fr, st => match wants fr o.g with
    | none => none
    | some false => evOps C r (fr.put o.dst und) st
    | some true => match evOp C fr st o.op with
      | none => none
      | some (.ret a, st1) => evOps C r (fr.put o.dst a) st1
      | some (.pan a, st1) => some (.pn a, fr, st1)
      | some (.dfr f caps, st1) => evOps C r { fr.put o.dst und with d := (f, caps) :: fr.d } st1

def stepS (C : CallF) (o : SO) (fr : Fr) (st : St) : Option (AV × St) :=
  match wants fr o.g with
  | none => none
  | some false => some (und, st)
  | some true => match evOp C fr st o.op with
    | some (.ret a, st1) => some (a, st1)
    | _ => none

/-- Which block an operation reads (true) or writes (false). -/
def touch (o : SO) (fr : Fr) : List (Bool × Nat) :=
  match wants fr o.g with
  | some true => match o.op with
    | .load _ x => (match evX fr x with
      | some (.ptr b _) => [(true, b)]
      | _ => [])
    | .store _ x _ => (match evX fr x with
      | some (.ptr b _) => [(false, b)]
      | _ => [])
    | _ => []
  | _ => []

def touched (C : CallF) : List SO → Fr → St → List (Bool × Nat)
  | [], _, _ => []
  | o :: r, fr, st => match stepS C o fr st with
    | some (a, st1) => touch o fr ++ touched C r (fr.put o.dst a) st1
    | none => []

def freeOk (l : List (Bool × Nat)) : Bool := l.all fun p => !p.1 || l.all fun q => q.1 || p.2 != q.2

def onlyL (l : List (Nat × AV)) : List Nat → List (Nat × AV)
  | [] => []
  | k :: r => match look l k with
    | some a => (k, a) :: onlyL l r
    | none => onlyL l r

def Fr.only (fr : Fr) (ks : List Nat) : Fr := { fr with s := onlyL fr.s ks }

/-- The evaluator, with fuel. Between two pieces of code, and at a loop's head, all but the named slots are forgotten. -/
def run (T : FuncId → Option SFn) : Nat → SCode → Fr → St → Option Out
  | 0, _, _, _ => none
  | n + 1, c, fr, st => match c with
    | .skip => some (.nx, fr, st)
    | .region ops draw => match evOps (callOf T (run T n)) ops fr st with
      | some (.nx, fr1, st1) => some (.nx, fr1, st1)
      | o => if draw then none else o
    | .regionF ops => match evOps (callOf T (run T n)) ops fr st with
      | some (.nx, fr1, st1) => if freeOk (touched (callOf T (run T n)) ops fr st) then some (.nx, fr1, st1) else none
      | _ => none
    | .seq ks a b => match run T n a fr st with
      | some (.nx, fr1, st1) => run T n b (fr1.only ks) st1
      | o => o
    | .cond x a b => match evX fr x with
      | some (.v (.bool true)) => run T n a fr st
      | some (.v (.bool false)) => run T n b fr st
      | _ => none
    | .block id c => match run T n c fr st with
      | some (.ex i, fr1, st1) => if i = id then some (.nx, fr1, st1) else some (.ex i, fr1, st1)
      | o => o
    | .loop ks c => match run T n c (fr.only ks) st with
      | some (.nx, fr1, st1) => run T n (.loop ks c) fr1 st1
      | o => o
    | .exit id => some (.ex id, fr, st)
    | .ret => some (.rt, fr, st)

end VS
end Go.Proofs.Ytbnhmahkgeaajaa
