/- The evaluator's rules as rules of rewriting; numbers; rows to which bytes are appended. -/
import Derived.Test.YtbnhmahkgeaajaaVsLim
namespace Go.Proofs.Ytbnhmahkgeaajaa
namespace VS

attribute [simp] evXs fillP repeatL initFr takeRess takeRes pack isNilS isNilF isNilP nilEq negIf binAV isShift putAt expL exp0 clean1 unAV asNum bnd partOf AV.cells AV.isTup onlyL
attribute [simp] runL_skip runL_exit runL_ret runL_region runL_draw runL_regionF runL_block

attribute [simp] evOp.eq_1 evOp.eq_2 evOp.eq_3 evOp.eq_4 evOp.eq_5 evOp.eq_6 evOp.eq_7 evOp.eq_8 evOp.eq_9 evOp.eq_10 evOp.eq_11 evOp.eq_12 evOp.eq_13 evOp.eq_14 evOp.eq_15 evOp.eq_16 evOp.eq_17 evOp.eq_18 evOp.eq_19 evOp.eq_20 evOp.eq_21 evOp.eq_22 evOp.eq_23 evOp.eq_24 evOp.eq_25 evOp.eq_26 evOp.eq_28 evOp.eq_29 evOp.eq_30 evOp.eq_31

/-- The length of a slice. -/
def lenK (o : Option AV) (st : St) : Option (ORes × St) := match o with
  | some (.sl _ n _) => some (.ret (.v (.int .i64 n)), st)
  | some (.hs _ _ n _) => some (.ret (.v (.int .i64 n)), st)
  | some (.v (.slice _ 0 0)) => some (.ret (.v (.int .i64 0)), st)
  | _ => none

@[simp] theorem evOp_len (C : CallF) (fr : Fr) (st : St) (x : SX) : evOp C fr st (.len x) = lenK (evX fr x) st := by cases fr; rfl
@[simp] theorem lenK_sl (cs : List AV) (n : Nat) (t : Tag) (st : St) : lenK (some (.sl cs n t)) st = some (.ret (.v (.int .i64 n)), st) := by cases st; rfl
@[simp] theorem lenK_nil (q : Option Addr) (st : St) : lenK (some (.v (.slice q 0 0))) st = some (.ret (.v (.int .i64 0)), st) := by cases st; rfl
/-- Rules whose proofs are no bare equalities of definition: the rewriter's side conditions need such. -/
@[simp] theorem evX_c (fr : Fr) (a : AV) : evX fr (.c a) = some a := by cases fr; rfl
@[simp] theorem evX_t (fr : Fr) (i : Nat) : evX fr (.t i) = look fr.s i := by cases fr; rfl
@[simp] theorem look_nil (i : Nat) : look [] i = none := by cases i <;> rfl
@[simp] theorem look_cons (k i : Nat) (x : AV) (r : List (Nat × AV)) : look ((k, x) :: r) i = if k = i then some x else look r i := by
  by_cases h : k = i
  · rw [if_pos h]; subst h; simp [look]
  · rw [if_neg h]; simp [look, h]

def wantV : Option AV → Bool → Option Bool
  | some (.v (.bool b)), want => some (b == want)
  | some (.tup []), _ => some false
  | _, _ => none

@[simp] theorem wants_none (fr : Fr) : wants fr none = some true := by cases fr; rfl
@[simp] theorem wants_some (fr : Fr) (s : Nat) (want : Bool) : wants fr (some (s, want)) = wantV (look fr.s s) want := by
  unfold wants wantV
  simp only
  generalize look fr.s s = o
  split
  · rfl
  · rfl
  · rename_i h1 h2
    split
    · exact absurd rfl (h1 _)
    · exact absurd rfl h2
    · rfl
@[simp] theorem wantV_bool (b want : Bool) : wantV (some (.v (.bool b))) want = some (b == want) := by cases b <;> rfl
@[simp] theorem wantV_und (want : Bool) : wantV (some und) want = some false := by cases want <;> rfl

section
variable (fr : Fr) (st : St) (k : Fr → St → Option Out)
@[simp] theorem thenR_nx : thenR (some (.nx, fr, st)) k = k fr st := by cases st; rfl
@[simp] theorem thenR_ex (i : Nat) : thenR (some (.ex i, fr, st)) k = some (.ex i, fr, st) := by cases st; rfl
@[simp] theorem thenR_rt : thenR (some (.rt, fr, st)) k = some (.rt, fr, st) := by cases st; rfl
@[simp] theorem thenR_pn (a : AV) : thenR (some (.pn a, fr, st)) k = some (.pn a, fr, st) := by cases st; rfl
@[simp] theorem blockR_nx (id : Nat) : blockR id (some (.nx, fr, st)) = some (.nx, fr, st) := by cases st; rfl
@[simp] theorem blockR_ex (id i : Nat) : blockR id (some (.ex i, fr, st)) = if i = id then some (.nx, fr, st) else some (.ex i, fr, st) := by cases st; rfl
@[simp] theorem blockR_rt (id : Nat) : blockR id (some (.rt, fr, st)) = some (.rt, fr, st) := by cases st; rfl
@[simp] theorem blockR_pn (id : Nat) (a : AV) : blockR id (some (.pn a, fr, st)) = some (.pn a, fr, st) := by cases st; rfl
@[simp] theorem onlyNx_nx : onlyNx (some (.nx, fr, st)) = some (.nx, fr, st) := by cases st; rfl

/-- The way on behind an operation. -/
def stepK (o : Option (ORes × St)) (dst : Option Nat) (fr : Fr) (k : Fr → St → Option Out) : Option Out := match o with
  | none => none
  | some (.ret a, st1) => k (fr.put dst a) st1
  | some (.pan a, st1) => some (.pn a, fr, st1)
  | some (.dfr f caps, st1) => k { fr.put dst und with d := (f, caps) :: fr.d } st1

@[simp] theorem stepK_ret (a : AV) (dst : Option Nat) : stepK (some (.ret a, st)) dst fr k = k (fr.put dst a) st := by cases st; rfl
@[simp] theorem stepK_pan (a : AV) (dst : Option Nat) : stepK (some (.pan a, st)) dst fr k = some (.pn a, fr, st) := by cases st; rfl
@[simp] theorem stepK_dfr (f : FuncId) (caps : List AV) (dst : Option Nat) : stepK (some (.dfr f caps, st)) dst fr k = k { fr.put dst und with d := (f, caps) :: fr.d } st := by cases st; rfl

/-- An operation with a guard. -/
def guardK (b : Option Bool) (x y : Option Out) : Option Out := match b with
  | none => none
  | some false => x
  | some true => y

@[simp ↓] theorem guardK_true {b : Option Bool} {x y : Option Out} (h : b = some true) : guardK b x y = y := by rw [h]; rfl
@[simp ↓] theorem guardK_false {b : Option Bool} {x y : Option Out} (h : b = some false) : guardK b x y = x := by rw [h]; rfl

@[simp] theorem evOps_nil (C : CallF) : evOps C [] fr st = some (.nx, fr, st) := by cases st; rfl
@[simp] theorem evOps_cons (C : CallF) (o : SO) (r : List SO) : evOps C (o :: r) fr st = guardK (wants fr o.g) (evOps C r (fr.put o.dst und) st) (stepK (evOp C fr st o.op) o.dst fr (evOps C r)) := by
  rw [evOps.eq_2]
  unfold guardK stepK
  cases wants fr o.g with
  | none => rfl
  | some b =>
    cases b with
    | false => rfl
    | true =>
      simp only
      cases evOp C fr st o.op with
      | none => rfl
      | some p =>
        obtain ⟨q, st1⟩ := p
        cases q <;> rfl
end

/-- The code behind, its live slots named. -/
noncomputable def seqK (T : FuncId → Option SFn) (ks : List Nat) (b : SCode) : Fr → St → Option Out := fun fr st => runL T b (fr.only ks) st

@[simp] theorem runL_seq' (T : FuncId → Option SFn) (ks : List Nat) (a b : SCode) (fr : Fr) (st : St) : runL T (.seq ks a b) fr st = thenR (runL T a fr st) (seqK T ks b) := runL_seq fr st ks a b
@[simp] theorem seqK_eq (T : FuncId → Option SFn) (ks : List Nat) (b : SCode) (fr : Fr) (st : St) : seqK T ks b fr st = runL T b (fr.only ks) st := by cases st; rfl

def condK (o : Option AV) (x y : Option Out) : Option Out := match o with
  | some (.v (.bool true)) => x
  | some (.v (.bool false)) => y
  | _ => none

@[simp] theorem runL_cond' (T : FuncId → Option SFn) (c : SX) (a b : SCode) (fr : Fr) (st : St) : runL T (.cond c a b) fr st = condK (evX fr c) (runL T a fr st) (runL T b fr st) := runL_cond fr st c a b
@[simp ↓] theorem condK_true {o : Option AV} {x y : Option Out} (h : o = some (.v (.bool true))) : condK o x y = x := by rw [h]; rfl
@[simp ↓] theorem condK_false {o : Option AV} {x y : Option Out} (h : o = some (.v (.bool false))) : condK o x y = y := by rw [h]; rfl

/-- The end of a function. -/
def endR (res : List SRes) : Option Out → Option (Res × St)
  | some (.nx, fr, st1) | some (.rt, fr, st1) => match fr.d with
    | [] => (match takeRess fr.s st1.H res with
      | some l => some (.ret (pack l), st1)
      | none => none)
    | _ => none
  | some (.pn a, fr, st1) => match fr.d with
    | [] => some (.pan a, st1)
    | _ => none
  | _ => none

theorem inner_eq (R : RunF) (s : SFn) (args : List AV) (st : St) : inner R s args st = endR s.res (R s.body { s := initFr 0 args, d := [] } st) := by
  unfold inner endR
  cases R s.body { s := initFr 0 args, d := [] } st with
  | none => rfl
  | some p =>
    obtain ⟨e, fr, st1⟩ := p
    cases e <;> rfl

section
variable (res : List SRes) (s : List (Nat × AV)) (st : St)
@[simp] theorem endR_rt : endR res (some (.rt, { s := s, d := [] }, st)) = (match takeRess s st.H res with
  | some l => some (.ret (pack l), st)
  | none => none) := by cases st; rfl
@[simp] theorem endR_nx : endR res (some (.nx, { s := s, d := [] }, st)) = (match takeRess s st.H res with
  | some l => some (.ret (pack l), st)
  | none => none) := by cases st; rfl
@[simp] theorem endR_pn (a : AV) : endR res (some (.pn a, { s := s, d := [] }, st)) = some (.pan a, st) := by cases st; rfl
end

def orI (k : IntKind) (a b : Int) : Int := k.wrap (BitVec.ofInt k.bits a ||| BitVec.ofInt k.bits b).toNat
def andI (k : IntKind) (a b : Int) : Int := k.wrap (BitVec.ofInt k.bits a &&& BitVec.ofInt k.bits b).toNat
def xorI (k : IntKind) (a b : Int) : Int := k.wrap (BitVec.ofInt k.bits a ^^^ BitVec.ofInt k.bits b).toNat
def andNotI (k : IntKind) (a b : Int) : Int := k.wrap (BitVec.ofInt k.bits a &&& ~~~(BitVec.ofInt k.bits b)).toNat
def shlI (k : IntKind) (a b : Int) : Int := k.wrap (a * 2 ^ (min b.toNat k.bits))
def shrI (k : IntKind) (a b : Int) : Int := a.fdiv (2 ^ (min b.toNat k.bits))

section
variable (k : IntKind) (a b : Int)
@[simp] theorem binInt_add : binInt .add k a b = some (.int k (k.wrap (a + b))) := rfl
@[simp] theorem binInt_sub : binInt .sub k a b = some (.int k (k.wrap (a - b))) := rfl
@[simp] theorem binInt_mul : binInt .mul k a b = some (.int k (k.wrap (a * b))) := rfl
@[simp] theorem binInt_quo : binInt .quo k a b = if b = 0 then none else some (.int k (k.wrap (a.tdiv b))) := rfl
@[simp] theorem binInt_rem : binInt .rem k a b = if b = 0 then none else some (.int k (a.tmod b)) := rfl
@[simp] theorem binInt_and : binInt .and k a b = some (.int k (andI k a b)) := rfl
@[simp] theorem binInt_or : binInt .or k a b = some (.int k (orI k a b)) := rfl
@[simp] theorem binInt_xor : binInt .xor k a b = some (.int k (xorI k a b)) := rfl
@[simp] theorem binInt_andNot : binInt .andNot k a b = some (.int k (andNotI k a b)) := rfl
@[simp] theorem binInt_eql : binInt .eql k a b = some (.bool (decide (a = b))) := rfl
@[simp] theorem binInt_neq : binInt .neq k a b = some (.bool (!decide (a = b))) := rfl
@[simp] theorem binInt_lss : binInt .lss k a b = some (.bool (a < b)) := rfl
@[simp] theorem binInt_leq : binInt .leq k a b = some (.bool (a ≤ b)) := rfl
@[simp] theorem binInt_gtr : binInt .gtr k a b = some (.bool (a > b)) := rfl
@[simp] theorem binInt_geq : binInt .geq k a b = some (.bool (a ≥ b)) := rfl
@[simp] theorem shiftInt_shl : shiftInt .shl k a b = if b < 0 then none else some (.int k (shlI k a b)) := rfl
@[simp] theorem shiftInt_shr : shiftInt .shr k a b = if b < 0 then none else some (.int k (shrI k a b)) := rfl
end

theorem orI_u8_128 {x : Int} (h0 : 0 ≤ x) (h1 : x < 128) : orI .u8 x 128 = x + 128 := by
  have h : ∀ k : Fin 128, orI .u8 (k.val : Int) 128 = k.val + 128 := by decide
  have := h ⟨x.toNat, by omega⟩
  rw [show ((⟨x.toNat, by omega⟩ : Fin 128).val : Int) = x from by simp; omega] at this
  exact this

@[simp] theorem exp1_v (st : St) (x : Value) : exp1 st (.v x) = some (.v x, st) := rfl
@[simp] theorem exp1_fn (st : St) (f : FuncId) : exp1 st (.fn f []) = some (.fn f [], st) := rfl
@[simp] theorem exp1_ro (st : St) (cs : List AV) (n : Nat) : exp1 st (.sl cs n .ro) = some (.sl cs n .ro, st) := rfl
@[simp] theorem exp1_full (st : St) (cs : List AV) (n : Nat) : exp1 st (.sl cs n .full) = some (.sl cs n .ro, st) := rfl
@[simp] theorem exp1_own (st : St) (cs : List AV) (n r e : Nat) : exp1 st (.sl cs n (.own r e)) = some (.sl cs n .ro, st) := rfl

@[simp] theorem put_some (fr : Fr) (k : Nat) (a : AV) : fr.put (some k) a = { s := (k, a) :: fr.s, d := fr.d } := rfl
@[simp] theorem put_none (fr : Fr) (a : AV) : fr.put none a = fr := rfl
@[simp] theorem only_mk (s : List (Nat × AV)) (d : List (FuncId × List AV)) (ks : List Nat) : Fr.only { s := s, d := d } ks = { s := onlyL s ks, d := d } := rfl

section
variable {T : FuncId → Option SFn} {f : FuncId} {s : SFn} {args args1 : List AV} {st st0 : St}

theorem call_whole (hT : T f = some s) (hk : s.kind = .whole ∨ s.kind = .grow) (hl : args.length = s.np) : callL T f args st = inner (runL T) s args st := by
  rw [callL_eq]
  unfold callOf
  rw [hT]
  simp only [hl, if_true]
  rcases hk with hk | hk <;> rw [hk]

/-- A callee's answer, its memory dropped. -/
def dropped (st0 : St) : Option (Res × St) → Option (Res × St)
  | some (.ret a, st1) => (expR st1 a).map fun x => (.ret x, st0)
  | some (.pan a, st1) => (expR st1 a).map fun x => (.pan x, st0)
  | none => none

/-- A callee's answer, the room behind its slice kept. -/
def kept (st0 : St) : Option (Res × St) → Option (Res × St)
  | some (.ret (.sl cs n (.own r e)), st1) => match st1.F[r]? with
    | some (e1, sz) => if e1 = e then some (.ret (.sl cs n (.own st0.F.length e)), { st0 with F := st0.F ++ [(e, sz)] }) else none
    | none => none
  | some (.ret (.sl cs n .full), _) => some (.ret (.sl cs n .full), st0)
  | some (.ret a, st1) => (expR st1 a).map fun x => (.ret x, st0)
  | some (.pan a, st1) => (expR st1 a).map fun x => (.pan x, st0)
  | none => none

theorem call_plain (hT : T f = some s) (hk : s.kind = .plain) (hl : args.length = s.np) (hx : expA st args = some (args1, st0)) : callL T f args st = dropped st0 (inner (runL T) s args1 .mt) := by
  rw [callL_eq]
  unfold callOf
  rw [hT]
  simp only [hl, if_true, hk, hx]
  rfl

/-- The answer of a function with a deferred closure. -/
def droppedG (st0 : St) : Option (AV × St) → Option (Res × St)
  | some (a, st1) => (expR st1 a).map fun x => (.ret x, st0)
  | none => none

theorem call_guard (hT : T f = some s) (hk : s.kind = .guard) (hl : args.length = s.np) (hx : expA st args = some (args1, st0)) : callL T f args st = droppedG st0 (innerG T (runL T) s args1 .mt) := by
  rw [callL_eq]
  unfold callOf
  rw [hT]
  simp only [hl, if_true, hk, hx]
  rfl

/-- A callee's answer, its slice a block of one's own. -/
def freshed (st0 : St) : Option (Res × St) → Option (Res × St)
  | some (.ret (.sl cs n (.own r e)), st1) => match st1.F[r]? with
    | some (e1, sz) => if e1 = e ∧ cs.length = e ∧ 0 < e ∧ cs.all AV.isV = true then some (.ret (.hs st0.H.length 0 n sz), { st0 with H := st0.H ++ [{ cells := cs, fz := false }] }) else none
    | none => none
  | some (.ret (.sl cs n .full), _) => some (.ret (.sl cs n .full), st0)
  | some (.ret a, st1) => (expR st1 a).map fun x => (.ret x, st0)
  | some (.pan a, st1) => (expR st1 a).map fun x => (.pan x, st0)
  | none => none

theorem call_fresh (hT : T f = some s) (hk : s.kind = .fresh) (hl : args.length = s.np) (hx : expA st args = some (args1, st0)) : callL T f args st = freshed st0 (inner (runL T) s args1 .mt) := by
  rw [callL_eq]
  unfold callOf
  rw [hT]
  simp only [hl, if_true, hk, hx]
  rfl

/-- A pure callee's answer. -/
def pured (st : St) (args : List AV) : Option (Res × St) → Option (Res × St)
  | some (.ret a, st1) => match expR st1 a with
    | some x => if (scalR x || (args.flatMap hsOf).isEmpty) = true then some (.ret x, st) else none
    | none => none
  | _ => none

theorem call_pure (hT : T f = some s) (hk : s.kind = .pure) (hl : args.length = s.np) (hx : expA st args = some (args1, st0)) : callL T f args st = pured st args (inner (runL T) s args1 .mt) := by
  rw [callL_eq]
  unfold callOf
  rw [hT]
  simp only [hl, if_true, hk, hx]
  rfl

theorem call_keep (hT : T f = some s) (hk : s.kind = .keep) (hl : args.length = s.np) (hx : expA st args = some (args1, st0)) : callL T f args st = kept st0 (inner (runL T) s args1 .mt) := by
  rw [callL_eq]
  unfold callOf
  rw [hT]
  simp only [hl, if_true, hk, hx]
  rfl
end

/-- A closure that recovers 'v' ends well. -/
noncomputable def catchK (T : FuncId → Option SFn) (l : List (Nat × AV)) (res : List SRes) (g : FuncId) (caps : List AV) (v : AV) (st : St) : Option (AV × St) :=
  match catchR T (runL T) g caps v st with
  | some st2 => match takeRess l st2.H res with
    | some xs => some (pack xs, st2)
    | none => none
  | none => none

noncomputable def endG (T : FuncId → Option SFn) (res : List SRes) : Option Out → Option (AV × St)
  | some out => match openG out with
    | some (l, g, caps, v, st1) => catchK T l res g caps v st1
    | none => none
  | none => none

theorem innerG_eq (T : FuncId → Option SFn) (s : SFn) (args : List AV) (st : St) : innerG T (runL T) s args st = endG T s.res (runL T s.body { s := initFr 0 args, d := [] } st) := by
  unfold innerG endG catchK
  rfl

section
variable (T : FuncId → Option SFn) (res : List SRes) (s : List (Nat × AV)) (g : FuncId) (caps : List AV) (st : St)
@[simp] theorem endG_rt : endG T res (some (.rt, { s := s, d := [(g, caps)] }, st)) = catchK T s res g caps (.v .nilIface) st := by cases st; rfl
@[simp] theorem endG_nx : endG T res (some (.nx, { s := s, d := [(g, caps)] }, st)) = catchK T s res g caps (.v .nilIface) st := by cases st; rfl
@[simp] theorem endG_pn (a : AV) : endG T res (some (.pn a, { s := s, d := [(g, caps)] }, st)) = catchK T s res g caps a st := by cases st; rfl
end

theorem catchK_eq {T : FuncId → Option SFn} {sg : SFn} {r x : Nat} {l : List (Nat × AV)} {res : List SRes} {g : FuncId} {caps : List AV} {v : AV} {st st2 : St} {e : Ex} {fr2 : Fr} (hT : T g = some sg) (hk : sg.kind = .catch r x) (hl : caps.length = sg.np) (hres : sg.res = [])
    (hrun : runL T sg.body { s := (x, v) :: (r, v) :: initFr 0 caps, d := [] } st = some (e, fr2, st2)) (he : e = .nx ∨ e = .rt) (hd : fr2.d = []) {xs : List AV} (hx : takeRess l st2.H res = some xs) : catchK T l res g caps v st = some (pack xs, st2) := by
  have hend : endC [] (e, fr2, st2) = some st2 := by
    rcases he with rfl | rfl <;> simp [endC, hd]
  unfold catchK catchR
  rw [hT]
  simp only [hk, hl, if_true, hrun, hres, hend, hx]

theorem wrap_i64 {x : Int} (h1 : -9223372036854775808 ≤ x) (h2 : x < 9223372036854775808) : IntKind.wrap .i64 x = x := by
  rw [IntKind.wrap_i64]; omega

theorem wrap_u8 (x : Int) : IntKind.wrap .u8 x = x % 256 := IntKind.wrap_u8 x

theorem look_onlyL {l : List (Nat × AV)} : ∀ {ks : List Nat} {i : Nat}, i ∈ ks → look (onlyL l ks) i = look l i
  | k :: r, i, h => by
    simp only [onlyL]
    by_cases hk : k = i
    · subst hk
      cases hl : look l k with
      | some a => simp [look]
      | none =>
        simp only
        cases h2 : look (onlyL l r) k with
        | none => rfl
        | some a => rw [look_only h2] at hl; cases hl
    · have hr : i ∈ r := by simpa [Ne.symm hk] using h
      cases hl : look l k with
      | some a => simp only [look, if_neg hk]; exact look_onlyL hr
      | none => exact look_onlyL hr

theorem onlyL_congr {l m : List (Nat × AV)} : ∀ {ks : List Nat}, (∀ i ∈ ks, look l i = look m i) → onlyL l ks = onlyL m ks
  | [], _ => rfl
  | k :: r, h => by simp only [onlyL, h k (by simp), onlyL_congr (ks := r) (fun i hi => h i (by simp [hi]))]

theorem only_only (fr : Fr) (ks : List Nat) : (fr.only ks).only ks = fr.only ks := by
  unfold Fr.only
  rw [onlyL_congr fun i hi => look_onlyL hi]

/-- A loop looks at its live slots alone. -/
theorem loop_from {T : FuncId → Option SFn} {ks : List Nat} {c : SCode} {fr fr2 : Fr} {st : St} (h : fr.only ks = fr2.only ks) : runL T (.loop ks c) fr st = runL T (.loop ks c) fr2 st := by
  rw [runL_loop, runL_loop, h]

theorem loop_use {T : FuncId → Option SFn} {ks : List Nat} {c : SCode} {fr2 : Fr} {st : St} {o : Option Out} (h : runL T (.loop ks c) fr2 st = o) (fr : Fr) (he : fr.only ks = fr2.only ks) : runL T (.loop ks c) fr st = o :=
  (loop_from he).trans h

/-- A slice to which may be appended, with its content: cells, number of elements. -/
inductive App (st : St) (sz : Nat) : AV → List AV → Nat → Prop where
  | nil : App st sz (.v (.slice none 0 0)) [] 0
  | full {cs : List AV} {n : Nat} : cs.length = n * sz → App st sz (.sl cs n .full) cs n
  | own {cs : List AV} {n r e : Nat} : cs.length = n * sz → st.F[r]? = some (e, sz) → App st sz (.sl cs n (.own r e)) cs n

/-- A slice that can be read: nil or not. -/
inductive IsL (sz : Nat) : AV → List AV → Nat → Prop where
  | nil {q : Option Addr} : IsL sz (.v (.slice q 0 0)) [] 0
  | sl {cs : List AV} {n : Nat} {t : Tag} : t ≠ .ptrs → cs.length = n * sz → IsL sz (.sl cs n t) cs n

theorem App.isL {st : St} {sz : Nat} {x : AV} {cs : List AV} {n : Nat} (h : App st sz x cs n) : IsL sz x cs n := by
  cases h with
  | nil => exact .nil
  | full h => exact .sl (by simp) h
  | own h _ => exact .sl (by simp) h

theorem App.form {st : St} {sz : Nat} {x : AV} {cs : List AV} {n : Nat} (h : App st sz x cs n) (hn : 0 < n) : ∃ t, x = .sl cs n t ∧ t ≠ .ptrs := by
  cases h with
  | nil => omega
  | full h => exact ⟨_, rfl, by simp⟩
  | own h hF => exact ⟨_, rfl, by simp⟩

theorem app_append {st : St} {sz bytes : Nat} {x y : AV} {cs ds : List AV} {n m : Nat} (hx : App st sz x cs n) (hy : IsL sz y ds m) (hsz : 0 < sz) (hb : (n + m) * bytes ≤ most47) (hm : n + m ≤ 1099511627776) :
    ∃ z st', opAppend st sz bytes x y = some (z, st') ∧ App st' sz z (cs ++ ds) (n + m) ∧ st'.H = st.H := by
  have hmax : ∀ k, k ≤ n + m → k ≤ maxLen := fun k hk => by simp only [maxLen]; omega
  have hsrc : srcOf st y sz = some (ds, m) := by
    cases hy with
    | nil => rfl
    | sl ht hl => simp [srcOf, ht]
  have hlen : ds.length = m * sz := by
    cases hy with
    | nil => simp
    | sl ht hl => exact hl
  have hb2 : m * bytes ≤ most47 := Nat.le_trans (Nat.mul_le_mul_right _ (by omega)) hb
  by_cases h0 : m = 0
  · subst h0
    have hds : ds = [] := by simpa using hlen
    subst hds
    refine ⟨x, st, ?_, by simpa using hx, rfl⟩
    unfold opAppend
    rw [hsrc]
    cases hx <;> simp [hsz]
  · unfold opAppend
    rw [hsrc]
    cases hx with
    | nil =>
      refine ⟨.sl ds m (.own st.F.length ds.length), { st with F := st.F ++ [(ds.length, sz)] }, by simp [hlen, hsz, h0, hb2, hmax m (by omega)], ?_, rfl⟩
      simp only [List.nil_append, Nat.zero_add]
      exact .own hlen (by simp)
    | full h =>
      refine ⟨.sl (cs ++ ds) (n + m) (.own st.F.length (cs ++ ds).length), { st with F := st.F ++ [((cs ++ ds).length, sz)] }, by simp [hlen, hsz, h0, hb, hmax (n + m) (by omega), h], .own (by simp [h, hlen, Nat.add_mul]) (by simp), rfl⟩
    | own h hF =>
      rename_i r e
      refine ⟨.sl (cs ++ ds) (n + m) (.own r (e + ds.length)), { st with F := st.F.set r (e + ds.length, sz) }, by simp [hlen, hsz, h0, hb, hmax (n + m) (by omega), h, hF], .own (by simp [h, hlen, Nat.add_mul]) ?_, rfl⟩
      have := (List.getElem?_eq_some_iff.1 hF).1
      simp [this]

theorem kept_app {st st1 : St} {sz : Nat} {y : AV} {cs : List AV} {n : Nat} (h : App st1 sz y cs n) : ∃ y' st', kept st (some (.ret y, st1)) = some (.ret y', st') ∧ App st' sz y' cs n ∧ st'.H = st.H := by
  cases h with
  | nil => exact ⟨_, st, rfl, .nil, rfl⟩
  | full h => exact ⟨_, st, rfl, .full h, rfl⟩
  | own h hF =>
    rename_i r e
    exact ⟨.sl cs n (.own st.F.length e), { st with F := st.F ++ [(e, sz)] }, by simp only [kept, hF, if_true], .own h (by simp), rfl⟩

/-- A slice as it goes to others. -/
theorem IsL.exp {sz : Nat} {x : AV} {cs : List AV} {n : Nat} (h : IsL sz x cs n) (st : St) : ∃ y, exp1 st x = some (y, st) ∧ IsL sz y cs n ∧ exp0 st x = some (y, st) ∧ clean1 x = some y := by
  cases h with
  | nil => exact ⟨_, rfl, .nil, rfl, rfl⟩
  | sl ht hl => exact ⟨.sl cs n .ro, by simp [exp1, ht], .sl (by simp) hl, by simp [ht], by simp [ht]⟩

end VS
end Go.Proofs.Ytbnhmahkgeaajaa
