/- Each operation of the compact form, held against the model's own: what it computes represents what the model computes, and the state's invariant stands. -/
import Derived.Test.YtbnhmahkgeaajaaVsStrip
namespace Go.Proofs.Ytbnhmahkgeaajaa
namespace VS

structure Step (S S' : Sim) : Prop where
  ext : Ext S S'
  inv : Inv S'
  below : RowKit.Below S.B S.w S'.w

theorem Step.refl {S : Sim} (I : Inv S) : Step S S := ⟨Ext.refl S, I, RowKit.Below.refl _ _⟩
theorem Step.trans {S S1 S2 : Sim} (h : Step S S1) (k : Step S1 S2) : Step S S2 := ⟨h.ext.trans k.ext, k.inv, h.below.trans (by have := k.below; rw [h.ext.B] at this; exact this)⟩

/-- The state that an operation leaves. -/
def Sim.to (S : Sim) (w : World) (hm : List Nat) (rm : List (Nat × Nat)) (st : St) : Sim := { w := w, hm := hm, rm := rm, st := st, B := S.B, A := S.A }

inductive DRep (S : Sim) : List (FuncId × List AV) → List Deferred → Prop where
  | nil : DRep S [] []
  | cons {f : FuncId} {caps : List AV} {ys : List Value} {l : List (FuncId × List AV)} {m : List Deferred} : RepL S caps ys → DRep S l m →
      DRep S ((f, caps) :: l) ({ target := .fn (.func f) ys.toArray, args := #[] } :: m)

theorem DRep.ext {S S' : Sim} (E : Ext S S') : ∀ {l : List (FuncId × List AV)} {m : List Deferred}, DRep S l m → DRep S' l m
  | _, _, .nil => .nil
  | _, _, .cons h1 h2 => .cons (RepL.ext E h1) (DRep.ext E h2)

structure FrOk (S : Sim) (fr : Fr) (a : Act) : Prop where
  s : ∀ (i : Nat) (x : AV), look fr.s i = some x → ∃ y, a.tmps[i]? = some y ∧ Rep S x y
  d : DRep S fr.d a.defers

theorem FrOk.ext {S S' : Sim} {fr : Fr} {a : Act} (h : FrOk S fr a) (E : Ext S S') : FrOk S' fr a :=
  ⟨fun i x hx => let ⟨y, h1, h2⟩ := h.s i x hx; ⟨y, h1, Rep.ext E h2⟩, DRep.ext E h.d⟩

section
variable {P : Program} {S : Sim} {fr : Fr} {a : Act}

theorem atomsOf_rep : ∀ {l : List Value} {m : List AV}, atomsOf l = some m → RepL S m l ∧ ∀ x ∈ m, x.one = true
  | [], m, h => by simp only [atomsOf, Option.some.injEq] at h; subst h; exact ⟨.nil, by simp⟩
  | x :: r, m, h => by
    simp only [atomsOf] at h
    split at h
    · rename_i ha
      rw [Option.map_eq_some_iff] at h
      obtain ⟨k, hk, rfl⟩ := h
      obtain ⟨h1, h2⟩ := atomsOf_rep (l := r) hk
      exact ⟨.cons (.v ha) h1, by simpa [AV.one] using h2⟩
    · cases h

theorem ofVal_rep {x : Value} {av : AV} (h : ofVal x = some av) : Rep S av x := by
  have plain : ∀ {x : Value} {av : AV}, (if atom x then some (AV.v x) else none) = some av → Rep S av x := by
    intro x av h
    split at h
    · rename_i ha; cases h; exact .v ha
    · cases h
  cases x with
  | agg cs =>
    simp only [ofVal, Option.map_eq_some_iff] at h
    obtain ⟨m, hm, rfl⟩ := h
    obtain ⟨h1, h2⟩ := atomsOf_rep (S := S) hm
    have := Rep.agg h1 h2
    simpa using this
  | func fn first caps =>
    cases fn with
    | func f =>
      simp only [ofVal] at h
      split at h
      · rename_i hc
        simp only [Bool.and_eq_true, Array.isEmpty_iff] at hc
        obtain ⟨rfl, rfl⟩ := hc
        cases h
        exact .fn .nil
      · cases h
    | _ => exact plain h
  | _ => exact plain h

theorem stripX_rep (hf : FrOk S fr a) {x : Operand} {sx : SX} {av : AV} (hx : stripX x = some sx) (he : evX fr sx = some av) : Rep S av (a.eval x) := by
  cases x with
  | tmp t =>
    simp only [stripX, Option.some.injEq] at hx; subst hx
    obtain ⟨y, h1, h2⟩ := hf.s t av he
    have : a.eval (.tmp t) = y := by simp [Act.eval, h1]
    rw [this]; exact h2
  | const v =>
    simp only [stripX, Option.map_eq_some_iff] at hx
    obtain ⟨b, hb, rfl⟩ := hx
    simp only [evX, Option.some.injEq] at he; subst he
    exact ofVal_rep hb
  | func f =>
    simp only [stripX, Option.some.injEq] at hx; subst hx
    simp only [evX, Option.some.injEq] at he; subst he
    exact .fn .nil
  | global g => simp [stripX] at hx

theorem stripXs_rep (hf : FrOk S fr a) : ∀ {xs : List Operand} {l : List SX} {as : List AV}, stripXs xs = some l → evXs fr l = some as → RepL S as (xs.map a.eval)
  | [], l, as, h, he => by
    simp only [stripXs, Option.some.injEq] at h; subst h
    simp only [evXs, Option.some.injEq] at he; subst he
    exact .nil
  | x :: r, l, as, h, he => by
    simp only [stripXs] at h
    split at h
    · rename_i sx l' hx hl
      cases h
      simp only [evXs] at he
      split at he
      · rename_i av as' h1 h2
        cases he
        exact .cons (stripX_rep hf hx h1) (stripXs_rep hf hl h2)
      · cases he
    · cases h

end

theorem Rep.bool_inv {S : Sim} {b : Bool} {y : Value} (h : Rep S (.v (.bool b)) y) : y = .bool b := by cases h; rfl
theorem Rep.v_inv {S : Sim} {x y : Value} (h : Rep S (.v x) y) : y = x ∧ atom x = true := by cases h; exact ⟨rfl, by assumption⟩

theorem run_typeInfo' {P : Program} {t : TypeId} {i : TypeInfo} (h : P.info? t = some i) (w : World) : (typeInfo t).run P w = .ok i w := by simp [typeInfo, h]
theorem run_sizeOf' {P : Program} {t : TypeId} {i : TypeInfo} (h : P.info? t = some i) (w : World) : (sizeOf t).run P w = .ok i.size w := by simp [sizeOf, typeInfo, h]
theorem run_zero' {P : Program} {t : TypeId} {i : TypeInfo} {z : Value} (h : P.info? t = some i) (hz : i.zero = some z) (w : World) : (zeroValue t).run P w = .ok z w := by simp [zeroValue, typeInfo, h, hz]

theorem zeroOf_inv {P : Program} {t : TypeId} {l : List AV} (h : zeroOf P t = some l) : ∃ i z, P.info? t = some i ∧ i.zero = some z ∧ atomsOf z.cells.toList = some l := by
  unfold zeroOf at h
  split at h
  · rename_i i hi
    split at h
    · rename_i z hz; exact ⟨i, z, hi, hz, h⟩
    · cases h
  · cases h

theorem run_newVar' {P : Program} (t : TypeId) (v : Value) (w : World) : (newVar t v).run P w = .ok ⟨w.heap.size, 0, none⟩ (w.alloc (.cells v.cells t)) := by
  simp [newVar, newRow]

/-- A new variable of one's own. -/
theorem Step.alloc {S : Sim} (I : Inv S) {cells : List AV} {ys : List Value} (e : TypeId) (hl : RepL S cells ys) (h1 : ∀ x ∈ cells, x.one = true) :
    ∃ S', S'.w = S.w.alloc (.cells ys.toArray e) ∧ S'.st = { S.st with H := S.st.H ++ [{ cells := cells, fz := false }] } ∧ S'.B = S.B ∧ S'.A = S.A ∧ Step S S' ∧ Rep S' (.ptr S.st.H.length 0) (.pointer (some ⟨S.w.heap.size, 0, none⟩)) := by
  obtain ⟨E, J⟩ := new_block I e hl h1
  refine ⟨{ S with w := S.w.alloc (.cells ys.toArray e), hm := S.hm ++ [S.w.heap.size], rm := S.rm ++ [], st := { H := S.st.H ++ [{ cells := cells, fz := false }], F := S.st.F ++ [] } },
    rfl, by simp, rfl, rfl, ⟨E, J, (RowKit.Below.refl _ _).alloc I.hB _⟩, .ptr ?_⟩
  show (S.hm ++ [S.w.heap.size])[S.st.H.length]? = _
  rw [← I.hl]; simp

/-- What an operation other than a call comes to. -/
def OpRet (P : Program) (o : Oper) (a : Act) (S : Sim) (x : AV) (st : St) : Prop :=
  ∃ S', S'.st = st ∧ S'.B = S.B ∧ S'.A = S.A ∧ Step S S' ∧
    ((∃ y, (execOp a.eval o).run P S.w = .ok (.value y) S'.w ∧ Rep S' x y) ∨ ((execOp a.eval o).run P S.w = .ok .skip S'.w ∧ x = und))

theorem OpRet.same {P : Program} {o : Oper} {a : Act} {S : Sim} {x : AV} (I : Inv S) {y : Value} (h : (execOp a.eval o).run P S.w = .ok (.value y) S.w) (hr : Rep S x y) : OpRet P o a S x S.st :=
  ⟨S, rfl, rfl, rfl, Step.refl I, .inl ⟨y, h, hr⟩⟩

section
variable {P : Program} {S : Sim} {fr : Fr} {a : Act} {o : Oper}

theorem op_mv (I : Inv S) (hf : FrOk S fr a) {x : Operand} {sx : SX} {av : AV} (ho : o.op = .move x ∨ o.op = .assign x) (hx : stripX x = some sx) (he : evX fr sx = some av) : OpRet P o a S av S.st := by
  refine OpRet.same I (y := a.eval x) ?_ (stripX_rep hf hx he)
  rcases ho with ho | ho <;> simp [execOp, ho]

theorem op_pick (I : Inv S) (hf : FrOk S fr a) {c x y : Operand} {sc s1 s2 : SX} {b : Bool} {av : AV} (ho : o.op = .pick c x y) (hc : stripX c = some sc) (h1 : stripX x = some s1) (h2 : stripX y = some s2)
    (ec : evX fr sc = some (.v (.bool b))) (ev : (if b then evX fr s1 else evX fr s2) = some av) : OpRet P o a S av S.st := by
  have h := (stripX_rep hf hc ec).bool_inv
  cases b
  · exact OpRet.same I (y := a.eval y) (by simp [execOp, ho, h, asBool]) (stripX_rep hf h2 ev)
  · exact OpRet.same I (y := a.eval x) (by simp [execOp, ho, h, asBool]) (stripX_rep hf h1 ev)

theorem op_alloc (I : Inv S) {t : TypeId} {z : List AV} (ho : o.op = .alloc t) (hz : zeroOf P t = some z) :
    OpRet P o a S (.ptr S.st.H.length 0) { S.st with H := S.st.H ++ [{ cells := z, fz := false }] } := by
  obtain ⟨i, zv, hi, hz1, hz2⟩ := zeroOf_inv hz
  obtain ⟨hl, h1⟩ := atomsOf_rep (S := S) hz2
  obtain ⟨S', hw, hst, hB, hA, hs, hr⟩ := Step.alloc I t hl h1
  refine ⟨S', hst, hB, hA, hs, .inl ⟨_, ?_, hr⟩⟩
  rw [hw]
  simp [execOp, ho, Instr.alloc, run_zero' hi hz1, run_newVar']

theorem Rep.cells_rep {av : AV} {y : Value} (h : Rep S av y) (ht : av.isTup = false) : RepL S av.cells y.cells.toList ∧ ∀ x ∈ av.cells, x.one = true := by
  cases h with
  | agg hl ho => exact ⟨by simpa [AV.cells, Value.cells] using hl, ho⟩
  | tup hl => simp [AV.isTup] at ht
  | v ha =>
    refine ⟨?_, by simp [AV.cells, AV.one]⟩
    cases y <;> first | (simp [atom] at ha; done) | exact .cons (.v ha) .nil
  | sl h1 h2 h3 h4 h5 h6 h7 h8 => exact ⟨.cons (.sl h1 h2 h3 h4 h5 h6 h7 h8) .nil, by simp [AV.cells, AV.one]⟩
  | ptr h => exact ⟨.cons (.ptr h) .nil, by simp [AV.cells, AV.one]⟩
  | ep h1 h2 h3 h4 => exact ⟨.cons (.ep h1 h2 h3 h4) .nil, by simp [AV.cells, AV.one]⟩
  | hs h1 h2 h3 h4 h5 => exact ⟨.cons (.hs h1 h2 h3 h4 h5) .nil, by simp [AV.cells, AV.one]⟩
  | fn h1 => exact ⟨.cons (.fn h1) .nil, by simp [AV.cells, AV.one]⟩
  | ifc h1 => exact ⟨.cons (.ifc h1) .nil, by simp [AV.cells, AV.one]⟩

theorem op_box (I : Inv S) (hf : FrOk S fr a) {t : TypeId} {x : Operand} {sx : SX} {av : AV} (ho : o.op = .box t x) (hx : stripX x = some sx) (he : evX fr sx = some av) (ht : av.isTup = false) :
    OpRet P o a S (.ptr S.st.H.length 0) { S.st with H := S.st.H ++ [{ cells := av.cells, fz := false }] } := by
  obtain ⟨hl, h1⟩ := (stripX_rep hf hx he).cells_rep ht
  obtain ⟨S', hw, hst, hB, hA, hs, hr⟩ := Step.alloc I t hl h1
  refine ⟨S', hst, hB, hA, hs, .inl ⟨_, ?_, hr⟩⟩
  rw [hw]
  simp [execOp, ho, Instr.box, run_newVar']

end

end VS
end Go.Proofs.Ytbnhmahkgeaajaa
