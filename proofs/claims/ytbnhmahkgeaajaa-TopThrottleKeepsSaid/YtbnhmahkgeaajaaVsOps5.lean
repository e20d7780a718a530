/- The other operations that read no memory, or make some. -/
import Derived.Test.YtbnhmahkgeaajaaVsOps4
namespace Go.Proofs.Ytbnhmahkgeaajaa
namespace VS

section
variable {P : Program} {S : Sim} {fr : Fr} {a : Act} {o : Oper}

theorem op_un (I : Inv S) (hf : FrOk S fr a) {op : UnOp} {t : TypeId} {x : Operand} {sx : SX} {u : AV} {z : Value} (ho : o.op = .unOp op t x) (hx : stripX x = some sx) (he : evX fr sx = some u) (hz : unAV op u = some z) : OpRet P o a S (.v z) S.st := by
  have hu := stripX_rep hf hx he
  unfold unAV at hz
  split at hz
  · obtain ⟨hv, _⟩ := hu.v_inv
    cases hz
    exact OpRet.same I (by simp [execOp, ho, hv, Op.unary, Op.intArith]) (.v rfl)
  · obtain ⟨hv, _⟩ := hu.v_inv
    simp only [binInt, Option.some.injEq] at hz
    subst hz
    exact OpRet.same I (by simp [execOp, ho, hv, Op.unary, Op.intBits]) (.v rfl)
  · obtain ⟨hv, _⟩ := hu.v_inv
    cases hz
    exact OpRet.same I (by simp [execOp, ho, hv, Op.unary]) (.v rfl)
  · cases hz

theorem op_conv (I : Inv S) (hf : FrOk S fr a) {s d : TypeId} {x : Operand} {sx : SX} {k k' : IntKind} {n : Int} {ds : TypeDesc} (ho : o.op = .convert s d x) (hs : P.underlying s = some ds) (hd : P.underlying d = some (.int k)) (hx : stripX x = some sx)
    (he : evX fr sx = some (.v (.int k' n))) : OpRet P o a S (.v (.int k (k.wrap n))) S.st := by
  obtain ⟨hv, _⟩ := (stripX_rep hf hx he).v_inv
  refine OpRet.same I (y := .int k (k.wrap n)) ?_ (.v rfl)
  simp only [execOp, ho, hv, convert, Sem.run_bind, run_underlying hs, run_underlying hd, Result.andThen_ok]
  cases ds <;> simp [Conv.intToInt]

theorem bytesOf_rep {S : Sim} : ∀ {cs : List AV} {xs : List Int} {ys : List Value}, bytesOf cs = some xs → RepL S cs ys → ys = xs.map (Value.int .u8)
  | [], xs, _, h, .nil => by simp only [bytesOf, Option.some.injEq] at h; subst h; rfl
  | c :: r, xs, _, h, .cons h1 h2 => by
    unfold bytesOf at h
    split at h
    · simp at *
    · rename_i n r' heq
      cases heq
      rw [Option.map_eq_some_iff] at h
      obtain ⟨l, hl, rfl⟩ := h
      obtain ⟨rfl, _⟩ := h1.v_inv
      rw [bytesOf_rep hl h2]; rfl
    · cases h

theorem op_tostr (I : Inv S) (hf : FrOk S fr a) {s d e : TypeId} {x : Operand} {sx : SX} {u : AV} {z : ORes} {st : St} (ho : o.op = .convert s d x) (hs : P.underlying s = some (.slice e)) (hd : P.underlying d = some .string) (he' : P.underlying e = some (.int .u8))
    (hx : stripX x = some sx) (he : evX fr sx = some u) (hz : (match u with
      | .v (.slice _ 0 0) => some (ORes.ret (.v (.string (strOfNums []))), S.st)
      | .sl cs n _ => (match bytesOf cs with
        | some xs => if xs.length = n then some (.ret (.v (.string (strOfNums xs))), S.st) else none
        | none => none)
      | _ => none) = some (z, st)) : ∃ r, z = .ret r ∧ OpRet P o a S r st := by
  have hu := stripX_rep hf hx he
  generalize hy : a.eval x = y at hu
  split at hz
  · cases hz
    obtain ⟨rfl, _⟩ := hu.v_inv
    refine ⟨_, rfl, OpRet.same I (y := .string (strOfNums [])) ?_ (.v rfl)⟩
    rename_i q _ _
    have hrun : (convert s d (.slice q 0 0)).run P S.w = .ok (.string (strOfNums [])) S.w := by
      cases q with
      | none => exact run_convert_bytes_nil S.w s e hs he' 0 0 d hd
      | some q =>
        rw [run_convert_bytes_string S.w s d e _ 0 0 hs he' hd, run_bytesToString S.w _ 0 0 [] (by simp [loadCells, loadCellsFrom])]
        rfl
    simp only [execOp, ho, hy, Sem.run_bind, hrun, Result.andThen_ok, Sem.run_pure]
  · rename_i cs n t _
    split at hz
    · rename_i xs hxs
      split at hz
      · rename_i hlen
        cases hz
        cases hu with
        | sl h1 h2 h3 h4 h5 h6 h7 h8 =>
          rename_i g off cap ys
          have hys := bytesOf_rep hxs h4
          refine ⟨_, rfl, OpRet.same I (y := .string (strOfNums xs)) ?_ (.v rfl)⟩
          have := run_convert_bytes_arg S.w s e hs he' g off n cap xs hlen (fun i hi => h5 i _ (by rw [hys, List.getElem?_map, List.getD_eq_getElem?_getD, List.getElem?_eq_getElem (show i < xs.length by omega)]; rfl)) d hd
          simp only [execOp, ho, hy, Sem.run_bind, this, Result.andThen_ok, Sem.run_pure]
      · cases hz
    · cases hz
  · cases hz

theorem op_nilck (I : Inv S) (hf : FrOk S fr a) {x : Operand} {sx : SX} {u : AV} (ho : o.op = .nilCheck x) (hx : stripX x = some sx) (he : evX fr sx = some u)
    (hk : (∃ b off, u = .ptr b off) ∨ (∃ cs off, u = .ep cs off) ∨ (∃ f caps, u = .fn f caps)) : OpRet P o a S u S.st := by
  have hu := stripX_rep hf hx he
  refine OpRet.same I (y := a.eval x) ?_ hu
  generalize hy : a.eval x = y at hu
  rcases hk with ⟨b, off, rfl⟩ | ⟨cs, off, rfl⟩ | ⟨f, caps, rfl⟩
  · cases hu; simp [execOp, ho, hy]
  · cases hu; simp [execOp, ho, hy]
  · cases hu; simp [execOp, ho, hy]

theorem op_s2ap (I : Inv S) (hf : FrOk S fr a) {t e : TypeId} {n m : Nat} {x : Operand} {sx : SX} {cs : List AV} {tg : Tag} (ho : o.op = .sliceToArrayPointer t x) (ht : P.underlying t = some (.array n e)) (hx : stripX x = some sx)
    (he : evX fr sx = some (.sl cs m tg)) (hle : n ≤ m) : OpRet P o a S (.ep cs 0) S.st := by
  have hu := stripX_rep hf hx he
  generalize hy : a.eval x = y at hu
  cases hu with
  | sl h1 h2 h3 h4 h5 h6 h7 h8 =>
    rename_i g off cap ys
    refine OpRet.same I (y := .pointer (some ⟨g, off + 0, none⟩)) ?_ (.ep h3 h4 h5 h6)
    have : ¬ m < n := by omega
    simp [execOp, ho, hy, Instr.arrayAt, run_underlying ht, this]

theorem op_mkifc (I : Inv S) (hf : FrOk S fr a) {t : TypeId} {d : TypeDesc} {x : Operand} {sx : SX} {u : AV} (ho : o.op = .makeInterface t x) (ht : P.underlying t = some d) (hd : ∀ ms, d ≠ .interface ms) (hx : stripX x = some sx) (he : evX fr sx = some u) :
    OpRet P o a S (.ifc t u) S.st := by
  have hu := stripX_rep hf hx he
  refine OpRet.same I (y := .iface t (a.eval x)) ?_ (.ifc hu)
  simp only [execOp, ho, Instr.makeInterface, Sem.run_bind, run_underlying ht, Result.andThen_ok]
  cases d <;> first | (exact absurd rfl (hd _)) | rfl

theorem op_mkfn (I : Inv S) (hf : FrOk S fr a) {f : FuncId} {first caps : Array Operand} {l : List SX} {as : List AV} (ho : o.op = .makeFunc (.func f) first caps) (h0 : first.isEmpty = true) (hx : stripXs caps.toList = some l) (he : evXs fr l = some as) :
    OpRet P o a S (.fn f as) S.st := by
  have hu := stripXs_rep hf hx he
  have h0' : first = #[] := by simpa using h0
  subst h0'
  have e : caps.map a.eval = (caps.toList.map a.eval).toArray := by apply Array.ext'; simp
  refine OpRet.same I (y := .func (.func f) #[] (caps.map a.eval)) ?_ (e ▸ .fn hu)
  simp [execOp, ho, Instr.makeFunc]

theorem op_mkslice (I : Inv S) (hf : FrOk S fr a) {t e : TypeId} {i : TypeInfo} {z : List AV} {x y : Operand} {s1 s2 : SX} {u v : AV} {n m : Int} (ho : o.op = .makeSlice t x y) (ht : P.underlying t = some (.slice e)) (hi : P.info? e = some i) (hz : zeroOf P e = some z)
    (hzl : z.length = i.size) (hpos : 0 < i.size) (hx : stripX x = some s1) (hy : stripX y = some s2) (e1 : evX fr s1 = some u) (e2 : evX fr s2 = some v) (hu : asNum u = some n) (hv : asNum v = some m)
    (hc : 0 ≤ n ∧ n ≤ m ∧ m * i.bytes ≤ most47 ∧ m ≤ maxLen) : OpRet P o a S (.hs S.st.H.length 0 n.toNat z.length) { S.st with H := S.st.H ++ [{ cells := repeatL z m.toNat, fz := false }] } := by
  obtain ⟨h0, hnm, hby, hmax⟩ := hc
  have num : ∀ {av : AV} {k : Int} {w : Value}, asNum av = some k → Rep S av w → ∃ q, w = .int q k := by
    intro av k w h hr
    unfold asNum at h
    split at h
    · cases h; exact ⟨_, hr.v_inv.1⟩
    · cases h
  obtain ⟨q1, hx'⟩ := num hu (stripX_rep hf hx e1)
  obtain ⟨q2, hy'⟩ := num hv (stripX_rep hf hy e2)
  obtain ⟨i', zv, hi', hz1, hz2⟩ := zeroOf_inv hz
  rw [hi] at hi'; cases hi'
  obtain ⟨hl, hone⟩ := atomsOf_rep (S := S) hz2
  have hzs : zv.cells.size = i.size := by have := hl.length; simp at this; omega
  obtain ⟨n', rfl⟩ := Int.eq_ofNat_of_zero_le h0
  obtain ⟨m', rfl⟩ := Int.eq_ofNat_of_zero_le (Int.le_trans h0 hnm)
  have hrep := hl.rep m'
  obtain ⟨S', hw, hst, hB, hA, hs, hr⟩ := Step.alloc I e hrep (repeatL_one hone m')
  have e47 : ((most47 : Nat) : Int) = 140737488355328 := rfl
  have e63 : ((maxLen : Nat) : Int) = 9223372036854775807 := rfl
  rw [e47] at hby
  rw [e63] at hmax
  have wl : IntKind.i64.wrap (n' : Int) = n' := IntWalk.i64_in _ (by omega)
  have wm : IntKind.i64.wrap (m' : Int) = m' := IntWalk.i64_in _ (by omega)
  have hby' : (i.bytes : Int) * m' ≤ 140737488355328 := by rw [Int.mul_comm]; exact hby
  have hcells : ((Array.range (m' * i.size)).map fun j => (if m' * i.size = 0 then #[] else zv.cells)[j % (if m' * i.size = 0 then #[] else zv.cells).size]!) = (List.flatten (List.replicate m' zv.cells.toList)).toArray := by
    by_cases h0 : m' * i.size = 0
    · have hn : m' = 0 := by rcases Nat.mul_eq_zero.1 h0 with h | h <;> omega
      subst hn
      simp
    · rw [if_neg h0, ← hzs, range_zero _ (by omega)]
  refine ⟨S', by simpa using hst, hB, hA, hs, .inl ⟨.slice (some ⟨S.w.heap.size, 0, none⟩) n' m', ?_, ?_⟩⟩
  · rw [hw]
    have g1 : ¬ ((m' : Int) < 0) := by omega
    have g2 : ¬ ((i.bytes : Int) * m' > 281474976710656) := by omega
    have g3 : ¬ ((n' : Int) < 0) := by omega
    have g4 : ¬ ((n' : Int) > m') := by omega
    have g2' : ¬ (281474976710656 < (i.bytes : Int) * m') := by omega
    have g4' : ¬ (m' < n') := by omega
    simp only [execOp, ho, hx', hy', Instr.makeSlice, asInt, asIntOf, Sem.run_bind, run_underlying ht, Result.andThen_ok, Sem.run_pure, run_typeInfo' hi, wl, wm, Int.toNat_natCast]
    simp only [g1, g2', g3, g4', decide_false, Bool.false_eq_true, if_false, Int.reducePow, Int.ofNat_lt, gt_iff_lt, Bool.or_self, Sem.run_pure, Result.andThen_ok, run_askRoom, Sem.run_bind, run_sizeOf' hi, Sem.run_ite]
    by_cases h0 : m' * i.size = 0
    · rw [if_pos h0] at hcells
      simp only [if_pos h0, Sem.run_pure, Result.andThen_ok, hcells, newRow, Sem.run_bind, run_newObj]
      rfl
    · rw [if_neg h0] at hcells
      simp only [if_neg h0, Sem.run_bind, run_zero' hi hz1, Sem.run_pure, Result.andThen_ok, hcells, newRow, run_newObj]
      rfl
  · generalize hyy : Value.pointer (some ⟨S.w.heap.size, 0, none⟩) = py at hr
    cases hr with
    | ptr hb =>
      cases hyy
      refine .hs hb (by omega) (by have e : maxLen = 9223372036854775807 := rfl; omega) (c := (List.flatten (List.replicate m' zv.cells.toList)).toArray) (ty := e) (by rw [hw]; exact heap_alloc_new S.w _) ?_
      rw [hzl, ← hzs]
      refine .inl ⟨rfl, ?_⟩
      simp [List.length_flatten, List.sum_replicate_nat]

end

end VS
end Go.Proofs.Ytbnhmahkgeaajaa
