/- Slice literals; what reads and writes variables; numbers; slices and indexes. -/
import Derived.Test.YtbnhmahkgeaajaaVsExp
namespace Go.Proofs.Ytbnhmahkgeaajaa
namespace VS

section
variable {P : Program} {S : Sim} {fr : Fr} {a : Act} {o : Oper}

/-- A new block of memory that is not taken up. -/
theorem Step.fresh {S : Sim} (I : Inv S) (ob : Obj) : Step S (S.at (S.w.alloc ob)) :=
  ⟨Ext.keeps (Keeps.alloc _ _), Inv.keeps I (Keeps.alloc _ _), (RowKit.Below.refl _ _).alloc I.hB _⟩

theorem safe_new {S : Sim} (I : Inv S) (ob : Obj) (lo k : Nat) : (S.at (S.w.alloc ob)).safe S.w.heap.size lo k := by
  refine ⟨fun h => ?_, by simp [Sim.at], fun b hb => ?_, fun r fl hr => ?_⟩
  · have := I.hB; change S.w.heap.size < S.B at h; omega
  · obtain ⟨_, _, c, ty, _, hc, _⟩ := I.blk b _ hb
    have := heap_lt hc; omega
  · obtain ⟨_, c, ty, hc, _⟩ := I.rowb r _ fl hr
    have := heap_lt hc; omega

theorem cell_new (w : World) (ys : List Value) (e : TypeId) (i : Nat) : (w.alloc (.cells ys.toArray e)).cell? ⟨w.heap.size, i, none⟩ = ys[i]? := by simp

theorem op_bslice (I : Inv S) (hf : FrOk S fr a) {t : TypeId} {n : Nat} {ps : Array (Nat × Operand)} {sop : SOp} (ho : o.op = .buildSlice t n ps) (hs : stripOp P o = some sop) :
    ∃ z sps, sop = .bslice z n sps ∧ ∀ cs, fillP fr (repeatL z n) sps = some cs →
      (∀ l st1, expL S.st cs = some (l, st1) → OpRet P o a S (.sl l n .full) st1) ∧ OpRet P o a S (.sl cs n .ptrs) S.st := by
  unfold stripOp at hs
  rw [ho] at hs
  simp only at hs
  split at hs
  · rename_i e hu
    split at hs
    · rename_i i z hi hz
      split at hs
      · rename_i hc
        obtain ⟨h24, hzl, hpos⟩ := hc
        rw [Option.map_eq_some_iff] at hs
        obtain ⟨sps, hsp, rfl⟩ := hs
        refine ⟨z, sps, rfl, fun cs hcs => ?_⟩
        obtain ⟨i', zv, hi', hz1, hz2⟩ := zeroOf_inv hz
        rw [hi] at hi'; cases hi'
        obtain ⟨hl, h1⟩ := atomsOf_rep (S := S) hz2
        have hzs : zv.cells.size = i.size := by have := hl.length; simp at this; omega
        have hcells : ((Array.range (n * i.size)).map fun j => (if n * i.size = 0 then #[] else zv.cells)[j % (if n * i.size = 0 then #[] else zv.cells).size]!) = (List.flatten (List.replicate n zv.cells.toList)).toArray := by
          by_cases h0 : n * i.size = 0
          · have hn : n = 0 := by rcases Nat.mul_eq_zero.1 h0 with h | h <;> omega
            subst hn
            simp
          · rw [if_neg h0, ← hzs, range_zero _ (by omega)]
        have hrep := hl.rep n
        obtain ⟨zs, hfill, hzs2, hone⟩ := fillP_rep (ys := (List.flatten (List.replicate n zv.cells.toList)).toArray) hf hsp hcs (by simpa using hrep) (repeatL_one h1 n)
        have hmap : ∀ ps : Array (Nat × Operand), (ps.map fun (x : Nat × Operand) => (x.1, a.eval x.2)).toList = ps.toList.map fun p => (p.1, a.eval p.2) := by intro ps; simp
        have hrun : (execOp a.eval o).run P S.w = .ok (.value (.slice (some ⟨S.w.heap.size, 0, none⟩) n n)) (S.w.alloc (.cells zs e)) := by
          have h24' : ¬ (n * i.size > 2 ^ 24) := by omega
          simp only [execOp, ho, Instr.buildSlice, Sem.run_bind, run_underlying hu, Result.andThen_ok, run_sizeOf' hi, if_neg h24']
          by_cases h0 : n * i.size = 0
          · rw [if_pos h0] at hcells
            simp only [if_pos h0, Sem.run_pure, Result.andThen_ok, hcells, hmap, hfill, newRow, Sem.run_bind, run_newObj]
            rfl
          · rw [if_neg h0] at hcells
            simp only [if_neg h0, Sem.run_pure, Sem.run_bind, run_zero' hi hz1, Result.andThen_ok, hcells, hmap, hfill, newRow, run_newObj]
            rfl
        have hlen : cs.length = n * i.size ∧ zs.size = cs.length := ⟨by
          have e1 : ∀ {place : Nat → Option (Nat × Nat)} {ps : List (Nat × Operand)} {sps : List (Nat × Nat × SX)} {c c' : List AV}, partsBy place ps = some sps → fillP fr c sps = some c' → c'.length = c.length := by
            intro place ps
            induction ps with
            | nil => intro sps c c' h1 h2; simp only [partsBy, Option.some.injEq] at h1; subst h1; simp only [fillP, Option.some.injEq] at h2; rw [h2]
            | cons p r ih =>
              obtain ⟨j, x⟩ := p
              intro sps c c' h1 h2
              simp only [partsBy] at h1
              split at h1
              · cases h1
                simp only [fillP] at h2
                split at h2
                · split at h2
                  · rename_i hc
                    rw [ih (by assumption) h2]
                    simp only [VS.putAt, List.length_append, List.length_take, List.length_drop]
                    omega
                  · cases h2
                · cases h2
              · cases h1
          rw [e1 hsp hcs, repeatL_length, hzl], by simpa using hzs2.length⟩
        have hmax : n ≤ maxLen := by
          have : n ≤ n * i.size := Nat.le_mul_of_pos_right n hpos
          simp only [maxLen]; omega
        have hst := Step.fresh I (.cells zs e)
        have hL := RepL.ext hst.ext hzs2
        have hcell : ∀ j y, zs.toList[j]? = some y → (S.at (S.w.alloc (.cells zs e))).w.cell? ⟨S.w.heap.size, 0 + j, none⟩ = some y := by
          intro j y hy
          have := cell_new S.w zs.toList e j
          simp only [Array.toArray_toList] at this
          show (S.w.alloc (.cells zs e)).cell? _ = _
          rw [Nat.zero_add, this]; exact hy
        refine ⟨fun l st1 hl' => ?_, ?_⟩
        · obtain ⟨S2, f, k1, k2⟩ := expL_rep (S := S.at (S.w.alloc (.cells zs e))) hst.inv hl' hL
          refine ⟨S2, f.st, f.B, f.A, hst.trans f.step, .inl ⟨.slice (some ⟨S.w.heap.size, 0, none⟩) n n, by rw [f.w]; exact hrun, .sl (Nat.le_refl _) hmax (f.ext.safe _ _ _ (safe_new I _ _ _)) k1 (fun j y hy => by rw [f.w]; exact hcell j y hy) (clean_one k2) (fun _ => k2) rfl⟩⟩
        · exact ⟨S.at (S.w.alloc (.cells zs e)), rfl, rfl, rfl, hst, .inl ⟨_, hrun, .sl (Nat.le_refl _) hmax (safe_new I _ _ _) hL hcell hone (fun h => absurd rfl h) trivial⟩⟩
      · cases hs
    · cases hs
  · cases hs

theorem aggK_inv {t : TypeId} {k : Option Nat} (h : aggK P t = some k) (w : World) :
    (k = none ∧ (isAgg t).run P w = .ok false w) ∨ (∃ i, k = some i.size ∧ P.info? t = some i ∧ (isAgg t).run P w = .ok true w) := by
  unfold aggK at h
  split at h
  · rename_i fs hu
    split at h
    · rename_i i hi
      cases h
      exact .inr ⟨i, rfl, hi, by simp [isAgg, run_underlying hu]⟩
    · cases h
  · rename_i n e hu
    split at h
    · rename_i i hi
      cases h
      exact .inr ⟨i, rfl, hi, by simp [isAgg, run_underlying hu]⟩
    · cases h
  · rename_i d h1 h2 hu
    cases h
    refine .inl ⟨rfl, ?_⟩
    simp only [isAgg, Sem.run_bind, run_underlying hu, Result.andThen_ok]
    cases d <;> first | rfl | (exact absurd hu (h1 _)) | (exact absurd hu (h2 _ _))
  · cases h

theorem Addr_add (g o n : Nat) : (⟨g, o, none⟩ : Addr).add n = ⟨g, o + n, none⟩ := by unfold Addr.add; split <;> simp_all

/-- Reading out of memory that reads as a list of abstract cells. -/
theorem load_part {t : TypeId} {k : Option Nat} (hk : aggK P t = some k) {cs : List AV} {ys : List Value} {w : World} {g o off : Nat} {x : AV} (hl : RepL S cs ys) (h1 : ∀ c ∈ cs, c.one = true)
    (hc : ∀ i y, ys[i]? = some y → w.cell? ⟨g, o + i, none⟩ = some y) (hp : partOf cs off k = some x) : ∃ y, (loadVar t ⟨g, o + off, none⟩).run P w = .ok y w ∧ Rep S x y := by
  rcases aggK_inv hk w with ⟨rfl, hA⟩ | ⟨i, rfl, hi, hA⟩
  · simp only [partOf] at hp
    obtain ⟨y, hy, hr⟩ := hl.get off x hp
    refine ⟨y, ?_, hr⟩
    simp [loadVar, hA, hc off y hy]
  · simp only [partOf] at hp
    split at hp
    · rename_i hle
      cases hp
      have hl2 : RepL S ((cs.drop off).take i.size) ((ys.drop off).take i.size) := (hl.drop off).take _
      have hlen : ((ys.drop off).take i.size).length = i.size := by rw [hl2.length]; simp; omega
      have hcells := run_loadCells_list (P := P) w ⟨g, o + off, none⟩ ((ys.drop off).take i.size) (by
        intro j v hv
        rw [Addr_add, Nat.add_assoc]
        refine hc _ _ ?_
        rw [List.getElem?_take] at hv
        split at hv
        · simpa using hv
        · cases hv)
      rw [hlen] at hcells
      refine ⟨.agg ((ys.drop off).take i.size).toArray, ?_, .agg hl2 (fun c hc' => h1 c (List.mem_of_mem_drop (List.mem_of_mem_take hc')))⟩
      simp [loadVar, hA, run_sizeOf' hi, hcells]
    · cases hp

theorem load_rep (I : Inv S) {t : TypeId} {k : Option Nat} (hk : aggK P t = some k) {p x : AV} {y : Value} (hp : Rep S p y) (he : opLoad S.st k p = some x) : ∃ z, (Instr.loadAt t y).run P S.w = .ok z S.w ∧ Rep S x z := by
  cases hp with
  | ptr hb =>
    rename_i b off g
    simp only [opLoad] at he
    split at he
    · rename_i hb' hH
      obtain ⟨g', ys, hg', hl, h1, hc⟩ := block_cells I hH
      rw [hb] at hg'; cases hg'
      obtain ⟨z, hz, hr⟩ := load_part hk hl h1 hc he
      rw [Nat.zero_add] at hz
      exact ⟨z, by simp [Instr.loadAt, Instr.sureAddr, hz], hr⟩
    · cases he
  | ep hs hl hc h1 =>
    simp only [opLoad] at he
    obtain ⟨z, hz, hr⟩ := load_part hk hl h1 hc he
    exact ⟨z, by simp [Instr.loadAt, Instr.sureAddr, hz], hr⟩
  | _ => simp [opLoad] at he

theorem op_load (I : Inv S) (hf : FrOk S fr a) {t : TypeId} {x : Operand} {sx : SX} {k : Option Nat} {p av : AV} (ho : o.op = .load t x) (hk : aggK P t = some k) (hx : stripX x = some sx) (he : evX fr sx = some p)
    (hl : opLoad S.st k p = some av) : OpRet P o a S av S.st := by
  obtain ⟨z, hz, hr⟩ := load_rep I hk (stripX_rep hf hx he) hl
  exact OpRet.same I (y := z) (by simp [execOp, ho, hz]) hr

theorem op_store (I : Inv S) (hf : FrOk S fr a) {t : TypeId} {x z : Operand} {s1 s2 : SX} {i : TypeInfo} {p av : AV} {st : St} (ho : o.op = .store t x z) (hi : P.info? t = some i) (hx : stripX x = some s1) (hz : stripX z = some s2)
    (e1 : evX fr s1 = some p) (e2 : evX fr s2 = some av) (hs : opStore S.st i.size p av = some st) : OpRet P o a S und st := by
  have hp := stripX_rep hf hx e1
  have hv := stripX_rep hf hz e2
  generalize hy : a.eval x = y at hp
  cases hp with
  | ptr hb =>
    rename_i b off g
    simp only [opStore] at hs
    split at hs
    · rename_i hb' hH
      split at hs
      · rename_i hcnd
        obtain ⟨hfz, htup, hlen, hfit⟩ := hcnd
        cases hs
        obtain ⟨hcl, hco⟩ := hv.cells_rep htup
        obtain ⟨g', c, ty, hg', hc, hle, hl, h1, hB⟩ := I.hm_of hH
        rw [hb] at hg'; cases hg'
        have hvl : (a.eval z).cells.toList.length = i.size := by rw [hcl.length, hlen]
        have hone : ∀ v ∈ (a.eval z).cells.toList, v.oneCell' = true := by
          intro v hv'
          obtain ⟨j, hj⟩ := List.mem_iff_getElem?.1 hv'
          obtain ⟨av', h2, h3⟩ := hcl.get' j v hj
          exact h3.oneCell (hco av' (List.mem_of_getElem? h2))
        have hst := run_storeCells_at P g off ty (a.eval z).cells.toList 0 c S.w hc (by omega) hone
        simp only [Nat.add_zero] at hst
        generalize hcdef : (c.toList.take off ++ (a.eval z).cells.toList ++ c.toList.drop (off + (a.eval z).cells.toList.length)).toArray = c' at hst
        have hsz : c'.size = c.size := by
          rw [← hcdef]
          simp only [List.size_toArray, List.length_append, List.length_take, List.length_drop, Array.length_toList]
          simp only [Array.length_toList] at hvl
          omega
        have hh := setRow_heap S.w g c c' ty (0, 0) hc
        have hoth : ∀ k, k ≠ g → (S.w.setRow g c').heap[k]? = S.w.heap[k]? := fun k hk => setRow_other S.w g k c' hk
        have hwsz : (S.w.setRow g c').heap.size = S.w.heap.size := by simp [World.setRow]
        have hplen : (VS.putAt hb'.cells off av.cells).length = hb'.cells.length := by
          simp only [VS.putAt, List.length_append, List.length_take, List.length_drop]; omega
        have hl' : RepL S (VS.putAt hb'.cells off av.cells) (c'.toList.take (VS.putAt hb'.cells off av.cells).length) := by
          have h3 := RepL.putAt off hl hcl
          rw [hplen, ← hcdef]
          have e3 : (c.toList.take hb'.cells.length).take off ++ (a.eval z).cells.toList ++ (c.toList.take hb'.cells.length).drop (off + (a.eval z).cells.toList.length) =
              (c.toList.take off ++ (a.eval z).cells.toList ++ c.toList.drop (off + (a.eval z).cells.toList.length)).take hb'.cells.length := by
            rw [List.take_take, Nat.min_eq_left (by omega), List.drop_take, List.take_append, List.take_of_length_le (l := _ ++ _) (by simp only [List.length_append, List.length_take, Array.length_toList] at *; omega)]
            congr 2
            simp only [List.length_append, List.length_take, Array.length_toList] at *
            omega
          rw [e3] at h3
          exact h3
        have E := Ext.block I (w' := S.w.setRow g c') (hb' := { hb' with cells := VS.putAt hb'.cells off av.cells }) hb hH hc hh hsz hwsz hoth (fun h => by rw [hfz] at h; cases h)
        have J := Inv.block I (w' := S.w.setRow g c') (hb' := { hb' with cells := VS.putAt hb'.cells off av.cells }) hb hH hc hh hsz hwsz hoth (fun h => by rw [hfz] at h; cases h)
          (by rw [hplen, hsz]; exact hle) hl' (putAt_one off h1 hco)
        refine ⟨{ S with w := S.w.setRow g c', st := { S.st with H := S.st.H.set b { hb' with cells := VS.putAt hb'.cells off av.cells } } }, rfl, rfl, rfl,
          ⟨E, J, ⟨rfl, rfl, rfl, Nat.le_of_eq hwsz.symm, fun k hk => hoth k (by omega)⟩⟩, .inr ⟨?_, rfl⟩⟩
        have hnot : ¬ ((a.eval z).cells.size ≠ i.size) := by simp only [Array.length_toList] at hvl; omega
        simp [execOp, ho, Instr.storeAt, Instr.sureAddr, hy, storeVar, run_sizeOf' hi, hst, hvl.symm]
      · cases hs
    · cases hs
  | _ => simp [opStore] at hs

end

end VS
end Go.Proofs.Ytbnhmahkgeaajaa
