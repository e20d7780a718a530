/- Slice expressions; addresses; parts of values. -/
import Derived.Test.YtbnhmahkgeaajaaVsOps5
namespace Go.Proofs.Ytbnhmahkgeaajaa
namespace VS

section
variable {P : Program} {S : Sim} {fr : Fr} {a : Act} {o : Oper}

theorem asNum_rep {av : AV} {k : Int} {w : Value} (h : asNum av = some k) (hr : Rep S av w) : ∃ q, w = .int q k := by
  unfold asNum at h
  split at h
  · cases h; exact ⟨_, hr.v_inv.1⟩
  · cases h

theorem bnd_run (hf : FrOk S fr a) {x : Operand} {so : Option SX} {d top l : Nat} (hx : stripO (some x) = some so) (h : bnd fr d so top = some l) (code : BoundsCode) (w : World) :
    (Instr.sliceBound (a.eval x) top code).run P w = .ok l w ∧ l ≤ top := by
  simp only [stripO, Option.map_eq_some_iff] at hx
  obtain ⟨sx, hsx, rfl⟩ := hx
  simp only [bnd] at h
  split at h
  · rename_i i hi
    split at h
    · rename_i hc
      cases h
      rw [Option.bind_eq_some_iff] at hi
      obtain ⟨av, h1, h2⟩ := hi
      obtain ⟨q, hq⟩ := asNum_rep h2 (stripX_rep hf hsx h1)
      refine ⟨?_, by omega⟩
      simp [Instr.sliceBound, hq, asIntOf, hc]
    · cases h
  · cases h

theorem bounds_run (hf : FrOk S fr a) {lo hi : Option Operand} {slo shi : Option SX} {n cap l h : Nat} (b : Bool) (hlo : stripO lo = some slo) (hhi : stripO hi = some shi) (h1 : bnd fr n shi n = some h) (h2 : bnd fr 0 slo h = some l) (hn : n ≤ cap) (w : World) :
    (Instr.sliceBounds b n cap (lo.map a.eval) (hi.map a.eval) none).run P w = .ok (l, h, cap) w ∧ l ≤ h ∧ h ≤ n := by
  have hh : h ≤ n ∧ ∀ code, (match hi.map a.eval with | some v => Instr.sliceBound v cap code | none => pure n).run P w = .ok h w := by
    cases hi with
    | none =>
      simp only [stripO, Option.some.injEq] at hhi; subst hhi
      simp only [bnd, Option.some.injEq] at h1; subst h1
      exact ⟨Nat.le_refl _, fun _ => rfl⟩
    | some x =>
      refine ⟨(bnd_run (P := P) hf hhi h1 .index w).2, fun code => ?_⟩
      simp only [stripO, Option.map_eq_some_iff] at hhi
      obtain ⟨sx, hsx, rfl⟩ := hhi
      simp only [bnd] at h1
      split at h1
      · rename_i i hi'
        split at h1
        · rename_i hc
          cases h1
          rw [Option.bind_eq_some_iff] at hi'
          obtain ⟨av, h3, h4⟩ := hi'
          obtain ⟨q, hq⟩ := asNum_rep h4 (stripX_rep hf hsx h3)
          have : 0 ≤ i ∧ i ≤ (cap : Int) := by omega
          simp [Instr.sliceBound, hq, asIntOf, this]
        · cases h1
      · cases h1
  have hl : l ≤ h ∧ ∀ code, (match lo.map a.eval with | some v => Instr.sliceBound v h code | none => pure 0).run P w = .ok l w := by
    cases lo with
    | none =>
      simp only [stripO, Option.some.injEq] at hlo; subst hlo
      simp only [bnd, Option.some.injEq] at h2; subst h2
      exact ⟨Nat.zero_le _, fun _ => rfl⟩
    | some x => exact ⟨(bnd_run (P := P) hf hlo h2 .index w).2, fun code => (bnd_run hf hlo h2 code w).1⟩
  refine ⟨?_, hl.1, hh.1⟩
  unfold Instr.sliceBounds
  simp only [Sem.run_bind, Sem.run_pure, Result.andThen_ok]
  have e1 := hh.2 (if b then .sliceAcap else .sliceAlen)
  have e2 := hl.2 .sliceB
  have fin : ∀ h', h' = h → ((match lo.map a.eval with
          | some v => do
            let l ← Instr.sliceBound v h' (if (none : Option Value).isSome = true then BoundsCode.slice3C else BoundsCode.sliceB)
            pure (l, h', cap)
          | none => do
            let l ← pure 0
            pure (l, h', cap)) : Sem (Nat × Nat × Nat)).run P w = .ok (l, h, cap) w := by
    intro h' hh'
    subst hh'
    cases lo with
    | none =>
      simp only [stripO, Option.some.injEq] at hlo; subst hlo
      simp only [bnd, Option.some.injEq] at h2; subst h2
      rfl
    | some x =>
      simp only [Option.map_some] at e2 ⊢
      rw [show (none : Option Value).isSome = false from rfl]
      simp only [Bool.false_eq_true, if_false, Sem.run_bind, e2, Result.andThen_ok, Sem.run_pure]
  cases hi with
  | none =>
    simp only [stripO, Option.some.injEq] at hhi; subst hhi
    simp only [bnd, Option.some.injEq] at h1; subst h1
    simp only [Option.map_none, Sem.run_bind, Sem.run_pure, Result.andThen_ok]
    exact fin _ rfl
  | some z =>
    simp only [Option.map_some] at e1 ⊢
    simp only [Sem.run_bind, e1, Result.andThen_ok]
    exact fin _ rfl

theorem Rep.cut (I : Inv S) {cs : List AV} {n l h sz : Nat} {t : Tag} {g off cap : Nat} (hr : Rep S (.sl cs n t) (.slice (some ⟨g, off, none⟩) n cap)) (hl : l ≤ h) (hh : h ≤ n) (hlen : cs.length = n * sz) :
    Rep S (.sl ((cs.drop (l * sz)).take ((h - l) * sz)) (h - l) (tagCut t (h == n))) (.slice (if cap = l then some ⟨g, off, none⟩ else some ⟨g, off + l * sz, none⟩) (h - l) (cap - l)) := by
  cases hr with
  | sl h1 h2 h3 h4 h5 h6 h7 h8 =>
    rename_i ys
    have hm : l * sz + (h - l) * sz ≤ n * sz := by rw [← Nat.add_mul]; exact Nat.mul_le_mul_right _ (by omega)
    have hk : ((cs.drop (l * sz)).take ((h - l) * sz)).length = (h - l) * sz := by simp; omega
    have hL := (h4.drop (l * sz)).take ((h - l) * sz)
    have hone : ∀ c ∈ (cs.drop (l * sz)).take ((h - l) * sz), c.one = true := fun c hc => h6 c (List.mem_of_mem_drop (List.mem_of_mem_take hc))
    have hcl : tagCut t (h == n) ≠ .ptrs → ∀ c ∈ (cs.drop (l * sz)).take ((h - l) * sz), clean1 c = some c := fun hne c hc =>
      h7 (fun he => hne (by subst he; rfl)) c (List.mem_of_mem_drop (List.mem_of_mem_take hc))
    by_cases hc : cap = l
    · have : n = l := by omega
      have : h = l := by omega
      subst hc
      have h0 : h - cap = 0 := by omega
      simp only [if_true]
      have hkk : ((cs.drop (cap * sz)).take ((h - cap) * sz)).length = 0 := by rw [hk, h0]; simp
      refine .sl (by omega) (by omega) (h3.sub I (Nat.le_refl _) (by rw [hkk]; omega)) hL (fun i y hy => ?_) hone hcl ?_
      · have : ((ys.drop (cap * sz)).take ((h - cap) * sz)).length = 0 := by rw [hL.length, hkk]
        have := (List.getElem?_eq_some_iff.1 hy).1
        omega
      · cases t with
        | ro => trivial
        | ptrs => trivial
        | full => simp only [tagCut]; split <;> simp [tagOk]; omega
        | own r e =>
          simp only [tagCut]
          split
          · obtain ⟨e1, z, k1, k2, k3⟩ := h8
            refine ⟨e1, z, k1, k2, fun hee => ?_⟩
            obtain ⟨⟨_, k4, k5⟩, _⟩ := k3 hee
            exact ⟨⟨by rw [hkk, h0]; simp, by rw [hkk]; omega, fun he => k5 (by rw [hkk] at he; omega)⟩, .inl (by omega)⟩
          · trivial
    · simp only [if_neg hc]
      refine .sl (by omega) (by omega) (h3.sub I (by omega) (by rw [hk]; omega)) hL (fun i y hy => ?_) hone hcl ?_
      · rw [Nat.add_assoc]
        refine h5 _ _ ?_
        rw [List.getElem?_take] at hy
        split at hy
        · simpa using hy
        · cases hy
      · cases t with
        | ro => trivial
        | ptrs => trivial
        | full =>
          simp only [tagCut]
          split
          · rename_i he
            have : h = n := by simpa using he
            simp only [tagOk] at h8 ⊢
            omega
          · trivial
        | own r e =>
          simp only [tagCut]
          split
          · rename_i he
            have hhn : h = n := by simpa using he
            subst hhn
            obtain ⟨e1, z, k1, k2, k3⟩ := h8
            refine ⟨e1, z, k1, k2, fun hee => ?_⟩
            obtain ⟨⟨k4, k4a, k4b⟩, k5⟩ := k3 hee
            have hzz : l * z = l * sz ∧ (h - l) * z = (h - l) * sz := by
              rcases Nat.eq_zero_or_pos h with h0 | h0
              · have : l = 0 := by omega
                subst this; subst h0; simp
              · have : h * sz = h * z := by rw [← hlen, k4]
                have := Nat.eq_of_mul_eq_mul_left h0 this
                subst this; exact ⟨rfl, rfl⟩
            have hsum : l * sz + (h - l) * sz = h * sz := by rw [← Nat.add_mul]; congr 1; omega
            refine ⟨⟨by rw [hk]; exact hzz.2.symm, by rw [hk]; omega, fun he => ?_⟩, k5.imp (fun h => by omega) ?_⟩
            · rw [hk] at he
              have := k4b (by omega)
              omega
            rintro ⟨k6, c, ty, k7, k8⟩
            refine ⟨?_, c, ty, k7, ?_⟩
            · rw [k6, hk, hlen]
              have : l * sz + (h - l) * sz = h * sz := by rw [← Nat.add_mul]; congr 1; omega
              congr 2; omega
            · have : l * z + (cap - l) * z = cap * z := by rw [← Nat.add_mul]; congr 1; omega
              rw [hzz.1] at this
              omega
          · trivial

theorem op_slice (I : Inv S) (hf : FrOk S fr a) {t e : TypeId} {i : TypeInfo} {x : Operand} {lo hi : Option Operand} {sx : SX} {slo shi : Option SX} {u y : AV} (ho : o.op = .slice t x lo hi none) (ht : P.underlying t = some (.slice e)) (hi' : P.info? e = some i)
    (hx : stripX x = some sx) (hlo : stripO lo = some slo) (hhi : stripO hi = some shi) (he : evX fr sx = some u) (hs : opSlice fr i.size slo shi u = some y) : OpRet P o a S y S.st := by
  have hu := stripX_rep hf hx he
  generalize hxv : a.eval x = xv at hu
  unfold opSlice at hs
  split at hs
  · rename_i q
    obtain ⟨rfl, _⟩ := hu.v_inv
    split at hs
    · rename_i h hh
      split at hs
      · rename_i l hl
        cases hs
        obtain ⟨hb, h1, h2⟩ := bounds_run (P := P) hf true hlo hhi hh hl (Nat.le_refl 0) S.w
        have : l = 0 := by omega
        have : h = 0 := by omega
        subst_vars
        refine OpRet.same I (y := .slice q 0 0) ?_ (.v rfl)
        cases q <;> simp [execOp, ho, hxv, Instr.sliceAt, Instr.slice, run_underlying ht, hb, run_sizeOf' hi']
      · cases hs
    · cases hs
  · split at hs
    · rename_i h hh
      split at hs
      · rename_i l hl
        split at hs
        · rename_i hlen
          cases hs
          cases hu with
          | sl k1 k2 k3 k4 k5 k6 k7 k8 =>
            rename_i cs n tg g off cap ys
            obtain ⟨hb, h1, h2⟩ := bounds_run (P := P) hf true hlo hhi hh hl k1 S.w
            have hr := Rep.cut I (.sl k1 k2 k3 k4 k5 k6 k7 k8) h1 h2 hlen
            refine OpRet.same I ?_ hr
            simp only [execOp, ho, hxv, Instr.sliceAt, Instr.slice, Sem.run_bind, run_underlying ht, Result.andThen_ok, Option.map_none, hb, run_sizeOf' hi', Sem.run_pure, Option.map_some, Addr_add]
        · cases hs
      · cases hs
    · cases hs
  · rename_i b q n z
    split at hs
    · rename_i h hh
      split at hs
      · rename_i l hl
        split at hs
        · rename_i hz
          cases hs
          subst hz
          cases hu with
          | hs k1 k2 k3 k4 k5 =>
            rename_i g p cap c ty
            obtain ⟨hb, h1, h2⟩ := bounds_run (P := P) hf true hlo hhi hh hl k2 S.w
            have hsum : l * i.size + (cap - l) * i.size = cap * i.size := by rw [← Nat.add_mul]; congr 1; omega
            have hr : Rep S (.hs b (q + l * i.size) (h - l) i.size) (.slice (if cap = l then some ⟨g, p, none⟩ else some ⟨g, p + l * i.size, none⟩) (h - l) (cap - l)) := by
              by_cases hc : cap = l
              · rw [if_pos hc]
                exact .hs k1 (by omega) (by omega) k4 (.inr ⟨by omega, by rcases k5 with ⟨h, _⟩ | ⟨_, h⟩ <;> omega⟩)
              · rw [if_neg hc]
                refine .hs k1 (by omega) (by omega) k4 (.inl ?_)
                rcases k5 with ⟨h3, h4⟩ | ⟨h3, _⟩ <;> omega
            refine OpRet.same I ?_ hr
            simp only [execOp, ho, hxv, Instr.sliceAt, Instr.slice, Sem.run_bind, run_underlying ht, Result.andThen_ok, Option.map_none, hb, run_sizeOf' hi', Sem.run_pure, Option.map_some, Addr_add]
        · cases hs
      · cases hs
    · cases hs
  · cases hs

theorem op_arrslice (I : Inv S) (hf : FrOk S fr a) {t e : TypeId} {i : TypeInfo} {x : Operand} {lo hi : Option Operand} {sx : SX} {slo shi : Option SX} {n b off l h : Nat} {hb : HB} {cs : List AV} (ho : o.op = .slice t x lo hi none) (ht : P.underlying t = some (.array n e)) (hi' : P.info? e = some i)
    (hx : stripX x = some sx) (hlo : stripO lo = some slo) (hhi : stripO hi = some shi) (he : evX fr sx = some (.ptr b off)) (hH : S.st.H[b]? = some hb) (h1 : bnd fr n shi n = some h) (h2 : bnd fr 0 slo h = some l)
    (hmax : n ≤ maxLen) (hfit : off + n * i.size ≤ hb.cells.length) (hcl : cleanL ((hb.cells.drop (off + l * i.size)).take ((h - l) * i.size)) = some cs) : OpRet P o a S (.sl cs (h - l) .ro) (S.st.freeze b hb) := by
  have hu := stripX_rep hf hx he
  generalize hxv : a.eval x = xv at hu
  cases hu with
  | ptr hg =>
    rename_i g
    obtain ⟨hb', k1, k2⟩ := bounds_run (P := P) hf false hlo hhi h1 h2 (Nat.le_refl n) S.w
    obtain ⟨g', ys, hg', hl, hone, hc⟩ := block_cells I hH
    rw [hg] at hg'; cases hg'
    obtain ⟨E, J⟩ := freeze_ok I hH
    have hle : l * i.size + (h - l) * i.size ≤ n * i.size := by rw [← Nat.add_mul]; exact Nat.mul_le_mul_right _ (by omega)
    have hL := (hl.drop (off + l * i.size)).take ((h - l) * i.size)
    obtain ⟨k3, k4⟩ := cleanL_rep hcl hL
    have hcell : ∀ j y, ((ys.drop (off + l * i.size)).take ((h - l) * i.size))[j]? = some y → (S.frz b hb).w.cell? ⟨g, off + l * i.size + j, none⟩ = some y := by
      intro j y hy
      rw [List.getElem?_take] at hy
      split at hy
      · rw [List.getElem?_drop] at hy
        have := hc _ _ hy
        rw [Nat.zero_add] at this
        exact this
      · cases hy
    have hrun : ∀ q : Nat, (execOp a.eval o).run P S.w = .ok (.value (.slice (if n = l then some ⟨g, off, none⟩ else some ⟨g, off + l * i.size, none⟩) (h - l) (n - l))) S.w := by
      intro _
      simp only [execOp, ho, hxv, Instr.sliceAt, Instr.sureAddr, Sem.run_bind, run_underlying ht, Result.andThen_ok, Sem.run_pure, Option.map_none, hb', run_sizeOf' hi', Addr_add]
      split <;> rfl
    refine ⟨S.frz b hb, rfl, rfl, rfl, ⟨E, J, RowKit.Below.refl _ _⟩, .inl ⟨_, hrun 0, ?_⟩⟩
    by_cases hnl : n = l
    · have hz : h - l = 0 := by omega
      rw [if_pos hnl]
      have hcs : cs = [] := List.eq_nil_of_length_eq_zero (by rw [← k3.length, hL.length, hz]; simp)
      subst hcs
      rw [hz]
      exact .sl (by omega) (by omega) (safe_frz I hH hg _ _ (by simp; omega)) .nil (by simp) (by simp) (by simp) trivial
    · rw [if_neg hnl]
      exact .sl (by omega) (by omega) (safe_frz I hH hg _ _ (by rw [← k3.length, List.length_take, List.length_drop, hl.length]; omega)) (RepL.ext E k3) hcell (clean_one k4) (fun _ => k4) trivial

theorem op_faddr (I : Inv S) (hf : FrOk S fr a) {s : TypeId} {fs : Array Field} {f : Nat} {fd : Field} {i : TypeInfo} {x : Operand} {sx : SX} {u v : AV} (ho : o.op = .fieldAddr s x f) (hs : P.underlying s = some (.struct fs)) (hfd : fs[f]? = some fd) (hi : P.info? fd.type = some i) (hz : i.size ≠ 0)
    (hx : stripX x = some sx) (he : evX fr sx = some u) (hv : (∃ b q, u = .ptr b q ∧ v = .ptr b (q + fd.offset)) ∨ (∃ cs q, u = .ep cs q ∧ v = .ep cs (q + fd.offset))) : OpRet P o a S v S.st := by
  have hu := stripX_rep hf hx he
  generalize hxv : a.eval x = xv at hu
  rcases hv with ⟨b, q, rfl, rfl⟩ | ⟨cs, q, rfl, rfl⟩
  · cases hu with
    | ptr hg =>
      refine OpRet.same I ?_ (.ptr hg (off := q + fd.offset))
      simp [execOp, ho, hxv, Instr.fieldAt, run_underlying hs, hfd, Instr.sureAddr, fieldPlace, run_sizeOf' hi, hz, Addr_add]
  · cases hu with
    | ep h1 h2 h3 h4 =>
      refine OpRet.same I ?_ (.ep h1 h2 h3 h4 (off := q + fd.offset))
      simp [execOp, ho, hxv, Instr.fieldAt, run_underlying hs, hfd, Instr.sureAddr, fieldPlace, run_sizeOf' hi, hz, Addr_add, Nat.add_assoc]

theorem part_rep {t : TypeId} {k : Option Nat} (hk : aggK P t = some k) {cs : List AV} {ys : List Value} {w : World} {off : Nat} {x : AV} (hl : RepL S cs ys) (h1 : ∀ c ∈ cs, c.one = true) (hp : partOf cs off k = some x) :
    ∃ y, (part t ys.toArray off).run P w = .ok y w ∧ Rep S x y := by
  rcases aggK_inv hk w with ⟨rfl, hA⟩ | ⟨i, rfl, hi, hA⟩
  · simp only [partOf] at hp
    obtain ⟨y, hy, hr⟩ := hl.get off x hp
    exact ⟨y, by simp [part, hA, hy], hr⟩
  · simp only [partOf] at hp
    split at hp
    · cases hp
      have hl2 : RepL S ((cs.drop off).take i.size) ((ys.drop off).take i.size) := (hl.drop off).take _
      refine ⟨.agg ((ys.drop off).take i.size).toArray, ?_, .agg hl2 (fun c hc' => h1 c (List.mem_of_mem_drop (List.mem_of_mem_take hc')))⟩
      have e : ys.toArray.extract off (off + i.size) = ((ys.drop off).take i.size).toArray := by apply Array.ext'; simp [List.take_drop]
      simp only [part, Sem.run_bind, hA, Result.andThen_ok, if_true, run_sizeOf' hi, Sem.run_pure, e]
    · cases hp

theorem op_field (I : Inv S) (hf : FrOk S fr a) {t : TypeId} {fs : Array Field} {f : Nat} {fd : Field} {k : Option Nat} {x : Operand} {sx : SX} {cs : List AV} {y : AV} (ho : o.op = .field t x f) (hs : P.underlying t = some (.struct fs)) (hfd : fs[f]? = some fd) (hk : aggK P fd.type = some k)
    (hx : stripX x = some sx) (he : evX fr sx = some (.agg cs)) (hp : partOf cs fd.offset k = some y) : OpRet P o a S y S.st := by
  have hu := stripX_rep hf hx he
  generalize hxv : a.eval x = xv at hu
  cases hu with
  | agg hl h1 =>
    obtain ⟨z, hz, hr⟩ := part_rep (w := S.w) hk hl h1 hp
    exact OpRet.same I (y := z) (by simp [execOp, ho, hxv, Instr.field, run_underlying hs, hfd, asAgg, hz]) hr

theorem op_iaddr_sl (I : Inv S) (hf : FrOk S fr a) {t e : TypeId} {i : TypeInfo} {x z : Operand} {s1 s2 : SX} {u v w : AV} {j : Int} (ho : o.op = .indexAddr t x z) (ht : P.underlying t = some (.slice e)) (hi : P.info? e = some i) (hx : stripX x = some s1) (hz : stripX z = some s2)
    (e1 : evX fr s1 = some u) (e2 : evX fr s2 = some v) (hj : asNum v = some j)
    (hv : (∃ cs n tg, u = .sl cs n tg ∧ 0 ≤ j ∧ j < n ∧ w = .ep cs (j.toNat * i.size)) ∨ (∃ b q n sz, u = .hs b q n sz ∧ 0 ≤ j ∧ j < n ∧ w = .ptr b (q + j.toNat * i.size))) : OpRet P o a S w S.st := by
  have hu := stripX_rep hf hx e1
  obtain ⟨q, hq⟩ := asNum_rep hj (stripX_rep hf hz e2)
  generalize hxv : a.eval x = xv at hu
  rcases hv with ⟨cs, n, tg, rfl, h0, hn, rfl⟩ | ⟨b, p, n, sz, rfl, h0, hn, rfl⟩
  · cases hu with
    | sl h1 h2 h3 h4 h5 h6 h7 h8 =>
      refine OpRet.same I ?_ (.ep h3 h4 h5 h6 (off := j.toNat * i.size))
      simp [execOp, ho, hxv, hq, Instr.indexAt, asIntOf, run_underlying ht, h0, hn, run_sizeOf' hi, Addr_add]
  · cases hu with
    | hs h1 h2 h3 h4 h5 =>
      rcases h5 with ⟨rfl, _⟩ | ⟨h5, _⟩
      rotate_left
      · omega
      refine OpRet.same I ?_ (.ptr h1 (off := _))
      simp [execOp, ho, hxv, hq, Instr.indexAt, asIntOf, run_underlying ht, h0, hn, run_sizeOf' hi, Addr_add]

theorem op_iaddr_arr (I : Inv S) (hf : FrOk S fr a) {t e : TypeId} {i : TypeInfo} {n : Nat} {x z : Operand} {s1 s2 : SX} {u v w : AV} {j : Int} (ho : o.op = .indexAddr t x z) (ht : P.underlying t = some (.array n e)) (hi : P.info? e = some i) (hx : stripX x = some s1) (hz : stripX z = some s2)
    (e1 : evX fr s1 = some u) (e2 : evX fr s2 = some v) (hj : asNum v = some j) (h0 : 0 ≤ j) (hn : j < n)
    (hv : (∃ cs q, u = .ep cs q ∧ w = .ep cs (q + j.toNat * i.size)) ∨ (∃ b q, u = .ptr b q ∧ w = .ptr b (q + j.toNat * i.size))) : OpRet P o a S w S.st := by
  have hu := stripX_rep hf hx e1
  obtain ⟨q, hq⟩ := asNum_rep hj (stripX_rep hf hz e2)
  generalize hxv : a.eval x = xv at hu
  rcases hv with ⟨cs, p, rfl, rfl⟩ | ⟨b, p, rfl, rfl⟩
  · cases hu with
    | ep h3 h4 h5 h6 =>
      refine OpRet.same I ?_ (.ep h3 h4 h5 h6 (off := p + j.toNat * i.size))
      simp [execOp, ho, hxv, hq, Instr.indexAt, asIntOf, run_underlying ht, h0, hn, run_sizeOf' hi, Addr_add, Instr.sureAddr, Nat.add_assoc]
  · cases hu with
    | ptr h1 =>
      refine OpRet.same I ?_ (.ptr h1 (off := p + j.toNat * i.size))
      simp [execOp, ho, hxv, hq, Instr.indexAt, asIntOf, run_underlying ht, h0, hn, run_sizeOf' hi, Addr_add, Instr.sureAddr]

theorem op_index (I : Inv S) (hf : FrOk S fr a) {t e : TypeId} {i : TypeInfo} {n : Nat} {k : Option Nat} {x z : Operand} {s1 s2 : SX} {cs : List AV} {v y : AV} {j : Int} (ho : o.op = .index t x z) (ht : P.underlying t = some (.array n e)) (hi : P.info? e = some i) (hk : aggK P e = some k) (hx : stripX x = some s1) (hz : stripX z = some s2)
    (e1 : evX fr s1 = some (.agg cs)) (e2 : evX fr s2 = some v) (hj : asNum v = some j) (h0 : 0 ≤ j) (hn : j < n) (hp : partOf cs (j.toNat * i.size) k = some y) : OpRet P o a S y S.st := by
  have hu := stripX_rep hf hx e1
  obtain ⟨q, hq⟩ := asNum_rep hj (stripX_rep hf hz e2)
  generalize hxv : a.eval x = xv at hu
  cases hu with
  | agg hl h1 =>
    obtain ⟨z', hz', hr⟩ := part_rep (w := S.w) hk hl h1 hp
    exact OpRet.same I (y := z') (by simp [execOp, ho, hxv, hq, Instr.index, asIntOf, run_underlying ht, h0, hn, run_sizeOf' hi, hz']) hr

theorem op_extract (I : Inv S) (hf : FrOk S fr a) {x : Operand} {sx : SX} {i : Nat} {vs : List AV} {y : AV} (ho : o.op = .extract x i) (hx : stripX x = some sx) (he : evX fr sx = some (.tup vs)) (hy : vs[i]? = some y) : OpRet P o a S y S.st := by
  have hu := stripX_rep hf hx he
  generalize hxv : a.eval x = xv at hu
  cases hu with
  | tup hl =>
    obtain ⟨z, hz, hr⟩ := hl.get i y hy
    exact OpRet.same I (y := z) (by simp [execOp, ho, hxv, Instr.extract, hz]) hr

theorem op_len (I : Inv S) (hf : FrOk S fr a) {t e ty : TypeId} {x : Operand} {sx : SX} {u : AV} {n : Nat} (ho : o.op = .call { callee := .builtin .len, args := #[x], argTypes := #[t] }) (ht : P.underlying t = some (.slice e)) (hx : stripX x = some sx) (he : evX fr sx = some u)
    (hu' : (∃ cs tg, u = .sl cs n tg) ∨ (∃ b p sz, u = .hs b p n sz) ∨ ((∃ q, u = .v (.slice q 0 0)) ∧ n = 0)) (_h : ty = o.type) : OpRet P o a S (.v (.int .i64 n)) S.st := by
  have hu := stripX_rep hf hx he
  generalize hxv : a.eval x = xv at hu
  have key : ∀ b n c, xv = .slice b n c → (execOp a.eval o).run P S.w = .ok (.value (.int .i64 n)) S.w := by
    intro b n c h
    subst h
    simp [execOp, ho, resolve, invoke, builtin, hxv, Builtin.len_, run_underlying ht, goInt]
  rcases hu' with ⟨cs, tg, rfl⟩ | ⟨b, p, sz, rfl⟩ | ⟨⟨q, rfl⟩, rfl⟩
  · cases hu; exact OpRet.same I (key _ _ _ rfl) (.v rfl)
  · cases hu; exact OpRet.same I (key _ _ _ rfl) (.v rfl)
  · obtain ⟨rfl, _⟩ := hu.v_inv; exact OpRet.same I (key _ _ _ rfl) (.v rfl)

theorem op_minmax (I : Inv S) (hf : FrOk S fr a) {mx : Bool} {ts : Array TypeId} {x y : Operand} {s1 s2 : SX} {k : IntKind} {m n : Int} (ho : o.op = .call { callee := .builtin (if mx then .max else .min), args := #[x, y], argTypes := ts }) (hx : stripX x = some s1) (hy : stripX y = some s2)
    (e1 : evX fr s1 = some (.v (.int k m))) (e2 : evX fr s2 = some (.v (.int k n))) : OpRet P o a S (.v (.int k (if mx then (if n > m then n else m) else (if n < m then n else m)))) S.st := by
  obtain ⟨h1, _⟩ := (stripX_rep hf hx e1).v_inv
  obtain ⟨h2, _⟩ := (stripX_rep hf hy e2).v_inv
  refine OpRet.same I ?_ (.v rfl)
  cases mx
  · simp [execOp, ho, resolve, invoke, builtin, h1, h2, Builtin.min_, Builtin.min2]
  · simp [execOp, ho, resolve, invoke, builtin, h1, h2, Builtin.max_, Builtin.max2]

theorem op_tassert (I : Inv S) (hf : FrOk S fr a) {xt t : TypeId} {d : TypeDesc} {ok : Bool} {x : Operand} {sx : SX} {u : TypeId} {y z r : AV} (ho : o.op = .typeAssert x xt t ok) (ht : P.underlying t = some d) (hd : ∀ ms, d ≠ .interface ms) (hz : zeroV P t = some z)
    (hx : stripX x = some sx) (he : evX fr sx = some (.ifc u y)) (hr : (u = t ∧ r = (if ok then .tup [y, .v (.bool true)] else y)) ∨ (u ≠ t ∧ ok = true ∧ r = .tup [z, .v (.bool false)])) : OpRet P o a S r S.st := by
  have hu := stripX_rep hf hx he
  generalize hxv : a.eval x = xv at hu
  cases hu with
  | ifc hy =>
    rename_i yv
    rcases hr with ⟨rfl, rfl⟩ | ⟨hne, rfl, rfl⟩
    · cases ok
      · refine OpRet.same I (y := yv) ?_ hy
        simp only [execOp, ho, hxv, Instr.typeAssert, Sem.run_bind, run_underlying ht, Result.andThen_ok]
        cases d <;> first | (exact absurd rfl (hd _)) | simp
      · refine OpRet.same I (y := .tuple #[yv, .bool true]) ?_ (by simpa using Rep.tup (.cons hy (.cons (.v (x := .bool true) rfl) .nil)))
        simp only [execOp, ho, hxv, Instr.typeAssert, Sem.run_bind, run_underlying ht, Result.andThen_ok]
        cases d <;> first | (exact absurd rfl (hd _)) | simp
    · unfold zeroV at hz
      split at hz
      · rename_i i hi
        split at hz
        · rename_i zv hzv
          have hrz := ofVal_rep (S := S) hz
          refine OpRet.same I (y := .tuple #[zv, .bool false]) ?_ (by simpa using Rep.tup (.cons hrz (.cons (.v (x := .bool false) rfl) .nil)))
          simp only [execOp, ho, hxv, Instr.typeAssert, Sem.run_bind, run_underlying ht, Result.andThen_ok]
          cases d <;> first | (exact absurd rfl (hd _)) | simp [hne, run_zero' hi hzv]
        · cases hz
      · cases hz

end

end VS
end Go.Proofs.Ytbnhmahkgeaajaa
