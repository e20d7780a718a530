/- Operations that lay parts into a value, that read and that write variables. -/
import Derived.Test.YtbnhmahkgeaajaaVsOps
namespace Go.Proofs.Ytbnhmahkgeaajaa
namespace VS

theorem foldl_zip (off : Nat) : ∀ (xs : List Value) (k : Nat) (cells : Array Value), off + k + xs.length ≤ cells.size →
    (List.foldl (fun (cs : Array Value) (p : Value × Nat) => cs.setIfInBounds (off + p.2) p.1) cells (xs.zipIdx k)).toList = cells.toList.take (off + k) ++ xs ++ cells.toList.drop (off + k + xs.length)
  | [], k, cells, h => by simp
  | x :: r, k, cells, h => by
    have hlt : off + k < cells.size := by simp at h; omega
    rw [List.zipIdx_cons, List.foldl_cons, foldl_zip off r (k + 1) _ (by simp at h ⊢; omega)]
    simp only [Array.toList_setIfInBounds, List.length_cons]
    have e1 : (cells.toList.set (off + k) x).take (off + (k + 1)) = cells.toList.take (off + k) ++ [x] := by
      rw [← Nat.add_assoc, List.take_succ_eq_append_getElem (by simpa using hlt)]
      simp [List.take_set_of_le]
    have e2 : (cells.toList.set (off + k) x).drop (off + (k + 1) + r.length) = cells.toList.drop (off + k + (r.length + 1)) := by
      rw [List.drop_set_of_lt (by omega)]
      congr 1; omega
    rw [e1, e2]
    simp

theorem fill_step (off : Nat) (v : Value) (cells : Array Value) (h : off + v.cells.size ≤ cells.size) :
    (v.cells.zipIdx.foldl (fun (cs : Array Value) (p : Value × Nat) => cs.setIfInBounds (off + p.2) p.1) cells).toList = cells.toList.take off ++ v.cells.toList ++ cells.toList.drop (off + v.cells.size) := by
  have := foldl_zip off v.cells.toList 0 cells (by simpa using h)
  rw [← Array.foldl_toList]
  simpa using this

theorem RepL.putAt {S : Sim} {cs xs : List AV} {ys zs : List Value} (off : Nat) (h : RepL S cs ys) (k : RepL S xs zs) : RepL S (putAt cs off xs) (ys.take off ++ zs ++ ys.drop (off + zs.length)) := by
  unfold VS.putAt
  rw [k.length]
  exact (RepL.append (RepL.append (h.take off) k) (h.drop _))

theorem putAt_one {cs xs : List AV} (off : Nat) (h : ∀ c ∈ cs, c.one = true) (k : ∀ c ∈ xs, c.one = true) : ∀ c ∈ putAt cs off xs, c.one = true := by
  intro c hc
  simp only [putAt, List.mem_append] at hc
  rcases hc with (hc | hc) | hc
  · exact h c (List.mem_of_mem_take hc)
  · exact k c hc
  · exact h c (List.mem_of_mem_drop hc)

section
variable {P : Program} {S : Sim} {fr : Fr} {a : Act} {o : Oper}

theorem fillP_rep (hf : FrOk S fr a) {place : Nat → Option (Nat × Nat)} : ∀ {ps : List (Nat × Operand)} {sps : List (Nat × Nat × SX)} {cs cs' : List AV} {ys : Array Value},
    partsBy place ps = some sps → fillP fr cs sps = some cs' → RepL S cs ys.toList → (∀ c ∈ cs, c.one = true) →
    ∃ zs : Array Value, Instr.fill place ys (ps.map fun p => (p.1, a.eval p.2)) = some zs ∧ RepL S cs' zs.toList ∧ ∀ c ∈ cs', c.one = true
  | [], sps, cs, cs', ys, h1, h2, hl, ho => by
    simp only [partsBy, Option.some.injEq] at h1; subst h1
    simp only [fillP, Option.some.injEq] at h2; subst h2
    exact ⟨ys, rfl, hl, ho⟩
  | (i, x) :: r, sps, cs, cs', ys, h1, h2, hl, ho => by
    simp only [partsBy] at h1
    split at h1
    · rename_i off size sx l hp hx hr
      cases h1
      simp only [fillP] at h2
      split at h2
      · rename_i av he
        split at h2
        · rename_i hc
          obtain ⟨ht, hsz, hfit⟩ := hc
          obtain ⟨hcl, hco⟩ := (stripX_rep hf hx he).cells_rep ht
          have hlen := hcl.length
          have hys := hl.length
          have hs1 : (a.eval x).cells.size = size := by simpa [hsz] using hlen
          have hs2 : off + (a.eval x).cells.size ≤ ys.size := by simp at hys; omega
          have hstep := fill_step off (a.eval x) ys hs2
          have hl2 : RepL S (VS.putAt cs off av.cells) ((a.eval x).cells.zipIdx.foldl (fun (cs : Array Value) (p : Value × Nat) => cs.setIfInBounds (off + p.2) p.1) ys).toList := by
            rw [hstep]
            have := RepL.putAt off hl hcl
            simpa using this
          obtain ⟨zs, hz, hz2, hz3⟩ := fillP_rep hf hr h2 hl2 (putAt_one off ho hco)
          refine ⟨zs, ?_, hz2, hz3⟩
          simp only [List.map_cons, Instr.fill, hp]
          rw [if_neg (by simp [hs1]; omega)]
          exact hz
        · cases h2
      · cases h2
    · cases h1

theorem run_places {l : List Field} {pl : List (Nat × Nat)} (h : placesOf P l = some pl) (w : World) :
    (l.mapM fun f => (do pure (f.offset, ← sizeOf f.type) : Sem (Nat × Nat))).run P w = .ok pl w := by
  induction l generalizing pl with
  | nil => simp only [placesOf, Option.some.injEq] at h; subst h; simp
  | cons f r ih =>
    simp only [placesOf] at h
    split at h
    · rename_i i l hi hr
      cases h
      simp only [List.mapM_cons, Sem.run_bind, run_sizeOf' hi, Result.andThen_ok, Sem.run_pure, ih hr]
    · cases h

theorem op_build (I : Inv S) (hf : FrOk S fr a) {t : TypeId} {ps : Array (Nat × Operand)} {sop : SOp} (ho : o.op = .build t ps) (hs : stripOp P o = some sop) :
    ∃ z sps, sop = .build z sps ∧ ∀ cs, fillP fr z sps = some cs → OpRet P o a S (.agg cs) S.st := by
  unfold stripOp at hs
  rw [ho] at hs
  simp only at hs
  have hmap : ∀ ps : Array (Nat × Operand), (ps.map fun (x : Nat × Operand) => (x.1, a.eval x.2)).toList = ps.toList.map fun p => (p.1, a.eval p.2) := by intro ps; simp
  split at hs
  · rename_i z fs hz hu
    obtain ⟨i, zv, hi, hz1, hz2⟩ := zeroOf_inv hz
    obtain ⟨hl, h1⟩ := atomsOf_rep (S := S) hz2
    split at hs
    · rename_i pl hpl
      rw [Option.map_eq_some_iff] at hs
      obtain ⟨sps, hsp, rfl⟩ := hs
      refine ⟨z, sps, rfl, fun cs hcs => ?_⟩
      obtain ⟨zs, hfill, hzs, hone⟩ := fillP_rep hf hsp hcs hl h1
      refine OpRet.same I (y := .agg zs) ?_ (by simpa using Rep.agg hzs hone)
      have hrp := run_places hpl S.w
      have e : ∀ i : Nat, pl.toArray[i]? = pl[i]? := fun i => by simp
      simp only [execOp, ho, Instr.build, Sem.run_bind, run_zero' hi hz1, Result.andThen_ok, run_underlying hu, Array.mapM_eq_mapM_toList, Sem.run_map, hrp, e, hmap, hfill, Sem.run_pure]
    · cases hs
  · rename_i z n e hz hu
    obtain ⟨i, zv, hi, hz1, hz2⟩ := zeroOf_inv hz
    obtain ⟨hl, h1⟩ := atomsOf_rep (S := S) hz2
    split at hs
    · rename_i j hj
      rw [Option.map_eq_some_iff] at hs
      obtain ⟨sps, hsp, rfl⟩ := hs
      refine ⟨z, sps, rfl, fun cs hcs => ?_⟩
      obtain ⟨zs, hfill, hzs, hone⟩ := fillP_rep hf hsp hcs hl h1
      refine OpRet.same I (y := .agg zs) ?_ (by simpa using Rep.agg hzs hone)
      simp only [execOp, ho, Instr.build, Sem.run_bind, run_zero' hi hz1, Result.andThen_ok, run_underlying hu, run_sizeOf' hj, hmap, hfill, Sem.run_pure]
    · cases hs
  · cases hs

theorem clean1_rep {S : Sim} {x b : AV} {y : Value} (h : clean1 x = some b) (hr : Rep S x y) : Rep S b y ∧ clean1 b = some b := by
  cases hr with
  | v ha => simp only [clean1, Option.some.injEq] at h; subst h; exact ⟨.v ha, rfl⟩
  | sl h1 h2 h3 h4 h5 h6 h7 h8 =>
    simp only [clean1] at h
    split at h
    · cases h
    · rename_i hne
      cases h
      exact ⟨.sl h1 h2 h3 h4 h5 h6 (fun _ => h7 hne) trivial, rfl⟩
  | fn h1 =>
    rename_i f caps ys
    cases caps with
    | nil => simp only [clean1, Option.some.injEq] at h; subst h; exact ⟨.fn h1, rfl⟩
    | cons => simp [clean1] at h
  | _ => simp [clean1] at h

theorem cleanL_rep {S : Sim} : ∀ {l m : List AV} {ys : List Value}, cleanL l = some m → RepL S l ys → RepL S m ys ∧ (∀ c ∈ m, clean1 c = some c)
  | [], m, _, h, .nil => by simp only [cleanL, Option.some.injEq] at h; subst h; exact ⟨.nil, by simp⟩
  | x :: r, m, _, h, .cons h1 h2 => by
    simp only [cleanL] at h
    split at h
    · rename_i b l hb hl
      cases h
      obtain ⟨k1, k2⟩ := clean1_rep hb h1
      obtain ⟨k3, k4⟩ := cleanL_rep hl h2
      exact ⟨.cons k1 k3, by simpa using ⟨k2, k4⟩⟩
    · cases h

theorem clean_one {l : List AV} (h : ∀ c ∈ l, clean1 c = some c) : ∀ c ∈ l, c.one = true := fun c hc => (clean1_one (h c hc)).1

theorem repeatL_length (z : List AV) (n : Nat) : (repeatL z n).length = n * z.length := by
  induction n with
  | zero => simp [repeatL]
  | succ n ih => simp [repeatL, ih, Nat.succ_mul, Nat.add_comm]

theorem RepL.rep {S : Sim} {z : List AV} {ys : List Value} (h : RepL S z ys) : ∀ n, RepL S (repeatL z n) (List.flatten (List.replicate n ys))
  | 0 => .nil
  | n + 1 => by simp only [repeatL, List.replicate_succ, List.flatten_cons]; exact h.append (RepL.rep h n)

theorem repeatL_one {z : List AV} (h : ∀ c ∈ z, c.one = true) : ∀ n, ∀ c ∈ repeatL z n, c.one = true
  | 0, c, hc => by simp [repeatL] at hc
  | n + 1, c, hc => by
    simp only [repeatL, List.mem_append] at hc
    rcases hc with hc | hc
    · exact h c hc
    · exact repeatL_one h n c hc

theorem flat_get (ys : List Value) (hz : 0 < ys.length) : ∀ (n i : Nat), i < n * ys.length → (List.flatten (List.replicate n ys))[i]? = ys[i % ys.length]?
  | 0, i, h => by omega
  | n + 1, i, h => by
    rw [List.replicate_succ, List.flatten_cons]
    rcases Nat.lt_or_ge i ys.length with hi | hi
    · rw [List.getElem?_append_left hi, Nat.mod_eq_of_lt hi]
    · rw [List.getElem?_append_right hi, flat_get ys hz n (i - ys.length) (by rw [Nat.succ_mul] at h; omega), Nat.mod_eq_sub_mod hi]

theorem range_zero (z : Array Value) (hz : 0 < z.size) (n : Nat) : ((Array.range (n * z.size)).map fun i => z[i % z.size]!) = (List.flatten (List.replicate n z.toList)).toArray := by
  apply Array.ext'
  apply List.ext_getElem?
  intro i
  simp only [Array.toList_map, Array.toList_range, List.getElem?_map]
  rcases Nat.lt_or_ge i (n * z.size) with h | h
  · rw [List.getElem?_range h, flat_get z.toList (by simpa using hz) n i (by simpa using h)]
    have hm : i % z.size < z.size := Nat.mod_lt _ hz
    simp [hm]
  · rw [List.getElem?_eq_none (by simpa using h), List.getElem?_eq_none (by simp [List.length_flatten, List.sum_replicate_nat]; simpa using h)]
    rfl

end

end VS
end Go.Proofs.Ytbnhmahkgeaajaa
