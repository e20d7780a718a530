/- The built-in append, on a slice that may be appended to. -/
import Derived.Test.YtohfbjgcfbkgnaaVsOps6
namespace Go.Proofs.Ytohfbjgcfbkgnaa
namespace VS

section
variable {P : Program} {S : Sim} {fr : Fr} {a : Act} {o : Oper}

theorem src_rep (I : Inv S) {x : AV} {xv : Value} {size m : Nat} {news : List AV} (hr : Rep S x xv) (h : srcOf S.st x size = some (news, m)) :
    ∃ ys, RepL S news ys ∧ (∀ c ∈ news, clean1 c = some c) ∧ (((∃ q, xv = .slice q 0 0) ∧ m = 0) ∨ ∃ g off c, xv = .slice (some ⟨g, off, none⟩) m c ∧ ∀ i y, ys[i]? = some y → S.w.cell? ⟨g, off + i, none⟩ = some y) := by
  unfold srcOf at h
  split at h
  · cases h
    exact ⟨[], .nil, by simp, .inl ⟨⟨_, hr.v_inv.1⟩, rfl⟩⟩
  · split at h
    · cases h
    · rename_i hne
      cases h
      cases hr with
      | sl h1 h2 h3 h4 h5 h6 h7 h8 => exact ⟨_, h4, h7 hne, .inr ⟨_, _, _, rfl, h5⟩⟩
  · split at h
    · rename_i b n sz hb hH
      split at h
      · rename_i hc
        rw [Option.map_eq_some_iff] at h
        obtain ⟨cs, hcl, he⟩ := h
        cases he
        cases hr with
        | hs k1 k2 k3 k4 k5 =>
          obtain ⟨g', ys, hg', hl, hone, hcell⟩ := block_cells I hH
          rw [k1] at hg'; cases hg'
          obtain ⟨k6, k7⟩ := cleanL_rep hcl (hl.take _)
          refine ⟨_, k6, k7, .inr ⟨_, 0, _, rfl, fun i y hy => ?_⟩⟩
          rw [List.getElem?_take] at hy
          split at hy
          · exact hcell i y hy
          · cases hy
      · cases h
    · cases h
  · cases h

theorem run_append_zero (t ty e : TypeId) {i : TypeInfo} (ht : P.underlying t = some (.slice e)) (hi : P.info? e = some i) (b : Option Addr) (n cap : Nat) (hn : n ≤ cap) (xv : Value) (hx : xv = .slice none 0 0 ∨ ∃ ad c, xv = .slice (some ad) 0 c) (w : World) :
    (Builtin.append_ #[t, t] ty #[.slice b n cap, xv]).run P w = .ok (.slice b n cap) w := by
  rcases hx with rfl | ⟨ad, c, rfl⟩
  · cases b <;> simp [Builtin.append_, run_underlying ht, run_sizeOf' hi, Builtin.lenOf, hn, Builtin.firstCells, storeCells]
  · cases b <;> simp [Builtin.append_, run_underlying ht, run_sizeOf' hi, Builtin.lenOf, hn, Builtin.firstCells, storeCells, loadCells, loadCellsFrom]

theorem run_append_room' (t ty e : TypeId) {i : TypeInfo} (ht : P.underlying t = some (.slice e)) (hi : P.info? e = some i) (w : World)
    (g o sLen sCap : Nat) (cur : Array Value) (ty0 : TypeId) (hg : w.heap[g]? = some (.cells cur ty0 (0, 0)))
    (ad : Addr) (m c : Nat) (news : List Value) (hl : news.length = m * i.size) (hnews : ∀ j u, news[j]? = some u → w.cell? (ad.add j) = some u) (h1 : ∀ u ∈ news, u.oneCell' = true)
    (hroom : sLen + m ≤ sCap) (hfit : o + sLen * i.size + news.length ≤ cur.size) :
    (Builtin.append_ #[t, t] ty #[.slice (some ⟨g, o, none⟩) sLen sCap, .slice (some ad) m c]).run P w =
      .ok (.slice (some ⟨g, o, none⟩) (sLen + m) sCap) (w.setRow g (cur.toList.take (o + sLen * i.size) ++ news ++ cur.toList.drop (o + sLen * i.size + news.length)).toArray) := by
  have hf := run_firstCells_some (P := P) w i.size m ad m c news hl hnews
  have hst := run_storeCells_at P g (o + sLen * i.size) ty0 news 0 cur w hg (by simpa using hfit) h1
  simp only [Nat.add_zero] at hst
  simp [Builtin.append_, run_underlying ht, run_sizeOf' hi, Builtin.lenOf, hroom, hf, Addr_add, hst]

theorem RepL.oneCells {l : List AV} {ys : List Value} (h : RepL S l ys) (h1 : ∀ c ∈ l, c.one = true) : ∀ u ∈ ys, u.oneCell' = true := by
  intro u hu
  obtain ⟨j, hj⟩ := List.mem_iff_getElem?.1 hu
  obtain ⟨av, h2, h3⟩ := h.get' j u hj
  exact h3.oneCell (h1 av (List.mem_of_getElem? h2))

/-- A slice that owns the row it lies in. -/
theorem own_rep {S' : Sim} {cs : List AV} {ys : List Value} {n sz r e g off cap : Nat} {c : Array Value} {ty : TypeId} (hl : RepL S' cs ys) (hcl : ∀ x ∈ cs, clean1 x = some x) (hn : n ≤ cap) (hm : cap ≤ maxLen) (hlen : cs.length = n * sz) (hF : S'.st.F[r]? = some (e, sz))
    (hr : S'.rm[r]? = some (g, off + cs.length)) (I : Inv S') (hc : S'.w.heap[g]? = some (.cells c ty (0, 0))) (hfit : off + cap * sz ≤ c.size) (hcell : ∀ i y, ys[i]? = some y → S'.w.cell? ⟨g, off + i, none⟩ = some y) :
    Rep S' (.sl cs n (.own r e)) (.slice (some ⟨g, off, none⟩) n cap) := by
  refine .sl hn hm ⟨fun h => ?_, heap_lt hc, fun b hb => (I.disj b r g _ hb hr).elim, fun r1 fl hr1 => ?_⟩ hl hcell (clean_one hcl) (fun _ => hcl) ⟨e, sz, hF, Nat.le_refl _, fun _ => ⟨hlen, .inr ⟨hr, c, ty, hc, hfit⟩⟩⟩
  · exact absurd h (Nat.not_lt.2 (I.rowb r g _ hr).1)
  · have := I.distr r1 r g fl _ hr1 hr
    subst this
    rw [hr] at hr1; cases hr1
    exact Nat.le_refl _

theorem no_room {n m cap : Nat} (h : cap = n) (h1 : n + m ≤ cap) (hm : ¬ m = 0) : False := by omega

def Sim.addRow (S : Sim) (w' : World) (p f : Nat × Nat) : Sim := { S with w := w', hm := S.hm ++ [], rm := S.rm ++ [p], st := { H := S.st.H ++ [], F := S.st.F ++ [f] } }

theorem below_drew_alloc {S : Sim} (I : Inv S) (ob : Obj) : RowKit.Below S.B S.w (S.w.drew.alloc ob) := ((RowKit.Below.refl _ _).drew).alloc I.hB _

theorem keeps_drew_alloc (w : World) (ob : Obj) : Keeps w (w.drew.alloc ob) := (Keeps.drew w).trans (Keeps.alloc _ _)

theorem op_append (I : Inv S) (hf : FrOk S fr a) {t e : TypeId} {i : TypeInfo} {z : List AV} {x y : Operand} {s1 s2 : SX} {u v r : AV} {st : St} (ho : o.op = .call { callee := .builtin .append, args := #[x, y], argTypes := #[t, t] }) (ht : P.underlying t = some (.slice e)) (hi : P.info? e = some i) (hz : zeroOf P e = some z) (hzl : z.length = i.size)
    (hx : stripX x = some s1) (hy : stripX y = some s2) (e1 : evX fr s1 = some u) (e2 : evX fr s2 = some v) (hap : opAppend S.st i.size i.bytes u v = some (r, st)) : OpRet P o a S r st := by
  have hu := stripX_rep hf hx e1
  have hv := stripX_rep hf hy e2
  generalize hxv : a.eval x = xv at hu
  generalize hyv : a.eval y = yv at hv
  have hexec : ∀ {r : Value} {w' : World}, (Builtin.append_ #[t, t] o.type #[xv, yv]).run P S.w = .ok r w' → (execOp a.eval o).run P S.w = .ok (.value r) w' := by
    intro r w' h
    simp [execOp, ho, resolve, invoke, builtin, hxv, hyv, h]
  unfold opAppend at hap
  split at hap
  · cases hap
  · rename_i news m hsrc
    obtain ⟨ys, hL, hcl, hsv⟩ := src_rep I hv hsrc
    split at hap
    · rename_i hc0
      obtain ⟨hnl, hpos⟩ := hc0
      obtain ⟨i', zv, hi', hz1, hz2⟩ := zeroOf_inv hz
      rw [hi] at hi'; cases hi'
      obtain ⟨hzr, hzo⟩ := atomsOf_rep (S := S) hz2
      have hzs : zv.cells.size = i.size := by have := hzr.length; simp at this; omega
      have hyl : ys.length = m * i.size := by rw [hL.length, hnl]
      have hone := hL.oneCells (clean_one hcl)
      have zero : m = 0 → yv = .slice none 0 0 ∨ ∃ ad c, yv = .slice (some ad) 0 c := by
        intro hm
        rcases hsv with ⟨⟨q, h⟩, _⟩ | ⟨g, off, c, h, _⟩
        · cases q with
          | none => exact .inl h
          | some q => exact .inr ⟨_, _, h⟩
        · subst hm; exact .inr ⟨_, _, h⟩
      have full : m ≠ 0 → ∃ ad c, yv = .slice (some ad) m c ∧ ∀ j w, ys[j]? = some w → S.w.cell? (ad.add j) = some w := by
        intro hm
        rcases hsv with ⟨_, h⟩ | ⟨g, off, c, h, hk⟩
        · exact absurd h hm
        · exact ⟨_, c, h, fun j w hw => by rw [Addr_add]; exact hk j w hw⟩
      have e47 : most47 = 140737488355328 := rfl
      have e63 : maxLen = 9223372036854775807 := rfl
      split at hap
      · obtain ⟨rfl, _⟩ := hu.v_inv
        split at hap
        · rename_i hm
          cases hap
          exact OpRet.same I (hexec (run_append_zero t o.type e ht hi none 0 0 (Nat.le_refl _) yv (zero hm) S.w)) (.v rfl)
        · rename_i hm
          split at hap
          · rename_i hb
            cases hap
            obtain ⟨ad, c, rfl, hk⟩ := full hm
            have hrun := run_append_nil (P := P) S.w t o.type e i zv ht hi hz1 ad m c ys hyl hk (by omega) (by omega) (by omega)
            have hcap := grownCap_ge S.w m 0 e
            have hcm := grownCap_le_maxLen S.w m 0 e hb.2
            generalize hcd : grownCap S.w m 0 e = cap at *
            generalize hcell : (ys.toArray ++ Builtin.zeroCells zv.cells (cap - m)) = cells at *
            have hsz : cells.size = cap * i.size := by
              rw [← hcell]
              simp only [Array.size_append, List.size_toArray, size_zeroCells, hzs, hyl, ← Nat.add_mul]
              congr 1; omega
            have hheap : (S.w.drew.alloc (.cells cells e)).heap[S.w.heap.size]? = some (.cells cells e (0, 0)) := heap_alloc_new S.w.drew _
            obtain ⟨E, J⟩ := new_row I (keeps_drew_alloc S.w (.cells cells e)) (g := S.w.heap.size) (fl := news.length) (news.length, i.size) (Nat.le_refl _) hheap (by rw [hsz, hnl]; exact Nat.mul_le_mul_right _ hcap)
            refine ⟨S.addRow (S.w.drew.alloc (.cells cells e)) (S.w.heap.size, news.length) (news.length, i.size), ?_, rfl, rfl, ⟨E, J, below_drew_alloc I _⟩, .inl ⟨_, hexec hrun, ?_⟩⟩
            · simp [Sim.addRow]
            · refine own_rep (RepL.ext E hL) hcl hcap hcm hnl (by simp [Sim.addRow]) ?_ J hheap (by rw [hsz]; omega) (fun j w hw => ?_)
              · show (S.rm ++ [_])[S.st.F.length]? = _
                rw [← I.rl, List.getElem?_append_right (Nat.le_refl _)]
                simp
              · show (S.w.drew.alloc (.cells cells e)).cell? _ = _
                rw [Nat.zero_add, cell_of_row _ _ _ _ _ _ hheap, ← hcell]
                have hj := (List.getElem?_eq_some_iff.1 hw).1
                rw [Array.getElem?_append, if_pos (by simpa using hj)]
                simpa using hw
          · cases hap
      · rename_i cs n tg
        split at hap
        · rename_i hm
          cases hap
          cases hu with
          | sl k1 k2 k3 k4 k5 k6 k7 k8 =>
            exact OpRet.same I (hexec (run_append_zero t o.type e ht hi _ _ _ k1 yv (zero hm) S.w)) (.sl k1 k2 k3 k4 k5 k6 k7 k8)
        · rename_i hm
          split at hap
          · rename_i hb
            obtain ⟨hb1, hb2, hb3⟩ := hb
            obtain ⟨ad, c, rfl, hk⟩ := full hm
            cases hu with
            | sl k1 k2 k3 k4 k5 k6 k7 k8 =>
              rename_i g off cap zs
              have hzl2 : zs.length = n * i.size := by rw [k4.length, hb3]
              have hkc : ∀ j w, zs[j]? = some w → S.w.cell? ((⟨g, off, none⟩ : Addr).add j) = some w := fun j w hw => by rw [Addr_add]; exact k5 j w hw
              have hlen2 : (cs ++ news).length = (n + m) * i.size := by rw [List.length_append, hb3, hnl, Nat.add_mul]
              have grow : cap < n + m → ∃ (cells : Array Value) (cap2 : Nat), n + m ≤ cap2 ∧ cap2 ≤ maxLen ∧ cells.size = cap2 * i.size ∧ (∀ (j : Nat) (w : Value), (zs ++ ys)[j]? = some w → cells[j]? = some w) ∧
                  (Builtin.append_ #[t, t] o.type #[.slice (some ⟨g, off, none⟩) n cap, .slice (some ad) m c]).run P S.w = .ok (.slice (some ⟨S.w.heap.size, 0, none⟩) (n + m) cap2) (S.w.drew.alloc (.cells cells e)) := by
                intro hg
                have hrun := run_append_grow (P := P) S.w t o.type e i zv ht hi hz1 ⟨g, off, none⟩ n cap zs hzl2 hkc ad m c ys hyl hk hg (by omega) (growslice_fits hg (by omega))
                refine ⟨_, _, grownCap_ge S.w (n + m) cap e, grownCap_le_maxLen S.w (n + m) cap e hb2, ?_, ?_, hrun⟩
                · have := grownCap_ge S.w (n + m) cap e
                  simp only [Array.size_append, List.size_toArray, size_zeroCells, hzs, hyl, hzl2, ← Nat.add_mul]
                  congr 1; omega
                · intro j w hw
                  have hj := (List.getElem?_eq_some_iff.1 hw).1
                  rw [Array.getElem?_append, if_pos (by simpa using hj)]
                  simpa using hw
              have moved : ∀ {cells : Array Value} {cap2 : Nat}, n + m ≤ cap2 → cells.size = cap2 * i.size → (S.w.drew.alloc (.cells cells e)).heap[S.w.heap.size]? = some (.cells cells e (0, 0)) ∧ (cs ++ news).length ≤ cells.size := by
                intro cells cap2 h1 h2
                exact ⟨heap_alloc_new S.w.drew _, by rw [hlen2, h2]; exact Nat.mul_le_mul_right _ h1⟩
              split at hap
              · cases hap
                obtain ⟨cells, cap2, g1, g2, g3, g4, g5⟩ := grow (by simp only [tagOk] at k8; omega)
                obtain ⟨hheap, hle⟩ := moved g1 g3
                obtain ⟨E, J⟩ := new_row I (keeps_drew_alloc S.w (.cells cells e)) (g := S.w.heap.size) (fl := (cs ++ news).length) ((cs ++ news).length, i.size) (Nat.le_refl _) hheap hle
                refine ⟨S.addRow (S.w.drew.alloc (.cells cells e)) (S.w.heap.size, (cs ++ news).length) ((cs ++ news).length, i.size), ?_, rfl, rfl, ⟨E, J, below_drew_alloc I _⟩, .inl ⟨_, hexec g5, ?_⟩⟩
                · simp [Sim.addRow]
                · refine own_rep (ys := zs ++ ys) (RepL.ext E (k4.append hL)) (fun c hc => ?_) g1 g2 hlen2 (by simp [Sim.addRow]) ?_ J hheap (by rw [g3]; omega) (fun j w hw => ?_)
                  · rcases List.mem_append.1 hc with hc | hc
                    · exact k7 (by simp) c hc
                    · exact hcl c hc
                  · show (S.rm ++ [_])[S.st.F.length]? = _
                    rw [← I.rl, List.getElem?_append_right (Nat.le_refl _)]
                    simp
                  · show (S.w.drew.alloc (.cells cells e)).cell? _ = _
                    rw [Nat.zero_add, cell_of_row _ _ _ _ _ _ hheap]
                    exact g4 j w hw
              · rename_i r0 e0
                split at hap
                · rename_i hF
                  cases hap
                  have hk0 : 0 < news.length := by rw [hnl]; exact Nat.mul_pos (by omega) hpos
                  obtain ⟨e', sz', hF', _, htag⟩ := k8
                  rw [hF] at hF'; cases hF'
                  obtain ⟨_, hplace⟩ := htag rfl
                  by_cases hroom : n + m ≤ cap
                  · rcases hplace with h | ⟨hrm, cur, ty, hcur, hfit⟩
                    · exact (no_room h hroom hm).elim
                    · have hfit2 : off + n * i.size + ys.length ≤ cur.size := by
                        have : (n + m) * i.size ≤ cap * i.size := Nat.mul_le_mul_right _ hroom
                        rw [hyl]; rw [Nat.add_mul] at this; omega
                      have hrun := run_append_room' (P := P) t o.type e ht hi S.w g off n cap cur ty hcur ad m c ys hyl hk hone hroom hfit2
                      generalize hcd : (cur.toList.take (off + n * i.size) ++ ys ++ cur.toList.drop (off + n * i.size + ys.length)).toArray = c' at hrun
                      have hsz : c'.size = cur.size := by
                        rw [← hcd]
                        simp only [List.size_toArray, List.length_append, List.length_take, List.length_drop, Array.length_toList]
                        omega
                      have hh := setRow_heap S.w g cur c' ty (0, 0) hcur
                      have hwsz : (S.w.setRow g c').heap.size = S.w.heap.size := by simp [World.setRow]
                      have hold : ∀ j, j < off + cs.length → c'[j]? = cur[j]? := by
                        intro j hj
                        rw [hb3] at hj
                        rw [← hcd]
                        simp only [List.getElem?_toArray, List.append_assoc]
                        rw [List.getElem?_append_left (by simp; omega), List.getElem?_take, if_pos hj]
                        simp
                      obtain ⟨E, J⟩ := row_place I hrm hF hcur hh hsz hwsz (fun k hk => setRow_other S.w g k c' hk) hk0 (by rw [hb3, ← hL.length]; omega) hold
                      refine ⟨S.row (S.w.setRow g c') r0 (g, off + cs.length + news.length) (e0 + news.length, i.size), rfl, rfl, rfl, ⟨E, J, ⟨rfl, rfl, rfl, Nat.le_of_eq hwsz.symm, fun k hk => setRow_other S.w g k c' (Nat.ne_of_lt (Nat.lt_of_lt_of_le hk (I.rowb _ _ _ hrm).1))⟩⟩, .inl ⟨_, hexec hrun, ?_⟩⟩
                      have hFl := (List.getElem?_eq_some_iff.1 hF).1
                      have hrl := (List.getElem?_eq_some_iff.1 hrm).1
                      refine own_rep (ys := zs ++ ys) (RepL.ext E (k4.append hL)) (fun c hc => ?_) hroom k2 hlen2 ?_ ?_ J hh (by rw [hsz]; exact hfit) (fun j w hw => ?_)
                      · rcases List.mem_append.1 hc with hc | hc
                        · exact k7 (by simp) c hc
                        · exact hcl c hc
                      · show (S.st.F.set r0 _)[r0]? = _
                        rw [List.getElem?_set_self hFl]
                      · show (S.rm.set r0 _)[r0]? = _
                        rw [List.getElem?_set_self hrl, List.length_append, Nat.add_assoc]
                      · show (S.w.setRow g c').cell? _ = _
                        rw [cell_of_row _ _ _ _ _ _ hh]
                        rcases Nat.lt_or_ge j zs.length with hj | hj
                        · rw [List.getElem?_append_left hj] at hw
                          rw [hold _ (by rw [k4.length] at hj; omega), ← cell_of_row S.w g _ cur ty (0, 0) hcur]
                          exact k5 j w hw
                        · rw [List.getElem?_append_right hj] at hw
                          have hj2 := (List.getElem?_eq_some_iff.1 hw).1
                          rw [← hcd]
                          simp only [List.getElem?_toArray, List.append_assoc]
                          rw [List.getElem?_append_right (by simp; omega), List.getElem?_append_left (by simp; omega)]
                          rw [← hw]
                          congr 1
                          simp; omega
                  · obtain ⟨cells, cap2, g1, g2, g3, g4, g5⟩ := grow (by omega)
                    obtain ⟨hheap, hle⟩ := moved g1 g3
                    obtain ⟨E, J⟩ := row_moved I hF (keeps_drew_alloc S.w (.cells cells e)) (Nat.le_refl _) hheap hk0 hle
                    have hFl := (List.getElem?_eq_some_iff.1 hF).1
                    refine ⟨S.row (S.w.drew.alloc (.cells cells e)) r0 (S.w.heap.size, (cs ++ news).length) (e0 + news.length, i.size), rfl, rfl, rfl, ⟨E, J, below_drew_alloc I _⟩, .inl ⟨_, hexec g5, ?_⟩⟩
                    refine own_rep (ys := zs ++ ys) (RepL.ext E (k4.append hL)) (fun c hc => ?_) g1 g2 hlen2 ?_ ?_ J hheap (by rw [g3]; omega) (fun j w hw => ?_)
                    · rcases List.mem_append.1 hc with hc | hc
                      · exact k7 (by simp) c hc
                      · exact hcl c hc
                    · show (S.st.F.set r0 _)[r0]? = _
                      rw [List.getElem?_set_self hFl]
                    · show (S.rm.set r0 _)[r0]? = _
                      rw [List.getElem?_set_self (by rw [I.rl]; exact hFl), Nat.zero_add]
                    · show (S.w.drew.alloc (.cells cells e)).cell? _ = _
                      rw [Nat.zero_add, cell_of_row _ _ _ _ _ _ hheap]
                      exact g4 j w hw
                · cases hap
              · cases hap
          · cases hap
      · cases hap
    · cases hap

end

end VS
end Go.Proofs.Ytohfbjgcfbkgnaa
