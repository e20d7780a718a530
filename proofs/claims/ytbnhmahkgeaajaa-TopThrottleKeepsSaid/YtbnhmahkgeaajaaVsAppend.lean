/- The built-in append, on a slice that may be appended to. -/
import Derived.Test.YtbnhmahkgeaajaaVsOps6
namespace Go.Proofs.Ytbnhmahkgeaajaa
namespace VS

section
variable {P : Program} {S : Sim} {fr : Fr} {a : Act} {o : Oper}

theorem src_rep (I : Inv S) {x : AV} {xv : Value} {size m : Nat} {news : List AV} (hr : Rep S x xv) (h : srcOf S.st x size = some (news, m)) :
    ∃ ys, RepL S news ys ∧ (∀ c ∈ news, clean1 c = some c) ∧ (((∃ q, xv = .slice q 0 0) ∧ m = 0) ∨ ∃ g off c, xv = .slice (some ⟨g, off, none⟩) m c ∧ ∀ i y, ys[i]? = some y → S.w.cell? ⟨g, off + i, none⟩ = some y) := by
  unfold srcOf at h
  split at h
  · cases h
    exact ⟨[], .nil, by simp, .inl ⟨⟨_, hr.v_inv.1⟩, rfl⟩⟩
  · split at h
    · cases h
    · rename_i hne
      cases h
      cases hr with
      | sl h1 h2 h3 h4 h5 h6 h7 h8 => exact ⟨_, h4, h7 hne, .inr ⟨_, _, _, rfl, h5⟩⟩
  · split at h
    · rename_i hb hH
      split at h
      · rename_i hc
        rw [Option.map_eq_some_iff] at h
        obtain ⟨cs, hcl, he⟩ := h
        cases he
        cases hr with
        | hs k1 k2 k3 k4 k5 =>
          obtain ⟨g', ys, hg', hl, hone, hcell⟩ := block_cells I hH
          rw [k1] at hg'; cases hg'
          obtain ⟨k6, k7⟩ := cleanL_rep hcl ((hl.drop _).take _)
          refine ⟨_, k6, k7, .inr ⟨_, _, _, rfl, fun i y hy => ?_⟩⟩
          rw [List.getElem?_take] at hy
          split at hy
          · rename_i hi
            rw [List.getElem?_drop] at hy
            rcases k5 with ⟨h5, _⟩ | ⟨h5, _⟩
            · have := hcell _ _ hy
              rw [Nat.zero_add, ← h5] at this
              exact this
            · exfalso
              subst h5
              have h6 := Nat.le_zero.1 k2
              rw [h6] at hi
              omega
          · cases hy
      · cases h
    · cases h
  · cases h

theorem run_append_zero (t ty e : TypeId) {i : TypeInfo} (ht : P.underlying t = some (.slice e)) (hi : P.info? e = some i) (b : Option Addr) (n cap : Nat) (hn : n ≤ cap) (xv : Value) (hx : xv = .slice none 0 0 ∨ ∃ ad c, xv = .slice (some ad) 0 c) (w : World) :
    (Builtin.append_ #[t, t] ty #[.slice b n cap, xv]).run P w = .ok (.slice b n cap) w := by
  rcases hx with rfl | ⟨ad, c, rfl⟩
  · cases b <;> simp [Builtin.append_, run_underlying ht, run_sizeOf' hi, Builtin.lenOf, hn, Builtin.firstCells, storeCells]
  · cases b <;> simp [Builtin.append_, run_underlying ht, run_sizeOf' hi, Builtin.lenOf, hn, Builtin.firstCells, storeCells, loadCells, loadCellsFrom]

theorem run_append_room' (t ty e : TypeId) {i : TypeInfo} (ht : P.underlying t = some (.slice e)) (hi : P.info? e = some i) (w : World)
    (g o sLen sCap : Nat) (cur : Array Value) (ty0 : TypeId) (hg : w.heap[g]? = some (.cells cur ty0 (0, 0)))
    (ad : Addr) (m c : Nat) (news : List Value) (hl : news.length = m * i.size) (hnews : ∀ j u, news[j]? = some u → w.cell? (ad.add j) = some u) (h1 : ∀ u ∈ news, u.oneCell' = true)
    (hroom : sLen + m ≤ sCap) (hfit : o + sLen * i.size + news.length ≤ cur.size) :
    (Builtin.append_ #[t, t] ty #[.slice (some ⟨g, o, none⟩) sLen sCap, .slice (some ad) m c]).run P w =
      .ok (.slice (some ⟨g, o, none⟩) (sLen + m) sCap) (w.setRow g (cur.toList.take (o + sLen * i.size) ++ news ++ cur.toList.drop (o + sLen * i.size + news.length)).toArray) := by
  have hf := run_firstCells_some (P := P) w i.size m ad m c news hl hnews
  have hst := run_storeCells_at P g (o + sLen * i.size) ty0 news 0 cur w hg (by simpa using hfit) h1
  simp only [Nat.add_zero] at hst
  simp [Builtin.append_, run_underlying ht, run_sizeOf' hi, Builtin.lenOf, hroom, hf, Addr_add, hst]

theorem RepL.oneCells {l : List AV} {ys : List Value} (h : RepL S l ys) (h1 : ∀ c ∈ l, c.one = true) : ∀ u ∈ ys, u.oneCell' = true := by
  intro u hu
  obtain ⟨j, hj⟩ := List.mem_iff_getElem?.1 hu
  obtain ⟨av, h2, h3⟩ := h.get' j u hj
  exact h3.oneCell (h1 av (List.mem_of_getElem? h2))

/-- A slice that owns the row it lies in. -/
theorem own_rep {S' : Sim} {cs : List AV} {ys : List Value} {n sz r e g off cap : Nat} {c : Array Value} {ty : TypeId} (hl : RepL S' cs ys) (hcl : ∀ x ∈ cs, clean1 x = some x) (hn : n ≤ cap) (hm : cap ≤ maxLen) (hlen : cs.length = n * sz) (hF : S'.st.F[r]? = some (e, sz))
    (hr : S'.rm[r]? = some (g, off + cs.length)) (I : Inv S') (hc : S'.w.heap[g]? = some (.cells c ty (0, 0))) (hfit : off + cap * sz ≤ c.size) (hcell : ∀ i y, ys[i]? = some y → S'.w.cell? ⟨g, off + i, none⟩ = some y) (hke : cs.length ≤ e) (hz : cs.length = e → off = 0) :
    Rep S' (.sl cs n (.own r e)) (.slice (some ⟨g, off, none⟩) n cap) := by
  refine .sl hn hm ⟨fun h => ?_, heap_lt hc, fun b hb => let ⟨x, h1, h2, _⟩ := I.disj b r g _ hb hr; ⟨x, h1, h2⟩, fun r1 fl hr1 => ?_⟩ hl hcell (clean_one hcl) (fun _ => hcl) ⟨e, sz, hF, Nat.le_refl _, fun _ => ⟨⟨hlen, hke, hz⟩, .inr ⟨hr, c, ty, hc, hfit⟩⟩⟩
  · exact absurd h (Nat.not_lt.2 (I.rowb r g _ hr).1)
  · have := I.distr r1 r g fl _ hr1 hr
    subst this
    rw [hr] at hr1; cases hr1
    exact Nat.le_refl _

theorem no_room {n m cap : Nat} (h : cap = 0) (h1 : n + m ≤ cap) (hm : ¬ m = 0) : False := by omega

def Sim.addRow (S : Sim) (w' : World) (p f : Nat × Nat) : Sim := { S with w := w', hm := S.hm ++ [], rm := S.rm ++ [p], st := { H := S.st.H ++ [], F := S.st.F ++ [f] } }

theorem below_drew_alloc {S : Sim} (I : Inv S) (ob : Obj) : RowKit.Below S.B S.w (S.w.drew.alloc ob) := ((RowKit.Below.refl _ _).drew).alloc I.hB _

theorem keeps_drew_alloc (w : World) (ob : Obj) : Keeps w (w.drew.alloc ob) := (Keeps.drew w).trans (Keeps.alloc _ _)

theorem cleanL_len : ∀ {l m : List AV}, cleanL l = some m → m.length = l.length
  | [], m, h => by simp only [cleanL, Option.some.injEq] at h; subst h; rfl
  | a :: r, m, h => by
    simp only [cleanL] at h
    split at h
    · rename_i x l _ hl
      cases h
      simp [cleanL_len hl]
    · cases h

/-- A slice of a block of one's own that reaches to the block's end becomes one that may be appended to; the block is frozen. -/
theorem thaw_ok (I : Inv S) {b q n z : Nat} {hb : HB} {cs : List AV} {y : Value} (hr : Rep S (.hs b q n z) y) (hH : S.st.H[b]? = some hb) (hfz : hb.fz = false) (hlen : hb.cells.length = q + n * z) (hcl : cleanL (hb.cells.drop q) = some cs) :
    ∃ S1 : Sim, S1.w = S.w ∧ S1.st = { H := S.st.H.set b { hb with fz := true }, F := S.st.F ++ [(hb.cells.length, z)] } ∧ S1.B = S.B ∧ S1.A = S.A ∧ Ext S S1 ∧ Inv S1 ∧ Rep S1 (.sl cs n (.own S.st.F.length hb.cells.length)) y := by
  cases hr with
  | hs k1 k2 k3 k4 k5 =>
    rename_i g p cap c ty
    obtain ⟨g', ys, hg', hl, hone, hcell⟩ := block_cells I hH
    rw [k1] at hg'; cases hg'
    obtain ⟨g', c', ty', hg', hc', hle', _, _, hB⟩ := I.hm_of hH
    rw [k1] at hg'; cases hg'
    rw [k4] at hc'; cases hc'
    have nor : ∀ r fl, S.rm[r]? = some (g, fl) → False := fun r fl hr => by
      obtain ⟨x, hx, hf, _⟩ := I.disj b r g fl k1 hr
      rw [hH] at hx; cases hx
      rw [hfz] at hf; cases hf
    have hbl := (List.getElem?_eq_some_iff.1 hH).1
    let S1 : Sim := { S with rm := S.rm ++ [(g, hb.cells.length)], st := { H := S.st.H.set b { hb with fz := true }, F := S.st.F ++ [(hb.cells.length, z)] } }
    have hself : (S.st.H.set b { hb with fz := true })[b]? = some { hb with fz := true } := by rw [List.getElem?_set_self hbl]
    have rows : ∀ r g1 fl, S1.rm[r]? = some (g1, fl) → S.rm[r]? = some (g1, fl) ∨ (r = S.rm.length ∧ g1 = g ∧ fl = hb.cells.length) := by
      intro r g1 fl hr
      change (S.rm ++ [(g, hb.cells.length)])[r]? = some (g1, fl) at hr
      rcases Nat.lt_or_ge r S.rm.length with h | h
      · rw [List.getElem?_append_left h] at hr; exact .inl hr
      · rw [List.getElem?_append_right h] at hr
        have hlt := (List.getElem?_eq_some_iff.1 hr).1
        have hm := List.mem_of_getElem? hr
        simp only [List.mem_singleton, Prod.mk.injEq] at hm
        simp only [List.length_singleton] at hlt
        exact .inr ⟨by omega, hm.1, hm.2⟩
    have E : Ext S S1 := by
      refine ⟨rfl, rfl, fun _ _ h => h, fun g1 lo k h => ?_, fun _ _ _ _ _ _ => rfl, fun t k n1 g1 off cap1 ht => ?_, fun b1 g1 c1 ty1 _ hc1 => ⟨c1, hc1, rfl⟩⟩
      · have hne : g1 ≠ g := by
          intro he
          subst he
          obtain ⟨x, hx, hf⟩ := h.2.2.1 b k1
          rw [hH] at hx; cases hx
          rw [hfz] at hf; cases hf
        refine ⟨h.1, h.2.1, fun b1 hb1 => ?_, fun r fl hr => ?_⟩
        · obtain ⟨x, hx, hf⟩ := h.2.2.1 b1 hb1
          have hbb : b1 ≠ b := by
            intro he
            subst he
            change S.hm[b1]? = some g1 at hb1
            rw [k1] at hb1; cases hb1; exact hne rfl
          exact ⟨x, by show (S.st.H.set b _)[b1]? = _; rw [getElem?_set_ne' hbb]; exact hx, hf⟩
        · rcases rows r g1 fl hr with hr | ⟨_, he, _⟩
          · exact h.2.2.2 r fl hr
          · exact absurd he hne
      · cases t with
        | own r e =>
          obtain ⟨e1, sz, hF, hle, hx⟩ := ht
          refine ⟨e1, sz, by show (S.st.F ++ _)[r]? = _; rw [List.getElem?_append_left (List.getElem?_eq_some_iff.1 hF).1]; exact hF, hle, fun he => ?_⟩
          obtain ⟨h1, h2⟩ := hx he
          refine ⟨h1, h2.imp id ?_⟩
          rintro ⟨h3, h4⟩
          exact ⟨by show (S.rm ++ _)[r]? = _; rw [List.getElem?_append_left (List.getElem?_eq_some_iff.1 h3).1]; exact h3, h4⟩
        | full => exact ht
        | ro => trivial
        | ptrs => trivial
    have J : Inv S1 := by
      refine ⟨I.hB, by simp [S1, I.hl], by simp [S1, I.rl], fun b1 g1 hb1 => ?_, fun r g1 fl hr => ?_, I.dist, fun r1 r2 g1 f1 f2 h1 h2 => ?_, fun b1 r g1 fl hb1 hr => ?_, I.acl⟩
      · obtain ⟨h2, x, c1, ty1, hx, hc1, hle1, hl1, ho1⟩ := I.blk b1 g1 hb1
        refine ⟨h2, ?_⟩
        by_cases he : b1 = b
        · subst he
          rw [hH] at hx; cases hx
          exact ⟨_, c1, ty1, hself, hc1, hle1, RepL.ext E hl1, ho1⟩
        · exact ⟨x, c1, ty1, by show (S.st.H.set b _)[b1]? = _; rw [getElem?_set_ne' he]; exact hx, hc1, hle1, RepL.ext E hl1, ho1⟩
      · rcases rows r g1 fl hr with hr | ⟨_, rfl, rfl⟩
        · exact I.rowb r g1 fl hr
        · exact ⟨hB, c, ty, k4, hle'⟩
      · rcases rows r1 g1 f1 h1 with o1 | ⟨e1, e2, _⟩ <;> rcases rows r2 g1 f2 h2 with o2 | ⟨d1, d2, _⟩
        · exact I.distr r1 r2 g1 f1 f2 o1 o2
        · subst d2; exact (nor _ _ o1).elim
        · subst e2; exact (nor _ _ o2).elim
        · omega
      · rcases rows r g1 fl hr with hr | ⟨_, rfl, rfl⟩
        · obtain ⟨x, hx, hf, hle⟩ := I.disj b1 r g1 fl hb1 hr
          have hbb : b1 ≠ b := by
            intro he
            subst he
            rw [hH] at hx; cases hx
            rw [hfz] at hf; cases hf
          exact ⟨x, by show (S.st.H.set b _)[b1]? = _; rw [getElem?_set_ne' hbb]; exact hx, hf, hle⟩
        · have : b1 = b := I.dist b1 b g1 hb1 k1
          subst this
          exact ⟨_, hself, rfl, Nat.le_refl _⟩
    obtain ⟨k6, k7⟩ := cleanL_rep hcl (hl.drop q)
    have hcl2 : cs.length = n * z := by rw [cleanL_len hcl, List.length_drop]; omega
    have hp : p ≤ q ∧ (n * z = 0 ∨ p = q) := by
      rcases k5 with ⟨h, _⟩ | ⟨h, h'⟩
      · exact ⟨by omega, .inr h⟩
      · have : n = 0 := by omega
        subst this
        exact ⟨h', .inl (by omega)⟩
    have hrow : S1.rm[S.st.F.length]? = some (g, hb.cells.length) := by
      show (S.rm ++ [(g, hb.cells.length)])[S.st.F.length]? = _
      rw [← I.rl]; simp
    have hFr : S1.st.F[S.st.F.length]? = some (hb.cells.length, z) := by
      show (S.st.F ++ [(hb.cells.length, z)])[S.st.F.length]? = _
      simp
    refine ⟨S1, rfl, rfl, rfl, rfl, E, J, ?_⟩
    refine .sl k2 k3 ⟨fun h => absurd h (Nat.not_lt.2 hB), heap_lt k4, fun b1 hb1 => ?_, fun r fl hr => ?_⟩ (RepL.ext E k6) (fun i y hy => ?_) (clean_one k7) (fun _ => k7) ⟨_, z, hFr, Nat.le_refl _, fun _ => ⟨⟨hcl2, by omega, fun h => by omega⟩, ?_⟩⟩
    · have : b1 = b := I.dist b1 b g hb1 k1
      subst this
      exact ⟨_, hself, rfl⟩
    · rcases rows r g fl hr with hr | ⟨_, _, rfl⟩
      · exact (nor _ _ hr).elim
      · rw [hcl2]; omega
    · rcases hp.2 with h | h
      · have := (List.getElem?_eq_some_iff.1 hy).1
        rw [k6.length, hcl2] at this
        omega
      · rw [List.getElem?_drop] at hy
        have := hcell _ _ hy
        rw [Nat.zero_add, ← h] at this
        exact this
    · rcases k5 with ⟨h, h'⟩ | ⟨h, _⟩
      · refine .inr ⟨?_, c, ty, k4, by omega⟩
        rw [hrow, hcl2]; congr 2; omega
      · exact .inl h

/-- What an append comes to. -/
def AppRet (P : Program) (t ty : TypeId) (S : Sim) (xv yv : Value) (x : AV) (st : St) : Prop :=
  ∃ S', S'.st = st ∧ S'.B = S.B ∧ S'.A = S.A ∧ Step S S' ∧ ∃ y, (Builtin.append_ #[t, t] ty #[xv, yv]).run P S.w = .ok y S'.w ∧ Rep S' x y

/-- Where what is appended lies. -/
structure Src (S : Sim) (yv : Value) (news : List AV) (ys : List Value) (m sz : Nat) : Prop where
  L : RepL S news ys
  cl : ∀ c ∈ news, clean1 c = some c
  len : news.length = m * sz
  pos : 0 < sz
  zero : m = 0 → yv = .slice none 0 0 ∨ ∃ ad c, yv = .slice (some ad) 0 c
  full : m ≠ 0 → ∃ ad c, yv = .slice (some ad) m c ∧ ∀ j w, ys[j]? = some w → S.w.cell? (ad.add j) = some w

/-- An append to a slice that may be appended to. -/
def appSl (st : St) (sz bytes : Nat) (cs : List AV) (n : Nat) (t : Tag) (news : List AV) (m : Nat) : Option (AV × St) :=
  if m = 0 then some (.sl cs n t, st)
  else if (n + m) * bytes ≤ most47 ∧ n + m ≤ maxLen ∧ cs.length = n * sz then
    match t with
    | .full => some (.sl (cs ++ news) (n + m) (.own st.F.length (cs ++ news).length), { st with F := st.F ++ [((cs ++ news).length, sz)] })
    | .own r e => if st.F[r]? = some (e, sz) then some (.sl (cs ++ news) (n + m) (.own r (e + news.length)), { st with F := st.F.set r (e + news.length, sz) }) else none
    | _ => none
  else none

theorem append_sl (I : Inv S) {t ty e : TypeId} {i : TypeInfo} {z : List AV} {xv yv : Value} {cs news : List AV} {ys : List Value} {n m : Nat} {tg : Tag} {r : AV} {st : St} (ht : P.underlying t = some (.slice e)) (hi : P.info? e = some i) (hz : zeroOf P e = some z) (hzl : z.length = i.size)
    (hu : Rep S (.sl cs n tg) xv) (hs : Src S yv news ys m i.size) (hap : appSl S.st i.size i.bytes cs n tg news m = some (r, st)) : AppRet P t ty S xv yv r st := by
  unfold appSl at hap
  obtain ⟨hL, hcl, hnl, hpos, zero, full⟩ := hs
  obtain ⟨i', zv, hi', hz1, hz2⟩ := zeroOf_inv hz
  rw [hi] at hi'; cases hi'
  obtain ⟨hzr, hzo⟩ := atomsOf_rep (S := S) hz2
  have hzs : zv.cells.size = i.size := by have := hzr.length; simp at this; omega
  have hyl : ys.length = m * i.size := by rw [hL.length, hnl]
  have hone := hL.oneCells (clean_one hcl)
  have e47 : most47 = 140737488355328 := rfl
  have e63 : maxLen = 9223372036854775807 := rfl
  split at hap
  · rename_i hm
    cases hap
    cases hu with
    | sl k1 k2 k3 k4 k5 k6 k7 k8 =>
      exact ⟨S, rfl, rfl, rfl, Step.refl I, _, run_append_zero t ty e ht hi _ _ _ k1 yv (zero hm) S.w, .sl k1 k2 k3 k4 k5 k6 k7 k8⟩
  · rename_i hm
    split at hap
    · rename_i hb
      obtain ⟨hb1, hb2, hb3⟩ := hb
      obtain ⟨ad, c, rfl, hk⟩ := full hm
      cases hu with
      | sl k1 k2 k3 k4 k5 k6 k7 k8 =>
        rename_i g off cap zs
        have hzl2 : zs.length = n * i.size := by rw [k4.length, hb3]
        have hkc : ∀ j w, zs[j]? = some w → S.w.cell? ((⟨g, off, none⟩ : Addr).add j) = some w := fun j w hw => by rw [Addr_add]; exact k5 j w hw
        have hlen2 : (cs ++ news).length = (n + m) * i.size := by rw [List.length_append, hb3, hnl, Nat.add_mul]
        have grow : cap < n + m → ∃ (cells : Array Value) (cap2 : Nat), n + m ≤ cap2 ∧ cap2 ≤ maxLen ∧ cells.size = cap2 * i.size ∧ (∀ (j : Nat) (w : Value), (zs ++ ys)[j]? = some w → cells[j]? = some w) ∧
            (Builtin.append_ #[t, t] ty #[.slice (some ⟨g, off, none⟩) n cap, .slice (some ad) m c]).run P S.w = .ok (.slice (some ⟨S.w.heap.size, 0, none⟩) (n + m) cap2) (S.w.drew.alloc (.cells cells e)) := by
          intro hg
          have hrun := run_append_grow (P := P) S.w t ty e i zv ht hi hz1 ⟨g, off, none⟩ n cap zs hzl2 hkc ad m c ys hyl hk hg (by omega) (growslice_fits hg (by omega))
          refine ⟨_, _, grownCap_ge S.w (n + m) cap e, grownCap_le_maxLen S.w (n + m) cap e hb2, ?_, ?_, hrun⟩
          · have := grownCap_ge S.w (n + m) cap e
            simp only [Array.size_append, List.size_toArray, size_zeroCells, hzs, hyl, hzl2, ← Nat.add_mul]
            congr 1; omega
          · intro j w hw
            have hj := (List.getElem?_eq_some_iff.1 hw).1
            rw [Array.getElem?_append, if_pos (by simpa using hj)]
            simpa using hw
        have moved : ∀ {cells : Array Value} {cap2 : Nat}, n + m ≤ cap2 → cells.size = cap2 * i.size → (S.w.drew.alloc (.cells cells e)).heap[S.w.heap.size]? = some (.cells cells e (0, 0)) ∧ (cs ++ news).length ≤ cells.size := by
          intro cells cap2 h1 h2
          exact ⟨heap_alloc_new S.w.drew _, by rw [hlen2, h2]; exact Nat.mul_le_mul_right _ h1⟩
        split at hap
        · cases hap
          obtain ⟨cells, cap2, g1, g2, g3, g4, g5⟩ := grow (by simp only [tagOk] at k8; omega)
          obtain ⟨hheap, hle⟩ := moved g1 g3
          obtain ⟨E, J⟩ := new_row I (keeps_drew_alloc S.w (.cells cells e)) (g := S.w.heap.size) (fl := (cs ++ news).length) ((cs ++ news).length, i.size) (Nat.le_refl _) hheap hle
          refine ⟨S.addRow (S.w.drew.alloc (.cells cells e)) (S.w.heap.size, (cs ++ news).length) ((cs ++ news).length, i.size), ?_, rfl, rfl, ⟨E, J, below_drew_alloc I _⟩, _, g5, ?_⟩
          · simp [Sim.addRow]
          · refine own_rep (ys := zs ++ ys) (RepL.ext E (k4.append hL)) (fun c hc => ?_) g1 g2 hlen2 (by simp [Sim.addRow]) ?_ J hheap (by rw [g3]; omega) (fun j w hw => ?_) (by first | exact Nat.le_refl _ | (rw [List.length_append]; omega)) (fun _ => rfl)
            · rcases List.mem_append.1 hc with hc | hc
              · exact k7 (by simp) c hc
              · exact hcl c hc
            · show (S.rm ++ [_])[S.st.F.length]? = _
              rw [← I.rl, List.getElem?_append_right (Nat.le_refl _)]
              simp
            · show (S.w.drew.alloc (.cells cells e)).cell? _ = _
              rw [Nat.zero_add, cell_of_row _ _ _ _ _ _ hheap]
              exact g4 j w hw
        · rename_i r0 e0
          split at hap
          · rename_i hF
            cases hap
            have hk0 : 0 < news.length := by rw [hnl]; exact Nat.mul_pos (by omega) hpos
            obtain ⟨e', sz', hF', _, htag⟩ := k8
            rw [hF] at hF'; cases hF'
            obtain ⟨⟨_, hke, hkz⟩, hplace⟩ := htag rfl
            by_cases hroom : n + m ≤ cap
            · rcases hplace with h | ⟨hrm, cur, tb, hcur, hfit⟩
              · exact (no_room h hroom hm).elim
              · have hfit2 : off + n * i.size + ys.length ≤ cur.size := by
                  have : (n + m) * i.size ≤ cap * i.size := Nat.mul_le_mul_right _ hroom
                  rw [hyl]; rw [Nat.add_mul] at this; omega
                have hrun := run_append_room' (P := P) t ty e ht hi S.w g off n cap cur tb hcur ad m c ys hyl hk hone hroom hfit2
                generalize hcd : (cur.toList.take (off + n * i.size) ++ ys ++ cur.toList.drop (off + n * i.size + ys.length)).toArray = c' at hrun
                have hsz : c'.size = cur.size := by
                  rw [← hcd]
                  simp only [List.size_toArray, List.length_append, List.length_take, List.length_drop, Array.length_toList]
                  omega
                have hh := setRow_heap S.w g cur c' tb (0, 0) hcur
                have hwsz : (S.w.setRow g c').heap.size = S.w.heap.size := by simp [World.setRow]
                have hold : ∀ j, j < off + cs.length → c'[j]? = cur[j]? := by
                  intro j hj
                  rw [hb3] at hj
                  rw [← hcd]
                  simp only [List.getElem?_toArray, List.append_assoc]
                  rw [List.getElem?_append_left (by simp; omega), List.getElem?_take, if_pos hj]
                  simp
                obtain ⟨E, J⟩ := row_place I hrm hF hcur hh hsz hwsz (fun k hk => setRow_other S.w g k c' hk) hk0 (by rw [hb3, ← hL.length]; omega) hold
                refine ⟨S.row (S.w.setRow g c') r0 (g, off + cs.length + news.length) (e0 + news.length, i.size), rfl, rfl, rfl, ⟨E, J, ⟨rfl, rfl, rfl, Nat.le_of_eq hwsz.symm, fun k hk => setRow_other S.w g k c' (Nat.ne_of_lt (Nat.lt_of_lt_of_le hk (I.rowb _ _ _ hrm).1))⟩⟩, _, hrun, ?_⟩
                have hFl := (List.getElem?_eq_some_iff.1 hF).1
                have hrl := (List.getElem?_eq_some_iff.1 hrm).1
                refine own_rep (ys := zs ++ ys) (RepL.ext E (k4.append hL)) (fun c hc => ?_) hroom k2 hlen2 ?_ ?_ J hh (by rw [hsz]; exact hfit) (fun j w hw => ?_) (by rw [List.length_append]; omega) (fun h => hkz (by rw [List.length_append] at h; omega))
                · rcases List.mem_append.1 hc with hc | hc
                  · exact k7 (by simp) c hc
                  · exact hcl c hc
                · show (S.st.F.set r0 _)[r0]? = _
                  rw [List.getElem?_set_self hFl]
                · show (S.rm.set r0 _)[r0]? = _
                  rw [List.getElem?_set_self hrl, List.length_append, Nat.add_assoc]
                · show (S.w.setRow g c').cell? _ = _
                  rw [cell_of_row _ _ _ _ _ _ hh]
                  rcases Nat.lt_or_ge j zs.length with hj | hj
                  · rw [List.getElem?_append_left hj] at hw
                    rw [hold _ (by rw [k4.length] at hj; omega), ← cell_of_row S.w g _ cur tb (0, 0) hcur]
                    exact k5 j w hw
                  · rw [List.getElem?_append_right hj] at hw
                    have hj2 := (List.getElem?_eq_some_iff.1 hw).1
                    rw [← hcd]
                    simp only [List.getElem?_toArray, List.append_assoc]
                    rw [List.getElem?_append_right (by simp; omega), List.getElem?_append_left (by simp; omega)]
                    rw [← hw]
                    congr 1
                    simp; omega
            · obtain ⟨cells, cap2, g1, g2, g3, g4, g5⟩ := grow (by omega)
              obtain ⟨hheap, hle⟩ := moved g1 g3
              obtain ⟨E, J⟩ := row_moved I hF (keeps_drew_alloc S.w (.cells cells e)) (Nat.le_refl _) hheap hk0 hle
              have hFl := (List.getElem?_eq_some_iff.1 hF).1
              refine ⟨S.row (S.w.drew.alloc (.cells cells e)) r0 (S.w.heap.size, (cs ++ news).length) (e0 + news.length, i.size), rfl, rfl, rfl, ⟨E, J, below_drew_alloc I _⟩, _, g5, ?_⟩
              refine own_rep (ys := zs ++ ys) (RepL.ext E (k4.append hL)) (fun c hc => ?_) g1 g2 hlen2 ?_ ?_ J hheap (by rw [g3]; omega) (fun j w hw => ?_) (by first | exact Nat.le_refl _ | (rw [List.length_append]; omega)) (fun _ => rfl)
              · rcases List.mem_append.1 hc with hc | hc
                · exact k7 (by simp) c hc
                · exact hcl c hc
              · show (S.st.F.set r0 _)[r0]? = _
                rw [List.getElem?_set_self hFl]
              · show (S.rm.set r0 _)[r0]? = _
                rw [List.getElem?_set_self (by rw [I.rl]; exact hFl), Nat.zero_add]
              · show (S.w.drew.alloc (.cells cells e)).cell? _ = _
                rw [Nat.zero_add, cell_of_row _ _ _ _ _ _ hheap]
                exact g4 j w hw
          · cases hap
        · cases hap
    · cases hap

theorem op_append (I : Inv S) (hf : FrOk S fr a) {t e : TypeId} {i : TypeInfo} {z : List AV} {x y : Operand} {s1 s2 : SX} {u v r : AV} {st : St} (ho : o.op = .call { callee := .builtin .append, args := #[x, y], argTypes := #[t, t] }) (ht : P.underlying t = some (.slice e)) (hi : P.info? e = some i) (hz : zeroOf P e = some z) (hzl : z.length = i.size)
    (hx : stripX x = some s1) (hy : stripX y = some s2) (e1 : evX fr s1 = some u) (e2 : evX fr s2 = some v) (hap : opAppend S.st i.size i.bytes u v = some (r, st)) : OpRet P o a S r st := by
  have hu := stripX_rep hf hx e1
  have hv := stripX_rep hf hy e2
  generalize hxv : a.eval x = xv at hu
  generalize hyv : a.eval y = yv at hv
  have hexec : ∀ {r : Value} {w' : World}, (Builtin.append_ #[t, t] o.type #[xv, yv]).run P S.w = .ok r w' → (execOp a.eval o).run P S.w = .ok (.value r) w' := by
    intro r w' h
    simp [execOp, ho, resolve, invoke, builtin, hxv, hyv, h]
  have fin : ∀ {r : AV} {st : St}, AppRet P t o.type S xv yv r st → OpRet P o a S r st := by
    rintro r st ⟨S', a1, a2, a3, a4, y, a5, a6⟩
    exact ⟨S', a1, a2, a3, a4, .inl ⟨y, hexec a5, a6⟩⟩
  unfold opAppend at hap
  split at hap
  · cases hap
  · rename_i news m hsrc
    obtain ⟨ys, hL, hcl, hsv⟩ := src_rep I hv hsrc
    split at hap
    · rename_i hc0
      obtain ⟨hnl, hpos⟩ := hc0
      obtain ⟨i', zv, hi', hz1, hz2⟩ := zeroOf_inv hz
      rw [hi] at hi'; cases hi'
      obtain ⟨hzr, hzo⟩ := atomsOf_rep (S := S) hz2
      have hzs : zv.cells.size = i.size := by have := hzr.length; simp at this; omega
      have hyl : ys.length = m * i.size := by rw [hL.length, hnl]
      have hone := hL.oneCells (clean_one hcl)
      have zero : m = 0 → yv = .slice none 0 0 ∨ ∃ ad c, yv = .slice (some ad) 0 c := by
        intro hm
        rcases hsv with ⟨⟨q, h⟩, _⟩ | ⟨g, off, c, h, _⟩
        · cases q with
          | none => exact .inl h
          | some q => exact .inr ⟨_, _, h⟩
        · subst hm; exact .inr ⟨_, _, h⟩
      have full : m ≠ 0 → ∃ ad c, yv = .slice (some ad) m c ∧ ∀ j w, ys[j]? = some w → S.w.cell? (ad.add j) = some w := by
        intro hm
        rcases hsv with ⟨_, h⟩ | ⟨g, off, c, h, hk⟩
        · exact absurd h hm
        · exact ⟨_, c, h, fun j w hw => by rw [Addr_add]; exact hk j w hw⟩
      have e47 : most47 = 140737488355328 := rfl
      have e63 : maxLen = 9223372036854775807 := rfl
      split at hap
      · obtain ⟨rfl, _⟩ := hu.v_inv
        split at hap
        · rename_i hm
          cases hap
          exact OpRet.same I (hexec (run_append_zero t o.type e ht hi none 0 0 (Nat.le_refl _) yv (zero hm) S.w)) (.v rfl)
        · rename_i hm
          split at hap
          · rename_i hb
            cases hap
            obtain ⟨ad, c, rfl, hk⟩ := full hm
            have hrun := run_append_nil (P := P) S.w t o.type e i zv ht hi hz1 ad m c ys hyl hk (by omega) (by omega) (by omega)
            have hcap := grownCap_ge S.w m 0 e
            have hcm := grownCap_le_maxLen S.w m 0 e hb.2
            generalize hcd : grownCap S.w m 0 e = cap at *
            generalize hcell : (ys.toArray ++ Builtin.zeroCells zv.cells (cap - m)) = cells at *
            have hsz : cells.size = cap * i.size := by
              rw [← hcell]
              simp only [Array.size_append, List.size_toArray, size_zeroCells, hzs, hyl, ← Nat.add_mul]
              congr 1; omega
            have hheap : (S.w.drew.alloc (.cells cells e)).heap[S.w.heap.size]? = some (.cells cells e (0, 0)) := heap_alloc_new S.w.drew _
            obtain ⟨E, J⟩ := new_row I (keeps_drew_alloc S.w (.cells cells e)) (g := S.w.heap.size) (fl := news.length) (news.length, i.size) (Nat.le_refl _) hheap (by rw [hsz, hnl]; exact Nat.mul_le_mul_right _ hcap)
            refine ⟨S.addRow (S.w.drew.alloc (.cells cells e)) (S.w.heap.size, news.length) (news.length, i.size), ?_, rfl, rfl, ⟨E, J, below_drew_alloc I _⟩, .inl ⟨_, hexec hrun, ?_⟩⟩
            · simp [Sim.addRow]
            · refine own_rep (RepL.ext E hL) hcl hcap hcm hnl (by simp [Sim.addRow]) ?_ J hheap (by rw [hsz]; omega) (fun j w hw => ?_) (Nat.le_refl _) (fun _ => rfl)
              · show (S.rm ++ [_])[S.st.F.length]? = _
                rw [← I.rl, List.getElem?_append_right (Nat.le_refl _)]
                simp
              · show (S.w.drew.alloc (.cells cells e)).cell? _ = _
                rw [Nat.zero_add, cell_of_row _ _ _ _ _ _ hheap, ← hcell]
                have hj := (List.getElem?_eq_some_iff.1 hw).1
                rw [Array.getElem?_append, if_pos (by simpa using hj)]
                simpa using hw
          · cases hap
      · rename_i cs n tg
        have hap' : appSl S.st i.size i.bytes cs n tg news m = some (r, st) := hap
        exact fin (append_sl I ht hi hz hzl hu ⟨hL, hcl, hnl, hpos, zero, full⟩ hap')
      · rename_i b q n z'
        split at hap
        · rename_i hm
          cases hap
          cases hu with
          | hs k1 k2 k3 k4 k5 =>
            exact OpRet.same I (hexec (run_append_zero t o.type e ht hi _ _ _ k2 yv (zero hm) S.w)) (.hs k1 k2 k3 k4 k5)
        · rename_i hm
          split at hap
          · rename_i hb hH
            split at hap
            · rename_i hcond
              obtain ⟨hb1, hb2, rfl, hfz, hlen⟩ := hcond
              split at hap
              · rename_i cs hcs
                cases hap
                obtain ⟨S1, w1, s1, B1, A1, E1, J1, r1⟩ := thaw_ok I hu hH hfz hlen hcs
                have hst1 : Step S S1 := ⟨E1, J1, by rw [w1]; exact RowKit.Below.refl _ _⟩
                have hcl1 : cs.length = n * i.size := by
                  have := (cleanL_len hcs)
                  rw [List.length_drop] at this
                  omega
                have hap' : appSl S1.st i.size i.bytes cs n (.own S.st.F.length hb.cells.length) news m = some (.sl (cs ++ news) (n + m) (.own S.st.F.length (hb.cells.length + news.length)), { H := S.st.H.set b { hb with fz := true }, F := S.st.F ++ [(hb.cells.length + news.length, i.size)] }) := by
                  simp [appSl, hm, hb1, hb2, hcl1, s1]
                obtain ⟨S2, a1, a2, a3, a4, y2, a5, a6⟩ := append_sl (ty := o.type) J1 ht hi hz hzl r1 ⟨hL.ext E1, hcl, hnl, hpos, zero, fun h => let ⟨ad, c, g1, g2⟩ := full h; ⟨ad, c, g1, fun j w hw => by rw [w1]; exact g2 j w hw⟩⟩ hap'
                exact fin ⟨S2, a1, a2.trans B1, a3.trans A1, hst1.trans a4, y2, by rw [← w1]; exact a5, a6⟩
              · cases hap
            · cases hap
          · cases hap
      · cases hap
    · cases hap

end

end VS
end Go.Proofs.Ytbnhmahkgeaajaa
