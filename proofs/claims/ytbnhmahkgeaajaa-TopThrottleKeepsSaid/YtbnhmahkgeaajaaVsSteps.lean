/- The steps of a state: a block is frozen, a variable is written, a row is appended to (in its place, or in a new one): the invariant stands, and what was represented stays so. -/
import Derived.Test.YtbnhmahkgeaajaaVsRel
namespace Go.Proofs.Ytbnhmahkgeaajaa
namespace VS

theorem getElem?_set_cases {α : Type} {l : List α} {i j : Nat} {a x : α} (h : (l.set i a)[j]? = some x) : (j = i ∧ x = a) ∨ (j ≠ i ∧ l[j]? = some x) := by
  rw [List.getElem?_set] at h
  split at h
  · split at h
    · simp only [Option.some.injEq] at h; exact .inl ⟨by omega, h.symm⟩
    · cases h
  · exact .inr ⟨by omega, h⟩

theorem getElem?_set_ne' {α : Type} {l : List α} {i j : Nat} {a : α} (h : j ≠ i) : (l.set i a)[j]? = l[j]? := by
  rw [List.getElem?_set, if_neg (by omega)]

/-- One block is changed, and what is noted of it. -/
theorem Ext.block {S : Sim} (I : Inv S) {w' : World} {b g : Nat} {hb hb' : HB} {c c' : Array Value} {ty : TypeId} (hg : S.hm[b]? = some g) (hH : S.st.H[b]? = some hb)
    (hc : S.w.heap[g]? = some (.cells c ty (0, 0))) (hc' : w'.heap[g]? = some (.cells c' ty (0, 0))) (hsz : c'.size = c.size) (hs : w'.heap.size = S.w.heap.size)
    (ho : ∀ k, k ≠ g → w'.heap[k]? = S.w.heap[k]?) (hfz : hb.fz = true → hb'.fz = true ∧ c' = c ∧ hb'.cells.length = hb.cells.length) :
    Ext S { S with w := w', st := { S.st with H := S.st.H.set b hb' } } := by
  refine ⟨rfl, rfl, fun _ _ h => h, fun g1 lo k h => ?_, fun g1 lo k h i hi => ?_, fun t k n g1 off cap ht => ?_, fun b1 g1 c1 ty1 hb1 hc1 => ?_⟩
  · refine ⟨h.1, by show g1 < w'.heap.size; rw [hs]; exact h.2.1, fun b1 hb1 => ?_, h.2.2.2⟩
    obtain ⟨x, hx, hf⟩ := h.2.2.1 b1 hb1
    by_cases he : b1 = b
    · subst he
      rw [hH] at hx; cases hx
      exact ⟨hb', by show (S.st.H.set b1 hb')[b1]? = _; rw [List.getElem?_set_self (List.getElem?_eq_some_iff.1 hH).1], (hfz hf).1⟩
    · exact ⟨x, by show (S.st.H.set b hb')[b1]? = _; rw [getElem?_set_ne' he]; exact hx, hf⟩
  · by_cases he : g1 = g
    · subst he
      obtain ⟨x, hx, hf⟩ := h.2.2.1 b hg
      rw [hH] at hx; cases hx
      rw [(hfz hf).2.1] at hc'
      exact World.cell?_of_block (by rw [hc', hc])
    · exact World.cell?_of_block (ho g1 he)
  · cases t with
    | own r e =>
      obtain ⟨e1, sz, hF, hle, hx⟩ := ht
      refine ⟨e1, sz, hF, hle, fun he => ?_⟩
      obtain ⟨h1, h2⟩ := hx he
      refine ⟨h1, h2.imp id ?_⟩
      rintro ⟨h3, c1, ty1, h4, h5⟩
      refine ⟨h3, c1, ty1, ?_, h5⟩
      by_cases he : g1 = g
      · subst he
        obtain ⟨x, hx, hf, _⟩ := I.disj b r g1 _ hg h3
        rw [hH] at hx; cases hx
        rw [(hfz hf).2.1] at hc'
        show w'.heap[g1]? = _
        rw [hc', ← hc]; exact h4
      · show w'.heap[g1]? = _
        rw [ho g1 he]; exact h4
    | full => exact ht
    | ro => trivial
    | ptrs => trivial
  · by_cases he : g1 = g
    · subst he
      rw [hc] at hc1; cases hc1
      exact ⟨c', hc', hsz⟩
    · exact ⟨c1, by rw [ho g1 he]; exact hc1, rfl⟩

theorem Inv.block {S : Sim} (I : Inv S) {w' : World} {b g : Nat} {hb hb' : HB} {c c' : Array Value} {ty : TypeId} (hg : S.hm[b]? = some g) (hH : S.st.H[b]? = some hb)
    (hc : S.w.heap[g]? = some (.cells c ty (0, 0))) (hc' : w'.heap[g]? = some (.cells c' ty (0, 0))) (hsz : c'.size = c.size) (hs : w'.heap.size = S.w.heap.size)
    (ho : ∀ k, k ≠ g → w'.heap[k]? = S.w.heap[k]?) (hfz : hb.fz = true → hb'.fz = true ∧ c' = c ∧ hb'.cells.length = hb.cells.length)
    (hle : hb'.cells.length ≤ c'.size) (hl : RepL S hb'.cells (c'.toList.take hb'.cells.length)) (h1 : ∀ x ∈ hb'.cells, x.one = true) :
    Inv { S with w := w', st := { S.st with H := S.st.H.set b hb' } } := by
  have E := Ext.block I (hb' := hb') hg hH hc hc' hsz hs ho hfz
  refine ⟨by show S.B ≤ w'.heap.size; rw [hs]; exact I.hB, by simp [I.hl], I.rl, fun b1 g1 hb1 => ?_, fun r g1 fl hr => ?_, I.dist, I.distr, fun b1 r g1 fl hb1 hr => ?_, I.acl⟩
  · obtain ⟨h2, x, c1, ty1, hx, hc1, hle1, hl1, ho1⟩ := I.blk b1 g1 hb1
    refine ⟨h2, ?_⟩
    by_cases he : b1 = b
    · subst he
      change S.hm[b1]? = some g1 at hb1
      rw [hg] at hb1; cases hb1
      exact ⟨hb', c', ty, by show (S.st.H.set b1 hb')[b1]? = _; rw [List.getElem?_set_self (List.getElem?_eq_some_iff.1 hH).1], hc', hle, RepL.ext E hl, h1⟩
    · refine ⟨x, c1, ty1, by show (S.st.H.set b hb')[b1]? = _; rw [getElem?_set_ne' he]; exact hx, ?_, hle1, RepL.ext E hl1, ho1⟩
      show w'.heap[g1]? = _
      rw [ho g1 (fun h => he (I.dist b1 b g (h ▸ hb1) hg))]; exact hc1
  · obtain ⟨h2, c1, ty1, hc1, hle1⟩ := I.rowb r g1 fl hr
    refine ⟨h2, c1, ty1, ?_, hle1⟩
    show w'.heap[g1]? = _
    by_cases he : g1 = g
    · subst he
      obtain ⟨x, hx, hf, _⟩ := I.disj b r g1 _ hg hr
      rw [hH] at hx; cases hx
      rw [(hfz hf).2.1] at hc'
      rw [hc', ← hc]; exact hc1
    · rw [ho g1 he]; exact hc1
  · obtain ⟨x, hx, hf, hle1⟩ := I.disj b1 r g1 fl hb1 hr
    by_cases he : b1 = b
    · subst he
      rw [hH] at hx; cases hx
      exact ⟨hb', by show (S.st.H.set b1 hb')[b1]? = _; rw [List.getElem?_set_self (List.getElem?_eq_some_iff.1 hH).1], (hfz hf).1, by rw [(hfz hf).2.2]; exact hle1⟩
    · exact ⟨x, by show (S.st.H.set b hb')[b1]? = _; rw [getElem?_set_ne' he]; exact hx, hf, hle1⟩

theorem Inv.hm_of {S : Sim} (I : Inv S) {b : Nat} {hb : HB} (hH : S.st.H[b]? = some hb) : ∃ g c ty, S.hm[b]? = some g ∧ S.w.heap[g]? = some (.cells c ty (0, 0)) ∧ hb.cells.length ≤ c.size ∧
    RepL S hb.cells (c.toList.take hb.cells.length) ∧ (∀ x ∈ hb.cells, x.one = true) ∧ S.B ≤ g := by
  have hlt : b < S.hm.length := by rw [I.hl]; exact (List.getElem?_eq_some_iff.1 hH).1
  have hg : S.hm[b]? = some S.hm[b] := by simp [hlt]
  obtain ⟨h1, x, c, ty, hx, hc, hle, hl, ho⟩ := I.blk b _ hg
  rw [hH] at hx; cases hx
  exact ⟨_, c, ty, hg, hc, hle, hl, ho, h1⟩

def Sim.frz (S : Sim) (b : Nat) (hb : HB) : Sim := { S with st := S.st.freeze b hb }

theorem freeze_ok {S : Sim} (I : Inv S) {b : Nat} {hb : HB} (hH : S.st.H[b]? = some hb) : Ext S (S.frz b hb) ∧ Inv (S.frz b hb) := by
  obtain ⟨g, c, ty, hg, hc, hle, hl, ho, _⟩ := I.hm_of hH
  have E := Ext.block I (w' := S.w) (hb' := { hb with fz := true }) hg hH hc hc rfl rfl (fun _ _ => rfl) (fun _ => ⟨rfl, rfl, rfl⟩)
  have J := Inv.block I (w' := S.w) (hb' := { hb with fz := true }) hg hH hc hc rfl rfl (fun _ _ => rfl) (fun _ => ⟨rfl, rfl, rfl⟩) hle hl ho
  exact ⟨E, J⟩

/-- A frozen block's cells are safe. -/
theorem safe_frz {S : Sim} (I : Inv S) {b g : Nat} {hb : HB} (hH : S.st.H[b]? = some hb) (hg : S.hm[b]? = some g) (lo k : Nat) (hfit : lo + k ≤ hb.cells.length) : (S.frz b hb).safe g lo k := by
  obtain ⟨g', c, ty, hg', hc, _, _, _, hB⟩ := I.hm_of hH
  rw [hg] at hg'; cases hg'
  refine ⟨fun h => absurd h (Nat.not_lt.2 hB), heap_lt hc, fun b1 hb1 => ?_, fun r fl hr => ?_⟩
  rotate_left
  · obtain ⟨x, hx, _, hle⟩ := I.disj b r g fl hg hr
    rw [hH] at hx; cases hx
    omega
  have : b1 = b := I.dist b1 b g hb1 hg
  subst this
  exact ⟨{ hb with fz := true }, by show (S.st.H.set b1 { hb with fz := true })[b1]? = _; rw [List.getElem?_set_self (List.getElem?_eq_some_iff.1 hH).1], rfl⟩

/-- A row's new place and its new virtual end. -/
def Sim.row (S : Sim) (w' : World) (r : Nat) (p : Nat × Nat) (f : Nat × Nat) : Sim := { S with w := w', rm := S.rm.set r p, st := { S.st with F := S.st.F.set r f } }

/-- Appended in its place. -/
theorem row_place {S : Sim} (I : Inv S) {w' : World} {r g fl e sz k : Nat} {c c' : Array Value} {ty : TypeId} (hr : S.rm[r]? = some (g, fl)) (hF : S.st.F[r]? = some (e, sz))
    (hc : S.w.heap[g]? = some (.cells c ty (0, 0))) (hc' : w'.heap[g]? = some (.cells c' ty (0, 0))) (hsz : c'.size = c.size) (hs : w'.heap.size = S.w.heap.size)
    (ho : ∀ k, k ≠ g → w'.heap[k]? = S.w.heap[k]?) (hk : 0 < k) (hfit : fl + k ≤ c.size) (hold : ∀ i, i < fl → c'[i]? = c[i]?) :
    Ext S (S.row w' r (g, fl + k) (e + k, sz)) ∧ Inv (S.row w' r (g, fl + k) (e + k, sz)) := by
  have hrl := (List.getElem?_eq_some_iff.1 hr).1
  have hFl := (List.getElem?_eq_some_iff.1 hF).1
  have E : Ext S (S.row w' r (g, fl + k) (e + k, sz)) := by
    refine ⟨rfl, rfl, fun _ _ h => h, fun g1 lo j h => ?_, fun g1 lo j h i hi => ?_, fun t j n g1 off cap ht => ?_, fun b1 g1 c1 ty1 hb1 hc1 => ?_⟩
    · refine ⟨h.1, by show g1 < w'.heap.size; rw [hs]; exact h.2.1, h.2.2.1, fun r1 fl1 hr1 => ?_⟩
      rcases getElem?_set_cases hr1 with ⟨rfl, he⟩ | ⟨hne, hr1⟩
      · cases he
        have := h.2.2.2 r1 fl hr
        omega
      · exact h.2.2.2 r1 fl1 hr1
    · by_cases he : g1 = g
      · subst he
        have := h.2.2.2 r fl hr
        show w'.cell? _ = _
        rw [cell_of_row w' g1 (lo + i) c' ty (0, 0) hc', cell_of_row S.w g1 (lo + i) c ty (0, 0) hc]
        exact hold _ (by omega)
      · exact World.cell?_of_block (ho g1 he)
    · cases t with
      | own r1 e1 =>
        obtain ⟨e2, sz2, hF2, hle, hx⟩ := ht
        by_cases her : r1 = r
        · subst her
          rw [hF] at hF2; cases hF2
          exact ⟨e + k, sz, by show (S.st.F.set r1 (e + k, sz))[r1]? = _; rw [List.getElem?_set_self hFl], by omega, fun he => by omega⟩
        · refine ⟨e2, sz2, by show (S.st.F.set r (e + k, sz))[r1]? = _; rw [getElem?_set_ne' her]; exact hF2, hle, fun he => ?_⟩
          obtain ⟨h1, h2⟩ := hx he
          refine ⟨h1, h2.imp id ?_⟩
          rintro ⟨h3, c1, ty1, h4, h5⟩
          refine ⟨by show (S.rm.set r (g, fl + k))[r1]? = _; rw [getElem?_set_ne' her]; exact h3, c1, ty1, ?_, h5⟩
          show w'.heap[g1]? = _
          rw [ho g1 (fun h => her (I.distr r1 r g _ _ (h ▸ h3) hr))]; exact h4
      | full => exact ht
      | ro => trivial
      | ptrs => trivial
    · by_cases he : g1 = g
      · subst he; rw [hc] at hc1; cases hc1; exact ⟨c', hc', hsz⟩
      · exact ⟨c1, by show w'.heap[g1]? = _; rw [ho g1 he]; exact hc1, rfl⟩
  refine ⟨E, by show S.B ≤ w'.heap.size; rw [hs]; exact I.hB, I.hl, by simp [Sim.row, I.rl], fun b1 g1 hb1 => ?_, fun r1 g1 fl1 hr1 => ?_, I.dist, fun r1 r2 g1 f1 f2 h1 h2 => ?_, fun b1 r1 g1 fl1 hb1 hr1 => ?_, I.acl⟩
  · obtain ⟨h2, x, c1, ty1, hx, hc1, hle1, hl1, ho1⟩ := I.blk b1 g1 hb1
    by_cases he : g1 = g
    · subst he
      rw [hc] at hc1; cases hc1
      obtain ⟨x', hx', _, hle2⟩ := I.disj b1 r g1 fl hb1 hr
      rw [hx] at hx'; cases hx'
      refine ⟨h2, x, c', ty, hx, hc', by omega, ?_, ho1⟩
      have e : c'.toList.take x.cells.length = c.toList.take x.cells.length := by
        apply List.ext_getElem?
        intro i
        simp only [List.getElem?_take]
        split
        · rw [Array.getElem?_toList, Array.getElem?_toList]; exact hold i (by omega)
        · rfl
      rw [e]
      exact RepL.ext E hl1
    · refine ⟨h2, x, c1, ty1, hx, ?_, hle1, RepL.ext E hl1, ho1⟩
      show w'.heap[g1]? = _
      rw [ho g1 he]; exact hc1
  · rcases getElem?_set_cases hr1 with ⟨rfl, he⟩ | ⟨hne, hr1⟩
    · cases he
      exact ⟨(I.rowb r1 g fl hr).1, c', ty, hc', by omega⟩
    · obtain ⟨h2, c1, ty1, hc1, hle1⟩ := I.rowb r1 g1 fl1 hr1
      refine ⟨h2, c1, ty1, ?_, hle1⟩
      show w'.heap[g1]? = _
      rw [ho g1 (fun h => hne (I.distr r1 r g _ _ (h ▸ hr1) hr))]; exact hc1
  · rcases getElem?_set_cases h1 with ⟨rfl, he1⟩ | ⟨hne1, k1⟩ <;> rcases getElem?_set_cases h2 with ⟨he, he2⟩ | ⟨hne2, k2⟩
    · exact he.symm
    · cases he1; exact I.distr _ _ _ _ _ hr k2
    · cases he2; subst he; exact I.distr _ _ _ _ _ k1 hr
    · exact I.distr _ _ _ _ _ k1 k2
  · rcases getElem?_set_cases hr1 with ⟨rfl, he⟩ | ⟨hne, hr1⟩
    · cases he
      obtain ⟨x, h1, h2, h3⟩ := I.disj _ _ _ _ hb1 hr
      exact ⟨x, h1, h2, by omega⟩
    · exact I.disj _ _ _ _ hb1 hr1

/-- Appended in a new place. -/
theorem row_moved {S : Sim} (I : Inv S) {w' : World} {r e sz k g' fl' : Nat} {c' : Array Value} {ty : TypeId} (hF : S.st.F[r]? = some (e, sz)) (hkeep : Keeps S.w w')
    (hg' : S.w.heap.size ≤ g') (hc' : w'.heap[g']? = some (.cells c' ty (0, 0))) (hk : 0 < k) (hfit : fl' ≤ c'.size) :
    Ext S (S.row w' r (g', fl') (e + k, sz)) ∧ Inv (S.row w' r (g', fl') (e + k, sz)) := by
  have hFl := (List.getElem?_eq_some_iff.1 hF).1
  have hrl : r < S.rm.length := by rw [I.rl]; exact hFl
  have E : Ext S (S.row w' r (g', fl') (e + k, sz)) := by
    refine ⟨rfl, rfl, fun _ _ h => h, fun g1 lo j h => ?_, fun g1 lo j h i hi => hkeep.cell h.2.1, fun t j n g1 off cap ht => ?_, fun b1 g1 c1 ty1 hb1 hc1 => ⟨c1, ?_, rfl⟩⟩
    · refine ⟨h.1, Nat.lt_of_lt_of_le h.2.1 hkeep.1, h.2.2.1, fun r1 fl1 hr1 => ?_⟩
      rcases getElem?_set_cases hr1 with ⟨rfl, he⟩ | ⟨hne, hr1⟩
      · cases he
        have := h.2.1
        omega
      · exact h.2.2.2 r1 fl1 hr1
    · cases t with
      | own r1 e1 =>
        obtain ⟨e2, sz2, hF2, hle, hx⟩ := ht
        by_cases her : r1 = r
        · subst her
          rw [hF] at hF2; cases hF2
          exact ⟨e + k, sz, by show (S.st.F.set r1 (e + k, sz))[r1]? = _; rw [List.getElem?_set_self hFl], by omega, fun he => by omega⟩
        · refine ⟨e2, sz2, by show (S.st.F.set r (e + k, sz))[r1]? = _; rw [getElem?_set_ne' her]; exact hF2, hle, fun he => ?_⟩
          obtain ⟨h1, h2⟩ := hx he
          refine ⟨h1, h2.imp id ?_⟩
          rintro ⟨h3, c1, ty1, h4, h5⟩
          refine ⟨by show (S.rm.set r (g', fl'))[r1]? = _; rw [getElem?_set_ne' her]; exact h3, c1, ty1, ?_, h5⟩
          show w'.heap[g1]? = _
          rw [hkeep.2 g1 (heap_lt h4)]; exact h4
      | full => exact ht
      | ro => trivial
      | ptrs => trivial
    · show w'.heap[g1]? = _
      rw [hkeep.2 g1 (heap_lt hc1)]; exact hc1
  refine ⟨E, Nat.le_trans I.hB hkeep.1, I.hl, by simp [Sim.row, I.rl], fun b1 g1 hb1 => ?_, fun r1 g1 fl1 hr1 => ?_, I.dist, fun r1 r2 g1 f1 f2 h1 h2 => ?_, fun b1 r1 g1 fl1 hb1 hr1 => ?_, I.acl⟩
  · obtain ⟨h2, x, c1, ty1, hx, hc1, hle1, hl1, ho1⟩ := I.blk b1 g1 hb1
    refine ⟨h2, x, c1, ty1, hx, ?_, hle1, RepL.ext E hl1, ho1⟩
    show w'.heap[g1]? = _
    rw [hkeep.2 g1 (heap_lt hc1)]; exact hc1
  · rcases getElem?_set_cases hr1 with ⟨rfl, he⟩ | ⟨hne, hr1⟩
    · cases he
      exact ⟨Nat.le_trans I.hB hg', c', ty, hc', hfit⟩
    · obtain ⟨h2, c1, ty1, hc1, hle1⟩ := I.rowb r1 g1 fl1 hr1
      refine ⟨h2, c1, ty1, ?_, hle1⟩
      show w'.heap[g1]? = _
      rw [hkeep.2 g1 (heap_lt hc1)]; exact hc1
  · have old : ∀ r g fl, S.rm[r]? = some (g, fl) → g < S.w.heap.size := fun r g fl h => by
      obtain ⟨_, c1, ty1, hc1, _⟩ := I.rowb r g fl h
      exact heap_lt hc1
    rcases getElem?_set_cases h1 with ⟨rfl, he1⟩ | ⟨hne1, h1⟩ <;> rcases getElem?_set_cases h2 with ⟨he, he2⟩ | ⟨hne2, h2⟩
    · exact he.symm
    · cases he1; have := old _ _ _ h2; omega
    · cases he2; have := old _ _ _ h1; omega
    · exact I.distr _ _ _ _ _ h1 h2
  · rcases getElem?_set_cases hr1 with ⟨rfl, he⟩ | ⟨hne, hr1⟩
    · cases he
      obtain ⟨_, _, c1, _, _, hc1, _⟩ := I.blk _ _ hb1
      have := heap_lt hc1
      omega
    · exact I.disj _ _ _ _ hb1 hr1

/-- A new block of variables. -/
theorem new_block {S : Sim} (I : Inv S) {cells : List AV} {ys : List Value} (e : TypeId) (hl : RepL S cells ys) (h1 : ∀ x ∈ cells, x.one = true) :
    let S' : Sim := { S with w := S.w.alloc (.cells ys.toArray e), hm := S.hm ++ [S.w.heap.size], rm := S.rm ++ [], st := { H := S.st.H ++ [{ cells := cells, fz := false }], F := S.st.F ++ [] } }
    Ext S S' ∧ Inv S' := by
  intro S'
  have hk := Keeps.alloc S.w (.cells ys.toArray e)
  have E : Ext S S' := Ext.grow hk (by simp) (by simp)
  refine ⟨E, Inv.grow I hk (by simp) (by simp) rfl rfl (by simp) (by simp) (by simp) ?_ (by simp)⟩
  intro j g hj
  have : j = 0 ∧ g = S.w.heap.size := by
    cases j with
    | zero => simp at hj; exact ⟨rfl, hj.symm⟩
    | succ j => simp at hj
  obtain ⟨rfl, rfl⟩ := this
  refine ⟨{ cells := cells, fz := false }, ys.toArray, e, rfl, heap_alloc_new S.w _, by simp [hl.length], ?_, h1⟩
  have : (ys.toArray.toList.take cells.length) = ys := by rw [← hl.length]; simp
  rw [this]
  exact RepL.ext E hl

/-- A new row. -/
theorem new_row {S : Sim} (I : Inv S) {w' : World} (hk : Keeps S.w w') {g fl : Nat} {c : Array Value} {ty : TypeId} (f : Nat × Nat) (hg : S.w.heap.size ≤ g) (hc : w'.heap[g]? = some (.cells c ty (0, 0))) (hfl : fl ≤ c.size) :
    let S' : Sim := { S with w := w', hm := S.hm ++ [], rm := S.rm ++ [(g, fl)], st := { H := S.st.H ++ [], F := S.st.F ++ [f] } }
    Ext S S' ∧ Inv S' := by
  intro S'
  have E : Ext S S' := Ext.grow hk (by simp) (by simpa using hg)
  exact ⟨E, Inv.grow I hk (by simp) (by simpa using hg) rfl rfl (by simp) (by simp) (by simp) (by simp) (fun p hp => by simp at hp; subst hp; exact ⟨c, ty, hc, hfl⟩)⟩

end VS
end Go.Proofs.Ytbnhmahkgeaajaa
