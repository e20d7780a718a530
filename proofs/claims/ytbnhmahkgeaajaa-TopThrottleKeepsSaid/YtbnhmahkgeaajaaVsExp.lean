/- What goes out of a memory: slices of one's own blocks are frozen. -/
import Derived.Test.YtbnhmahkgeaajaaVsOps2
namespace Go.Proofs.Ytbnhmahkgeaajaa
namespace VS

theorem block_cells {S : Sim} (I : Inv S) {b : Nat} {hb : HB} (hH : S.st.H[b]? = some hb) : ∃ g ys, S.hm[b]? = some g ∧ RepL S hb.cells ys ∧ (∀ x ∈ hb.cells, x.one = true) ∧ ∀ i y, ys[i]? = some y → S.w.cell? ⟨g, 0 + i, none⟩ = some y := by
  obtain ⟨g, c, ty, hg, hc, hle, hl, h1, _⟩ := I.hm_of hH
  refine ⟨g, _, hg, hl, h1, fun i y hy => ?_⟩
  rw [Nat.zero_add, cell_of_row S.w g i c ty (0, 0) hc]
  rw [List.getElem?_take] at hy
  split at hy
  · simpa using hy
  · cases hy

/-- The same memory, more of it frozen. -/
structure Frz (S S' : Sim) (s1 : St) : Prop where
  w : S'.w = S.w
  st : S'.st = s1
  B : S'.B = S.B
  A : S'.A = S.A
  hm : S'.hm = S.hm
  rm : S'.rm = S.rm
  F : s1.F = S.st.F
  ext : Ext S S'
  inv : Inv S'

theorem Frz.refl {S : Sim} (I : Inv S) : Frz S S S.st := ⟨rfl, rfl, rfl, rfl, rfl, rfl, rfl, Ext.refl S, I⟩
theorem Frz.trans {S S1 S2 : Sim} {s1 s2 : St} (h : Frz S S1 s1) (k : Frz S1 S2 s2) : Frz S S2 s2 :=
  ⟨k.w.trans h.w, k.st, k.B.trans h.B, k.A.trans h.A, k.hm.trans h.hm, k.rm.trans h.rm, k.F.trans (by rw [h.st]; exact h.F), h.ext.trans k.ext, k.inv⟩

theorem Frz.step {S S' : Sim} {st : St} (h : Frz S S' st) : Step S S' := ⟨h.ext, h.inv, by rw [h.w]; exact RowKit.Below.refl _ _⟩

theorem exp0_rep {S : Sim} (I : Inv S) {a x : AV} {y : Value} {st1 : St} (h : exp0 S.st a = some (x, st1)) (hr : Rep S a y) : ∃ S1, Frz S S1 st1 ∧ Rep S1 x y ∧ clean1 x = some x := by
  unfold exp0 at h
  split at h
  · rename_i b q n sz
    split at h
    · rename_i hb hH
      split at h
      · rename_i hle
        split at h
        · rename_i cs hcl
          cases h
          cases hr with
          | hs k1 k2 k3 k4 k5 =>
            obtain ⟨E, J⟩ := freeze_ok I hH
            obtain ⟨g', ys, hg', hl, hone, hcell⟩ := block_cells I hH
            rw [k1] at hg'; cases hg'
            rename_i g p cap c ty
            obtain ⟨k6, k7⟩ := cleanL_rep hcl ((hl.drop q).take _)
            have hcl2 : cs.length = n * sz := by rw [← k6.length, List.length_take, List.length_drop, hl.length]; omega
            have hp : p ≤ q ∧ (n * sz = 0 ∨ p = q) := by
              rcases k5 with ⟨h, _⟩ | ⟨h, h'⟩
              · exact ⟨by omega, .inr h⟩
              · have : n = 0 := by omega
                subst this
                exact ⟨h', .inl (by omega)⟩
            refine ⟨S.frz b hb, ⟨rfl, rfl, rfl, rfl, rfl, rfl, rfl, E, J⟩, ?_, by simp [clean1]⟩
            refine .sl k2 k3 (safe_frz I hH k1 _ _ (by omega)) (k6.ext E) (fun i y hy => ?_) (clean_one k7) (fun _ => k7) trivial
            rw [List.getElem?_take] at hy
            split at hy
            · rename_i hi
              rcases hp.2 with h | h
              · omega
              · rw [List.getElem?_drop] at hy
                have := hcell _ _ hy
                rw [Nat.zero_add, ← h] at this
                exact this
            · cases hy
        · cases h
      · cases h
    · cases h
  · split at h
    · rename_i b hb
      cases h
      obtain ⟨k1, k2⟩ := clean1_rep hb hr
      exact ⟨S, Frz.refl I, k1, k2⟩
    · cases h

theorem expL_rep : ∀ {l m : List AV} {S : Sim} {ys : List Value} {st1 : St}, Inv S → expL S.st l = some (m, st1) → RepL S l ys → ∃ S1, Frz S S1 st1 ∧ RepL S1 m ys ∧ ∀ c ∈ m, clean1 c = some c
  | [], m, S, _, st1, I, h, .nil => by
    simp only [expL, Option.some.injEq, Prod.mk.injEq] at h
    obtain ⟨rfl, rfl⟩ := h
    exact ⟨S, Frz.refl I, .nil, by simp⟩
  | a :: r, m, S, _, st1, I, h, .cons hr hl => by
    simp only [expL] at h
    split at h
    · rename_i x s1 h1
      split at h
      · rename_i l s2 h2
        cases h
        obtain ⟨S1, f1, r1, c1⟩ := exp0_rep I h1 hr
        obtain ⟨S2, f2, r2, c2⟩ := expL_rep (S := S1) f1.inv (by rw [f1.st]; exact h2) (hl.ext f1.ext)
        exact ⟨S2, f1.trans f2, .cons (r1.ext f2.ext) r2, by simpa using ⟨c1, c2⟩⟩
      · cases h
    · cases h

end VS
end Go.Proofs.Ytbnhmahkgeaajaa
