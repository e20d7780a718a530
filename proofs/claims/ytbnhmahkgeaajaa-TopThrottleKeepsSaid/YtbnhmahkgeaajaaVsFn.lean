/- Functions: their arguments, their memory, their results. -/
import Derived.Test.YtbnhmahkgeaajaaVsCode
namespace Go.Proofs.Ytbnhmahkgeaajaa
namespace VS

/-- A value that carries no room and no address of one's own. -/
def AV.Clean (x : AV) : Prop := clean1 x = some x ∨ ∃ cs, x = .agg cs ∧ ∀ c ∈ cs, clean1 c = some c

mutual
/-- A clean value in another memory that reads alike. -/
theorem Rep.move {S S' : Sim} (hs : ∀ g lo k, S.safe g lo k → S'.safe g lo k) (hc : ∀ g lo k, S.safe g lo k → ∀ i, i < k → S'.w.cell? ⟨g, lo + i, none⟩ = S.w.cell? ⟨g, lo + i, none⟩) :
    ∀ {a : AV} {y : Value}, Rep S a y → clean1 a = some a → Rep S' a y
  | _, _, .v h, _ => .v h
  | _, _, @Rep.sl _ cs n t g off cap ys h1 h2 h3 hl h5 ho hk ht, hcl => by
      have hne : t ≠ .ptrs := by intro h; subst h; simp [clean1] at hcl
      have hro : t = .ro := by simp only [clean1, if_neg hne, Option.some.injEq, AV.sl.injEq, true_and] at hcl; exact hcl.symm
      subst hro
      exact .sl h1 h2 (hs _ _ _ h3) (RepL.move hs hc hl (hk hne)) (fun i y hy => (hc _ _ _ h3 i (by rw [← hl.length]; exact (List.getElem?_eq_some_iff.1 hy).1)).trans (h5 i y hy)) ho hk trivial
  | _, _, .agg _ _, hcl => by simp [clean1] at hcl
  | _, _, .tup _, hcl => by simp [clean1] at hcl
  | _, _, .ptr _, hcl => by simp [clean1] at hcl
  | _, _, .ep _ _ _ _, hcl => by simp [clean1] at hcl
  | _, _, .hs _ _ _ _ _, hcl => by simp [clean1] at hcl
  | _, _, @Rep.fn _ f caps ys hl, hcl => by
      cases hl with
      | nil => exact .fn .nil
      | cons => simp [clean1] at hcl
  | _, _, .ifc _, hcl => by simp [clean1] at hcl
theorem RepL.move {S S' : Sim} (hs : ∀ g lo k, S.safe g lo k → S'.safe g lo k) (hc : ∀ g lo k, S.safe g lo k → ∀ i, i < k → S'.w.cell? ⟨g, lo + i, none⟩ = S.w.cell? ⟨g, lo + i, none⟩) :
    ∀ {l : List AV} {m : List Value}, RepL S l m → (∀ c ∈ l, clean1 c = some c) → RepL S' l m
  | _, _, .nil, _ => .nil
  | _, _, .cons h1 h2, h => .cons (Rep.move hs hc h1 (h _ (List.mem_cons_self ..))) (RepL.move hs hc h2 fun c hc' => h c (List.mem_cons_of_mem _ hc'))
end

theorem Rep.moveC {S S' : Sim} (hs : ∀ g lo k, S.safe g lo k → S'.safe g lo k) (hc : ∀ g lo k, S.safe g lo k → ∀ i, i < k → S'.w.cell? ⟨g, lo + i, none⟩ = S.w.cell? ⟨g, lo + i, none⟩)
    {a : AV} {y : Value} (h : Rep S a y) (hcl : a.Clean) : Rep S' a y := by
  rcases hcl with hcl | ⟨cs, rfl, hcl⟩
  · exact h.move hs hc hcl
  · cases h with
    | agg hl ho => exact .agg (hl.move hs hc hcl) ho

theorem RepL.moveC {S S' : Sim} (hs : ∀ g lo k, S.safe g lo k → S'.safe g lo k) (hc : ∀ g lo k, S.safe g lo k → ∀ i, i < k → S'.w.cell? ⟨g, lo + i, none⟩ = S.w.cell? ⟨g, lo + i, none⟩) :
    ∀ {l : List AV} {m : List Value}, RepL S l m → (∀ c ∈ l, c.Clean) → RepL S' l m
  | _, _, .nil, _ => .nil
  | _, _, .cons h1 h2, h => .cons (h1.moveC hs hc (h _ (List.mem_cons_self ..))) (RepL.moveC hs hc h2 fun c hc' => h c (List.mem_cons_of_mem _ hc'))

theorem exp1_rep {S : Sim} (I : Inv S) {a x : AV} {y : Value} {st1 : St} (h : exp1 S.st a = some (x, st1)) (hr : Rep S a y) : ∃ S1, Frz S S1 st1 ∧ Rep S1 x y ∧ x.Clean := by
  unfold exp1 at h
  split at h
  · split at h
    · rename_i l s1 h1
      cases h
      cases hr with
      | agg hl ho =>
        obtain ⟨S1, f1, r1, c1⟩ := expL_rep I h1 hl
        exact ⟨S1, f1, .agg r1 (clean_one c1), .inr ⟨_, rfl, c1⟩⟩
    · cases h
  · obtain ⟨S1, f1, r1, c1⟩ := exp0_rep I h hr
    exact ⟨S1, f1, r1, .inl c1⟩

theorem expA_rep : ∀ {l m : List AV} {S : Sim} {ys : List Value} {st1 : St}, Inv S → expA S.st l = some (m, st1) → RepL S l ys → ∃ S1, Frz S S1 st1 ∧ RepL S1 m ys ∧ ∀ c ∈ m, c.Clean
  | [], m, S, _, st1, I, h, .nil => by
    simp only [expA, Option.some.injEq, Prod.mk.injEq] at h
    obtain ⟨rfl, rfl⟩ := h
    exact ⟨S, Frz.refl I, .nil, by simp⟩
  | a :: r, m, S, _, st1, I, h, .cons hr hl => by
    simp only [expA] at h
    split at h
    · rename_i x s1 h1
      split at h
      · rename_i l s2 h2
        cases h
        obtain ⟨S1, f1, r1, c1⟩ := exp1_rep I h1 hr
        obtain ⟨S2, f2, r2, c2⟩ := expA_rep (S := S1) f1.inv (by rw [f1.st]; exact h2) (hl.ext f1.ext)
        exact ⟨S2, f1.trans f2, .cons (r1.ext f2.ext) r2, by simpa using ⟨c1, c2⟩⟩
      · cases h
    · cases h

/-- A result, carried out of a callee's memory. -/
theorem expR_rep {S S2 : Sim} (I : Inv S) {a x : AV} {y : Value} (h : expR S.st a = some x) (hr : Rep S a y)
    (hs : ∀ S1 st1, Frz S S1 st1 → ∀ g lo k, S1.safe g lo k → S2.safe g lo k) (hw : S2.w = S.w) : Rep S2 x y := by
  have hc : ∀ S1 st1, Frz S S1 st1 → ∀ g lo k, S1.safe g lo k → ∀ i, i < k → S2.w.cell? ⟨g, lo + i, none⟩ = S1.w.cell? ⟨g, lo + i, none⟩ := fun S1 st1 f g lo k _ i _ => by rw [hw, f.w]
  unfold expR at h
  split at h
  · rw [Option.map_eq_some_iff] at h
    obtain ⟨p, hp, rfl⟩ := h
    cases hr with
    | tup hl =>
      obtain ⟨S1, f, r, c⟩ := expA_rep (m := p.1) (st1 := p.2) I hp hl
      exact .tup (r.moveC (hs _ _ f) (hc _ _ f) c)
  · rw [Option.map_eq_some_iff] at h
    obtain ⟨p, hp, rfl⟩ := h
    cases hr with
    | ifc hx =>
      obtain ⟨S1, f, r, c⟩ := exp1_rep (x := p.1) (st1 := p.2) I hp hx
      exact .ifc (r.moveC (hs _ _ f) (hc _ _ f) c)
  · rw [Option.map_eq_some_iff] at h
    obtain ⟨p, hp, rfl⟩ := h
    obtain ⟨S1, f, r, c⟩ := exp1_rep (x := p.1) (st1 := p.2) I hp hr
    exact r.moveC (hs _ _ f) (hc _ _ f) c

section
variable {P : Program}

def resOf (tmps : Array Value) (r : ResultVar) : Sem Value := match r with
  | .tmp t => pure (tmps.getD t undef)
  | .cell a t => do loadVar t (← asAddr (tmps.getD a undef))

theorem takeRes_run {S : Sim} (I : Inv S) {l : List (Nat × AV)} {tmps : Array Value} (hl : ∀ (i : Nat) (x : AV), look l i = some x → ∃ y, tmps[i]? = some y ∧ Rep S x y) {r : ResultVar} {sr : SRes} {rs : List SRes}
    (hs : stripRes P [r] = some (sr :: rs)) {x : AV} (h : takeRes l S.st.H sr = some x) :
    ∃ y, (resOf tmps r).run P S.w = .ok y S.w ∧ Rep S x y := by
  cases r with
  | tmp t =>
    simp only [stripRes, Option.map_some, Option.some.injEq, List.cons.injEq] at hs
    obtain ⟨rfl, rfl⟩ := hs
    simp only [takeRes] at h
    obtain ⟨y, h1, h2⟩ := hl _ _ h
    exact ⟨y, by simp [resOf, Array.getD_eq_getD_getElem?, h1], h2⟩
  | cell a t =>
    simp only [stripRes] at hs
    split at hs
    · rename_i k l' hk hl'
      cases hl'
      cases hs
      simp only [takeRes] at h
      split at h
      · rename_i b off hla
        split at h
        · rename_i hb hH
          obtain ⟨y, h1, h2⟩ := hl _ _ hla
          cases h2 with
          | ptr hg =>
            obtain ⟨g', ys, hg', hrl, hone, hcell⟩ := block_cells I hH
            rw [hg] at hg'; cases hg'
            have hp : partOf hb.cells off k = some x := by
              cases k with
              | none => exact h
              | some n => exact h
            obtain ⟨z, hz, hr⟩ := load_part hk hrl hone hcell hp
            refine ⟨z, ?_, hr⟩
            simp only [Nat.zero_add] at hz
            simp [resOf, Array.getD_eq_getD_getElem?, h1, asAddr, hz]
        · cases h
      · cases h
    · cases hs

theorem takeRess_run {S : Sim} (I : Inv S) {l : List (Nat × AV)} {tmps : Array Value} (hl : ∀ (i : Nat) (x : AV), look l i = some x → ∃ y, tmps[i]? = some y ∧ Rep S x y) : ∀ {rv : List ResultVar} {sr : List SRes} {xs : List AV},
    stripRes P rv = some sr → takeRess l S.st.H sr = some xs →
    ∃ ys, (rv.mapM (resOf tmps)).run P S.w = .ok ys S.w ∧ RepL S xs ys
  | [], sr, xs, hs, h => by
    simp only [stripRes, Option.some.injEq] at hs; subst hs
    simp only [takeRess, Option.some.injEq] at h; subst h
    exact ⟨[], by simp, .nil⟩
  | r :: rv, sr, xs, hs, h => by
    have : ∃ a rs, sr = a :: rs ∧ stripRes P [r] = some [a] ∧ stripRes P rv = some rs := by
      cases r with
      | tmp t =>
        simp only [stripRes] at hs
        rw [Option.map_eq_some_iff] at hs
        obtain ⟨rs, h1, rfl⟩ := hs
        exact ⟨_, rs, rfl, rfl, h1⟩
      | cell a t =>
        simp only [stripRes] at hs
        split at hs
        · rename_i k l' hk hl'
          cases hs
          exact ⟨_, l', rfl, by simp only [stripRes, hk], hl'⟩
        · cases hs
    obtain ⟨a, rs, rfl, h1, h2⟩ := this
    simp only [takeRess] at h
    split at h
    · rename_i x xs' hx hxs
      cases h
      obtain ⟨y, hy, hry⟩ := takeRes_run I hl h1 hx
      obtain ⟨ys, hys, hrys⟩ := takeRess_run I hl h2 hxs
      refine ⟨y :: ys, ?_, .cons hry hrys⟩
      simp only [List.mapM_cons, Sem.run_bind, hy, Result.andThen_ok, hys, Sem.run_pure]
    · cases h

theorem results_run {S : Sim} (I : Inv S) {fn : Func} {l : List (Nat × AV)} {tmps : Array Value} (hl : ∀ (i : Nat) (x : AV), look l i = some x → ∃ y, tmps[i]? = some y ∧ Rep S x y) {sr : List SRes} {xs : List AV}
    (hs : stripRes P fn.results.toList = some sr) (h : takeRess l S.st.H sr = some xs) : ∃ v, (results fn tmps).run P S.w = .ok v S.w ∧ Rep S (pack xs) v := by
  obtain ⟨ys, h1, h2⟩ := takeRess_run I hl hs h
  have e : results fn tmps = (do let vs ← fn.results.mapM (resOf tmps); pure (if h : vs.size = 1 then vs[0] else .tuple vs)) := rfl
  rw [e, Array.mapM_eq_mapM_toList]
  simp only [Sem.run_bind, map_eq_pure_bind, h1, Result.andThen_ok, Sem.run_pure]
  cases h2 with
  | nil => exact ⟨_, by simp, .tup .nil⟩
  | cons hr hl =>
    cases hl with
    | nil => exact ⟨_, by simp, hr⟩
    | cons hr2 hl2 => exact ⟨_, by simp, .tup (.cons hr (.cons hr2 hl2))⟩

end

end VS
end Go.Proofs.Ytbnhmahkgeaajaa
