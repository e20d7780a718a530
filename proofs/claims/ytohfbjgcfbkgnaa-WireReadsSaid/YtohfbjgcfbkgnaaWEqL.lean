/- slices.Equal, SameSectors, SameWrites, of lists that are equal. -/
import Derived.Test.YtohfbjgcfbkgnaaWOnceLaw
namespace Go.Proofs.Ytohfbjgcfbkgnaa
namespace VS

theorem same_bys : ∀ (s : List Int), sameCells (bys s) (bys s) = some true
  | [] => rfl
  | b :: r => by
    have := same_bys r
    unfold bys at this ⊢
    simp [sameCells, this]
theorem same_gx (p : Int × Int) : sameCells (gx p) (gx p) = some true := by simp [gx, sameCells]
theorem bin_same {l : List AV} {n : Nat} (hl : l.length = n) (hs : sameCells l l = some true) : binAV .neq (.cells n) (.agg l) (.agg l) = some (.bool false) := by
  simp [hl, hs]
theorem ints_flat' (l : List Int) : Flat gi 1 l (ints l) := by
  rw [← ints_flat]
  exact flat_of fun _ _ => rfl

theorem IsL.form2 {sz : Nat} {x : AV} {cs : List AV} {n : Nat} (h : IsL sz x cs n) (hn : 0 < n) : ∃ t, x = .sl cs n t := by
  cases h with
  | nil => omega
  | sl _ _ => exact ⟨_, rfl⟩

theorem eq38Loop {α : Type} {g : α → List AV} {v : α → Int} {l : List α} {ds : List AV} (t u : Tag) (hf : Flat g 1 l ds) (hg : ∀ x ∈ l, (g x).length = 1) (hv : ∀ x, g x = [.v (.int .i64 (v x))]) (hlen : l.length ≤ 1000000) : ∀ (k i : Nat) (st : St), i + k = l.length →
    ∃ fr', runL T (.loop [0, 1, 12, 13] s38b0) { s := [(0, .sl ds l.length t), (1, .sl ds l.length u), (12, .v (.int .i64 l.length)), (13, .v (.int .i64 i))], d := [] } st = some (.ex 0, fr', st) ∧ fr'.only [] = { s := [], d := [] }
  | 0, i, st, hi => by
    refine ⟨?s, ?a, ?b⟩
    case a =>
      rw [runL_loop]
      have : ¬ (i : Int) < l.length := by omega
      simp [s38b0, this]
      rfl
    case b => simp
  | k + 1, i, st, hi => by
    have hlt : i < l.length := by omega
    have hmem : l[i] ∈ l := List.getElem_mem hlt
    have hw : IntKind.wrap .i64 ((i : Int) + 1) = ((i + 1 : Nat) : Int) := by rw [wrap_i64 (by omega) (by omega)]; omega
    have h1 : (i : Int) < l.length := by omega
    have hfl := hf.len
    have h2 : partOf ds i none = some (.v (.int .i64 (v l[i]))) := by
      have := hf.fld i 0 hlt (by omega)
      rw [hv] at this
      simpa [partOf] using this
    obtain ⟨fr', hr, hfr⟩ := eq38Loop t u hf hg hv hlen k (i + 1) st (by omega)
    refine ⟨fr', ?_, hfr⟩
    rw [runL_loop]
    generalize hL : SCode.loop [0, 1, 12, 13] s38b0 = L
    simp only [s38b0]
    simp [h1, opLoad_ep, h2, hw, -partOf]
    subst hL
    refine (loop_from ?_).trans hr
    simp

theorem eq38 {α : Type} {g : α → List AV} {v : α → Int} {l : List α} {ds : List AV} {x y : AV} (hf : Flat g 1 l ds) (hg : ∀ x ∈ l, (g x).length = 1) (hv : ∀ x, g x = [.v (.int .i64 (v x))]) (hlen : l.length ≤ 1000000) (hx : IsL 1 x ds l.length) (hy : IsL 1 y ds l.length) (st : St) : callL T 38 [x, y] st = some (.ret (.v (.bool true)), st) := by
  obtain ⟨x', hx1, hx2, _⟩ := hx.exps
  obtain ⟨y', hy1, hy2, _⟩ := hy.exps
  rw [call_plain T38 rfl rfl (expA_cons (hx1 st) (expA_cons (hy1 st) rfl))]
  have k1 := hx2.len
  have k2 := hy2.len
  by_cases h0 : l.length = 0
  · rw [h0] at k1 k2
    simp only [Int.natCast_zero] at k1 k2
    simp [inner_eq, s38, k1, k2]
    rw [runL_loop]
    simp [s38b0, dropped, expR]
  · obtain ⟨t, rfl⟩ := hx2.form2 (by omega)
    obtain ⟨u, rfl⟩ := hy2.form2 (by omega)
    obtain ⟨fr', hr, hfr⟩ := eq38Loop t u hf hg hv hlen l.length 0 .mt (Nat.zero_add _)
    have hu := loop_use hr
    simp [inner_eq, s38]
    rw [hu _ (by simp)]
    simp [hfr, dropped, expR]

theorem eq40Loop {α : Type} {g : α → List AV} {l : List α} {ds : List AV} (t u : Tag) (hf : Flat g 8 l ds) (hg : ∀ x ∈ l, (g x).length = 8) (hs : ∀ x ∈ l, sameCells (g x) (g x) = some true) (hlen : l.length ≤ 1000000) : ∀ (k i : Nat) (st : St), i + k = l.length →
    ∃ fr', runL T (.loop [0, 1, 12, 13] s40b0) { s := [(0, .sl ds l.length t), (1, .sl ds l.length u), (12, .v (.int .i64 l.length)), (13, .v (.int .i64 i))], d := [] } st = some (.ex 0, fr', st) ∧ fr'.only [] = { s := [], d := [] }
  | 0, i, st, hi => by
    refine ⟨?s, ?a, ?b⟩
    case a =>
      rw [runL_loop]
      have : ¬ (i : Int) < l.length := by omega
      simp [s40b0, this]
      rfl
    case b => simp
  | k + 1, i, st, hi => by
    have hlt : i < l.length := by omega
    have hmem : l[i] ∈ l := List.getElem_mem hlt
    have hw : IntKind.wrap .i64 ((i : Int) + 1) = ((i + 1 : Nat) : Int) := by rw [wrap_i64 (by omega) (by omega)]; omega
    have h1 : (i : Int) < l.length := by omega
    have hfl := hf.len
    have h2 : partOf ds (i * 8) (some 8) = some (.agg (g l[i])) := partOf_some (by omega) (hf.at_ i hlt)
    have h3 := hg _ hmem
    have h4 := hs _ hmem
    obtain ⟨fr', hr, hfr⟩ := eq40Loop t u hf hg hs hlen k (i + 1) st (by omega)
    refine ⟨fr', ?_, hfr⟩
    rw [runL_loop]
    generalize hL : SCode.loop [0, 1, 12, 13] s40b0 = L
    simp only [s40b0]
    simp [h1, opLoad_ep, h2, h3, h4, hw, -partOf]
    subst hL
    refine (loop_from ?_).trans hr
    simp

theorem eq40 {α : Type} {g : α → List AV} {l : List α} {ds : List AV} {x y : AV} (hf : Flat g 8 l ds) (hg : ∀ x ∈ l, (g x).length = 8) (hs : ∀ x ∈ l, sameCells (g x) (g x) = some true) (hlen : l.length ≤ 1000000) (hx : IsL 8 x ds l.length) (hy : IsL 8 y ds l.length) (st : St) : callL T 40 [x, y] st = some (.ret (.v (.bool true)), st) := by
  obtain ⟨x', hx1, hx2, _⟩ := hx.exps
  obtain ⟨y', hy1, hy2, _⟩ := hy.exps
  rw [call_plain T40 rfl rfl (expA_cons (hx1 st) (expA_cons (hy1 st) rfl))]
  have k1 := hx2.len
  have k2 := hy2.len
  by_cases h0 : l.length = 0
  · rw [h0] at k1 k2
    simp only [Int.natCast_zero] at k1 k2
    simp [inner_eq, s40, k1, k2]
    rw [runL_loop]
    simp [s40b0, dropped, expR]
  · obtain ⟨t, rfl⟩ := hx2.form2 (by omega)
    obtain ⟨u, rfl⟩ := hy2.form2 (by omega)
    obtain ⟨fr', hr, hfr⟩ := eq40Loop t u hf hg hs hlen l.length 0 .mt (Nat.zero_add _)
    have hu := loop_use hr
    simp [inner_eq, s40]
    rw [hu _ (by simp)]
    simp [hfr, dropped, expR]

theorem eq42Loop {α : Type} {g : α → List AV} {l : List α} {ds : List AV} (t u : Tag) (hf : Flat g 2 l ds) (hg : ∀ x ∈ l, (g x).length = 2) (hs : ∀ x ∈ l, sameCells (g x) (g x) = some true) (hlen : l.length ≤ 1000000) : ∀ (k i : Nat) (st : St), i + k = l.length →
    ∃ fr', runL T (.loop [0, 1, 12, 13] s42b0) { s := [(0, .sl ds l.length t), (1, .sl ds l.length u), (12, .v (.int .i64 l.length)), (13, .v (.int .i64 i))], d := [] } st = some (.ex 0, fr', st) ∧ fr'.only [] = { s := [], d := [] }
  | 0, i, st, hi => by
    refine ⟨?s, ?a, ?b⟩
    case a =>
      rw [runL_loop]
      have : ¬ (i : Int) < l.length := by omega
      simp [s42b0, this]
      rfl
    case b => simp
  | k + 1, i, st, hi => by
    have hlt : i < l.length := by omega
    have hmem : l[i] ∈ l := List.getElem_mem hlt
    have hw : IntKind.wrap .i64 ((i : Int) + 1) = ((i + 1 : Nat) : Int) := by rw [wrap_i64 (by omega) (by omega)]; omega
    have h1 : (i : Int) < l.length := by omega
    have hfl := hf.len
    have h2 : partOf ds (i * 2) (some 2) = some (.agg (g l[i])) := partOf_some (by omega) (hf.at_ i hlt)
    have h3 := hg _ hmem
    have h4 := hs _ hmem
    obtain ⟨fr', hr, hfr⟩ := eq42Loop t u hf hg hs hlen k (i + 1) st (by omega)
    refine ⟨fr', ?_, hfr⟩
    rw [runL_loop]
    generalize hL : SCode.loop [0, 1, 12, 13] s42b0 = L
    simp only [s42b0]
    simp [h1, opLoad_ep, h2, h3, h4, hw, -partOf]
    subst hL
    refine (loop_from ?_).trans hr
    simp

theorem eq42 {α : Type} {g : α → List AV} {l : List α} {ds : List AV} {x y : AV} (hf : Flat g 2 l ds) (hg : ∀ x ∈ l, (g x).length = 2) (hs : ∀ x ∈ l, sameCells (g x) (g x) = some true) (hlen : l.length ≤ 1000000) (hx : IsL 2 x ds l.length) (hy : IsL 2 y ds l.length) (st : St) : callL T 42 [x, y] st = some (.ret (.v (.bool true)), st) := by
  obtain ⟨x', hx1, hx2, _⟩ := hx.exps
  obtain ⟨y', hy1, hy2, _⟩ := hy.exps
  rw [call_plain T42 rfl rfl (expA_cons (hx1 st) (expA_cons (hy1 st) rfl))]
  have k1 := hx2.len
  have k2 := hy2.len
  by_cases h0 : l.length = 0
  · rw [h0] at k1 k2
    simp only [Int.natCast_zero] at k1 k2
    simp [inner_eq, s42, k1, k2]
    rw [runL_loop]
    simp [s42b0, dropped, expR]
  · obtain ⟨t, rfl⟩ := hx2.form2 (by omega)
    obtain ⟨u, rfl⟩ := hy2.form2 (by omega)
    obtain ⟨fr', hr, hfr⟩ := eq42Loop t u hf hg hs hlen l.length 0 .mt (Nat.zero_add _)
    have hu := loop_use hr
    simp [inner_eq, s42]
    rw [hu _ (by simp)]
    simp [hfr, dropped, expR]

theorem eq80Loop {α : Type} {g : α → List AV} {l : List α} {ds : List AV} (t u : Tag) (hf : Flat g 8 l ds) (hg : ∀ x ∈ l, (g x).length = 8) (hs : ∀ x ∈ l, sameCells (g x) (g x) = some true) (hlen : l.length ≤ 1000000) : ∀ (k i : Nat) (st : St), i + k = l.length →
    ∃ fr', runL T (.loop [0, 1, 5] s80b0) { s := [(0, .sl ds l.length t), (1, .sl ds l.length u), (5, .v (.int .i64 i))], d := [] } st = some (.ex 0, fr', st) ∧ fr'.only [] = { s := [], d := [] }
  | 0, i, st, hi => by
    refine ⟨?s, ?a, ?b⟩
    case a =>
      rw [runL_loop]
      have : ¬ (i : Int) < l.length := by omega
      simp [s80b0, this]
      rfl
    case b => simp
  | k + 1, i, st, hi => by
    have hlt : i < l.length := by omega
    have hmem : l[i] ∈ l := List.getElem_mem hlt
    have hw : IntKind.wrap .i64 ((i : Int) + 1) = ((i + 1 : Nat) : Int) := by rw [wrap_i64 (by omega) (by omega)]; omega
    have h1 : (i : Int) < l.length := by omega
    have hfl := hf.len
    have h2 : partOf ds (i * 8) (some 8) = some (.agg (g l[i])) := partOf_some (by omega) (hf.at_ i hlt)
    have h3 := hg _ hmem
    have h4 := hs _ hmem
    obtain ⟨fr', hr, hfr⟩ := eq80Loop t u hf hg hs hlen k (i + 1) st (by omega)
    refine ⟨fr', ?_, hfr⟩
    rw [runL_loop]
    generalize hL : SCode.loop [0, 1, 5] s80b0 = L
    simp only [s80b0]
    simp [h1, opLoad_ep, h2, h3, h4, hw, -partOf]
    subst hL
    refine (loop_from ?_).trans hr
    simp

theorem eq80 {α : Type} {g : α → List AV} {l : List α} {ds : List AV} {x y : AV} (hf : Flat g 8 l ds) (hg : ∀ x ∈ l, (g x).length = 8) (hs : ∀ x ∈ l, sameCells (g x) (g x) = some true) (hlen : l.length ≤ 1000000) (hx : IsL 8 x ds l.length) (hy : IsL 8 y ds l.length) (st : St) : callL T 80 [x, y] st = some (.ret (.v (.bool true)), st) := by
  obtain ⟨x', hx1, hx2, _⟩ := hx.exps
  obtain ⟨y', hy1, hy2, _⟩ := hy.exps
  rw [call_plain T80 rfl rfl (expA_cons (hx1 st) (expA_cons (hy1 st) rfl))]
  have k1 := hx2.len
  have k2 := hy2.len
  by_cases h0 : l.length = 0
  · rw [h0] at k1 k2
    simp only [Int.natCast_zero] at k1 k2
    simp [inner_eq, s80, k1, k2]
    rw [runL_loop]
    simp [s80b0, k1, dropped, expR]
  · obtain ⟨t, rfl⟩ := hx2.form2 (by omega)
    obtain ⟨u, rfl⟩ := hy2.form2 (by omega)
    obtain ⟨fr', hr, hfr⟩ := eq80Loop t u hf hg hs hlen l.length 0 .mt (Nat.zero_add _)
    have hu := loop_use hr
    simp [inner_eq, s80]
    rw [hu _ (by simp)]
    simp [hfr, dropped, expR]

theorem eqInts {x y : AV} {ns : List Int} (hx : IsL 1 x (ints ns) ns.length) (hy : IsL 1 y (ints ns) ns.length) (hlen : ns.length ≤ 1000000) (st : St) : callL T 38 [x, y] st = some (.ret (.v (.bool true)), st) :=
  eq38 (v := id) (ints_flat' ns) (fun _ _ => rfl) (fun _ => rfl) hlen hx hy st
theorem eqSecs {x y : AV} {ss : List (List Int)} (hs : ∀ s ∈ ss, Sec s) (hx : IsL 8 x (ss.flatMap bys) ss.length) (hy : IsL 8 y (ss.flatMap bys) ss.length) (hlen : ss.length ≤ 1000000) (st : St) : callL T 40 [x, y] st = some (.ret (.v (.bool true)), st) :=
  eq40 (flat_sec hs) (fun s h => by simp [(hs s h).1]) (fun s _ => same_bys s) hlen hx hy st
theorem eqSecs' {x y : AV} {ss : List (List Int)} (hs : ∀ s ∈ ss, Sec s) (hx : IsL 8 x (ss.flatMap bys) ss.length) (hy : IsL 8 y (ss.flatMap bys) ss.length) (hlen : ss.length ≤ 1000000) (st : St) : callL T 80 [x, y] st = some (.ret (.v (.bool true)), st) :=
  eq80 (flat_sec hs) (fun s h => by simp [(hs s h).1]) (fun s _ => same_bys s) hlen hx hy st
theorem eqExts {x y : AV} {xs : List (Int × Int)} (hx : IsL 2 x (xs.flatMap gx) xs.length) (hy : IsL 2 y (xs.flatMap gx) xs.length) (hlen : xs.length ≤ 1000000) (st : St) : callL T 42 [x, y] st = some (.ret (.v (.bool true)), st) :=
  eq42 (flat_ext xs) (fun _ _ => rfl) (fun p _ => same_gx p) hlen hx hy st

theorem eq44Loop {l m : List Wr} (t u : Tag) (hl : ∀ w ∈ l, w.Ok) (hm : ∀ w ∈ m, w.Ok) (he : l.map plw = m.map plw) (hlen : l.length ≤ 1000000) : ∀ (k i : Nat) (st : St), i + k = l.length →
    ∃ fr', runL T (.loop [0, 1, 5] s44b0) { s := [(0, .sl (l.flatMap gw) l.length t), (1, .sl (m.flatMap gw) l.length u), (5, .v (.int .i64 i))], d := [] } st = some (.ex 0, fr', st) ∧ fr'.only [] = { s := [], d := [] }
  | 0, i, st, hi => by
    refine ⟨?s, ?a, ?b⟩
    case a =>
      rw [runL_loop]
      have : ¬ (i : Int) < l.length := by omega
      simp [s44b0, this]
      rfl
    case b => simp
  | k + 1, i, st, hi => by
    have hlm : l.length = m.length := by simpa using congrArg List.length he
    have hlt : i < l.length := by omega
    have hlt2 : i < m.length := by omega
    have hi' := congrArg (·[i]?) he
    simp only [List.getElem?_map, List.getElem?_eq_getElem hlt, List.getElem?_eq_getElem hlt2, Option.map_some, Option.some.injEq, plw, Prod.mk.injEq] at hi'
    obtain ⟨⟨e1, e2⟩, e3⟩ := hi'
    have o1 := hl _ (List.getElem_mem hlt)
    have o2 := hm _ (List.getElem_mem hlt2)
    have hw : IntKind.wrap .i64 ((i : Int) + 1) = ((i + 1 : Nat) : Int) := by rw [wrap_i64 (by omega) (by omega)]; omega
    have h1 : (i : Int) < l.length := by omega
    have hf := flat_wr l
    have hg := flat_wr m
    have p : ∀ j a, j < 3 → (gw l[i])[j]? = some a → partOf (l.flatMap gw) (i * 3 + j) none = some a := fun j a hj ha => by
      have := hf.fld i j hlt hj
      simpa [partOf, ha] using this
    have q : ∀ j a, j < 3 → (gw m[i])[j]? = some a → partOf (m.flatMap gw) (i * 3 + j) none = some a := fun j a hj ha => by
      have := hg.fld i j hlt2 hj
      simpa [partOf, ha] using this
    have p0 := p 0 _ (by omega) rfl
    have p1 := p 1 _ (by omega) rfl
    have p2 := p 2 _ (by omega) rfl
    have q0 := q 0 _ (by omega) rfl
    have q1 := q 1 _ (by omega) rfl
    have q2 := q 2 _ (by omega) rfl
    rw [Nat.add_zero] at p0 q0
    rw [← e1] at q0
    rw [← e2] at q1
    have hB := o2.isL
    rw [← e3] at hB
    have hfew := o1.few
    have hc := eqSecs' o1.sec o1.isL hB (by omega) st
    obtain ⟨fr', hr, hfr⟩ := eq44Loop t u hl hm he hlen k (i + 1) st (by omega)
    refine ⟨fr', ?_, hfr⟩
    rw [runL_loop]
    generalize hL : SCode.loop [0, 1, 5] s44b0 = L
    generalize l.flatMap gw = cl at *
    generalize m.flatMap gw = cm at *
    simp only [s44b0]
    simp [h1, opLoad_ep, p0, p1, p2, q0, q1, q2, hc, hw, -partOf]
    subst hL
    refine (loop_from ?_).trans hr
    simp

theorem eqWrs {x y : AV} {l m : List Wr} (hl : ∀ w ∈ l, w.Ok) (hm : ∀ w ∈ m, w.Ok) (he : l.map plw = m.map plw) (hx : IsL 3 x (l.flatMap gw) l.length) (hy : IsL 3 y (m.flatMap gw) m.length) (hlen : l.length ≤ 1000000) (st : St) : callL T 44 [x, y] st = some (.ret (.v (.bool true)), st) := by
  have hlm : m.length = l.length := by simpa using (congrArg List.length he).symm
  rw [hlm] at hy
  obtain ⟨x', hx1, hx2, _⟩ := hx.exps
  obtain ⟨y', hy1, hy2, _⟩ := hy.exps
  rw [call_plain T44 rfl rfl (expA_cons (hx1 st) (expA_cons (hy1 st) rfl))]
  have k1 := hx2.len
  have k2 := hy2.len
  by_cases h0 : l.length = 0
  · rw [h0] at k1 k2
    simp only [Int.natCast_zero] at k1 k2
    simp [inner_eq, s44, k1, k2]
    rw [runL_loop]
    simp [s44b0, k1, dropped, expR]
  · obtain ⟨t, rfl⟩ := hx2.form2 (by omega)
    obtain ⟨u, rfl⟩ := hy2.form2 (by omega)
    obtain ⟨fr', hr, hfr⟩ := eq44Loop t u hl hm he hlen l.length 0 .mt (Nat.zero_add _)
    have hu := loop_use hr
    simp only [inner_eq, s44]
    simp
    rw [hu _ (by simp)]
    simp [hfr, dropped, expR]

end VS
end Go.Proofs.Ytohfbjgcfbkgnaa
