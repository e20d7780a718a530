/- Put of lists of rows; ContainsFunc. -/
import Derived.Test.YtohfbjgcfbkgnaaWNum
namespace Go.Proofs.Ytohfbjgcfbkgnaa
namespace VS

theorem App.move {st st' : St} {sz : Nat} {x : AV} {cs : List AV} {n : Nat} (h : App st sz x cs n) (hF : st'.F = st.F) : App st' sz x cs n := by
  cases h with
  | nil => exact .nil
  | full h => exact .full h
  | own h h2 => exact .own h (by rw [hF]; exact h2)

/-- A list of rows of cells, laid flat. -/
structure Flat {α : Type} (g : α → List AV) (c : Nat) (l : List α) (cs : List AV) : Prop where
  len : cs.length = l.length * c
  at_ : ∀ (i : Nat) (h : i < l.length), (cs.drop (i * c)).take c = g l[i]
  fld : ∀ (i j : Nat) (h : i < l.length), j < c → cs[i * c + j]? = (g l[i])[j]?

theorem flat_of {α : Type} {g : α → List AV} {c : Nat} : ∀ {l : List α}, (∀ x ∈ l, (g x).length = c) → Flat g c l (l.flatMap g)
  | [], _ => ⟨by simp, by simp, by simp⟩
  | x :: r, h => by
    have ih := flat_of (l := r) fun y hy => h y (by simp [hy])
    have hx := h x (by simp)
    rw [List.flatMap_cons]
    refine ⟨by rw [List.length_append, ih.len, hx, List.length_cons, Nat.add_mul]; omega, fun i hi => ?_, fun i j hi hj => ?_⟩
    · cases i with
      | zero => simp [hx]
      | succ i =>
        have : (i + 1) * c = (g x).length + i * c := by rw [hx, Nat.add_mul]; omega
        rw [this, List.drop_append, List.drop_of_length_le (by omega), Nat.add_sub_cancel_left, List.nil_append]
        exact ih.at_ i (by simpa using hi)
    · cases i with
      | zero => rw [Nat.zero_mul, Nat.zero_add, List.getElem?_append_left (by omega)]; rfl
      | succ i =>
        have : (i + 1) * c + j = (g x).length + (i * c + j) := by rw [hx, Nat.add_mul]; omega
        rw [this, List.getElem?_append_right (by omega), Nat.add_sub_cancel_left]
        exact ih.fld i j (by simpa using hi) hj

theorem opLoad_ep (st : St) (cs : List AV) (off : Nat) (k : Option Nat) : opLoad st k (.ep cs off) = partOf cs off k := by cases st; rfl
theorem partOf_some {cs l : List AV} {off k : Nat} (h : off + k ≤ cs.length) (e : (cs.drop off).take k = l) : partOf cs off (some k) = some (.agg l) := by simp [partOf, h, e]
theorem opStore_new {H : List HB} {F : List (Nat × Nat)} {z l : List AV} {k : Nat} (hz : z.length = k) (hl : l.length = k) : opStore { H := H ++ [{ cells := z, fz := false }], F := F } k (.ptr H.length 0) (.agg l) = some { H := H ++ [{ cells := l, fz := false }], F := F } := by
  simp [opStore, hz, hl]
theorem opLoad_new {H : List HB} {F : List (Nat × Nat)} {l : List AV} {k : Nat} {b : Bool} (hl : l.length = k) : opLoad { H := H ++ [{ cells := l, fz := b }], F := F } (some k) (.ptr H.length 0) = some (.agg l) := by
  simp [opLoad, partOf, ← hl]
theorem opLoad_fld {H : List HB} {F : List (Nat × Nat)} {l : List AV} {j : Nat} {b : Bool} : opLoad { H := H ++ [{ cells := l, fz := b }], F := F } none (.ptr H.length j) = l[j]? := by
  simp [opLoad, partOf]

theorem put54Loop {α : Type} {g : α → List AV} {e : α → List Int} {B F : Nat} {l : List α} {ds : List AV} (t : Tag) (hf : Flat g 8 l ds) (hlen : l.length ≤ 1000000) (hB : ∀ x ∈ l, (e x).length ≤ B) (hg : ∀ x ∈ l, (g x).length = 8)
    (hF : ∀ x ∈ l, ∀ (y : AV) (cs : List AV) (m : Nat) (st : St), App st 1 y cs m → m ≤ 137438953472 → ∃ z st', callL T F [y, .agg (g x)] st = some (.ret z, st') ∧ App st' 1 z (cs ++ bys (e x)) (m + (e x).length)) :
    ∀ (k i : Nat) (x : AV) (cs : List AV) (m : Nat) (st : St), App st 1 x cs m → i + k = l.length → m + B * k ≤ 137438953472 →
    ∃ y fr' st', runL T (.loop [0, 2, 13, 14, 15] s54b0) { s := [(0, x), (2, .fn F []), (13, .sl ds l.length t), (14, .v (.int .i64 l.length)), (15, .v (.int .i64 i))], d := [] } st = some (.ex 0, fr', st') ∧ fr'.only [0] = { s := [(0, y)], d := [] } ∧
      App st' 1 y (cs ++ bys ((l.drop i).flatMap e)) (m + ((l.drop i).flatMap e).length)
  | 0, i, x, cs, m, st, hx, hi, _ => by
    have hd : l.drop i = [] := List.drop_eq_nil_of_le (by omega)
    refine ⟨x, ?s, st, ?a, ?b, by rw [hd]; simpa using hx⟩
    case a =>
      rw [runL_loop]
      have : ¬ (i : Int) < l.length := by omega
      simp [s54b0, this]
      rfl
    case b => simp
  | k + 1, i, x, cs, m, st, hx, hi, hm => by
    have hlt : i < l.length := by omega
    have hd : l.drop i = l[i] :: l.drop (i + 1) := List.drop_eq_getElem_cons hlt
    have hmem : l[i] ∈ l := List.getElem_mem hlt
    have hBi := hB _ hmem
    have e1 : B * (k + 1) = B * k + B := Nat.mul_succ B k
    obtain ⟨u, st1, hp, hA⟩ := hF _ hmem x cs m { H := st.H ++ [{ cells := g l[i], fz := false }], F := st.F } (hx.move rfl) (by omega)
    obtain ⟨y, fr', st', hr, hfr, hA'⟩ := put54Loop t hf hlen hB hg hF k (i + 1) u _ _ st1 hA (by omega) (by omega)
    refine ⟨y, fr', st', ?_, hfr, ?_⟩
    · rw [runL_loop]
      generalize hL : SCode.loop [0, 2, 13, 14, 15] s54b0 = L
      have hw : IntKind.wrap .i64 ((i : Int) + 1) = ((i + 1 : Nat) : Int) := by rw [wrap_i64 (by omega) (by omega)]; omega
      have h1 : (i : Int) < l.length := by omega
      have hfl := hf.len
      have h2 : partOf ds (i * 8) (some 8) = some (.agg (g l[i])) := partOf_some (by omega) (hf.at_ i hlt)
      have h3 := opStore_new (H := st.H) (F := st.F) (z := [.v (.int .u8 0), .v (.int .u8 0), .v (.int .u8 0), .v (.int .u8 0), .v (.int .u8 0), .v (.int .u8 0), .v (.int .u8 0), .v (.int .u8 0)]) (l := g l[i]) (k := 8) rfl (hg _ hmem)
      have h4 := opLoad_new (H := st.H) (F := st.F) (l := g l[i]) (b := false) (hg _ hmem)
      simp only [s54b0]
      simp [h1, opLoad_ep, h2, h3, h4, hp, hw, -partOf]
      subst hL
      refine (loop_from ?_).trans hr
      simp
    · rw [hd, List.flatMap_cons, bys_append, ← List.append_assoc]
      simpa [Nat.add_assoc] using hA'

theorem put54 {α : Type} {g : α → List AV} {e : α → List Int} {B F : Nat} {l : List α} {ds : List AV} {x y : AV} {cs : List AV} {m : Nat} {st : St} (hf : Flat g 8 l ds) (hlen : l.length ≤ 1000000) (hB : ∀ x ∈ l, (e x).length ≤ B) (hg : ∀ x ∈ l, (g x).length = 8)
    (hF : ∀ x ∈ l, ∀ (y : AV) (cs : List AV) (m : Nat) (st : St), App st 1 y cs m → m ≤ 137438953472 → ∃ z st', callL T F [y, .agg (g x)] st = some (.ret z, st') ∧ App st' 1 z (cs ++ bys (e x)) (m + (e x).length))
    (hx : App st 1 x cs m) (hy : IsL 8 y ds l.length) (hm : m + 9 + B * l.length ≤ 137438953472) :
    ∃ z st', callL T 54 [x, y, .fn F []] st = some (.ret z, st') ∧ App st' 1 z (cs ++ bys (enc l.length ++ l.flatMap e)) (m + (enc l.length ++ l.flatMap e).length) := by
  rw [call_whole T54 (.inl rfl) rfl]
  obtain ⟨u, st0, hp, hA0, _⟩ := putInt l.length hx (by omega)
  have hle := (enc_length l.length).2
  generalize hn : l.length = n at hy
  cases hy with
  | nil =>
    have : l = [] := List.eq_nil_of_length_eq_zero hn
    subst this
    refine ⟨u, st0, ?_, by simpa using hA0⟩
    simp at hp
    simp [inner_eq, s54, hp]
    rw [runL_loop]
    simp [s54b0]
  | @sl _ _ t ht hl =>
    subst hn
    obtain ⟨y, fr', st1, hr, hfr, hA⟩ := put54Loop t hf hlen hB hg hF l.length 0 u _ _ st0 hA0 (by omega) (by omega)
    refine ⟨y, st1, ?_, ?_⟩
    · have hu := loop_use hr
      simp [inner_eq, s54, hp]
      rw [hu _ (by simp)]
      simp [hfr]
    · rw [List.drop_zero] at hA
      simpa [bys_append, Nat.add_assoc] using hA

theorem put56Loop {α : Type} {g : α → List AV} {e : α → List Int} {B F : Nat} {l : List α} {ds : List AV} (t : Tag) (hf : Flat g 2 l ds) (hlen : l.length ≤ 1000000) (hB : ∀ x ∈ l, (e x).length ≤ B) (hg : ∀ x ∈ l, (g x).length = 2)
    (hF : ∀ x ∈ l, ∀ (y : AV) (cs : List AV) (m : Nat) (st : St), App st 1 y cs m → m ≤ 137438953472 → ∃ z st', callL T F [y, .agg (g x)] st = some (.ret z, st') ∧ App st' 1 z (cs ++ bys (e x)) (m + (e x).length)) :
    ∀ (k i : Nat) (x : AV) (cs : List AV) (m : Nat) (st : St), App st 1 x cs m → i + k = l.length → m + B * k ≤ 137438953472 →
    ∃ y fr' st', runL T (.loop [0, 2, 13, 14, 15] s56b0) { s := [(0, x), (2, .fn F []), (13, .sl ds l.length t), (14, .v (.int .i64 l.length)), (15, .v (.int .i64 i))], d := [] } st = some (.ex 0, fr', st') ∧ fr'.only [0] = { s := [(0, y)], d := [] } ∧
      App st' 1 y (cs ++ bys ((l.drop i).flatMap e)) (m + ((l.drop i).flatMap e).length)
  | 0, i, x, cs, m, st, hx, hi, _ => by
    have hd : l.drop i = [] := List.drop_eq_nil_of_le (by omega)
    refine ⟨x, ?s, st, ?a, ?b, by rw [hd]; simpa using hx⟩
    case a =>
      rw [runL_loop]
      have : ¬ (i : Int) < l.length := by omega
      simp [s56b0, this]
      rfl
    case b => simp
  | k + 1, i, x, cs, m, st, hx, hi, hm => by
    have hlt : i < l.length := by omega
    have hd : l.drop i = l[i] :: l.drop (i + 1) := List.drop_eq_getElem_cons hlt
    have hmem : l[i] ∈ l := List.getElem_mem hlt
    have hBi := hB _ hmem
    have e1 : B * (k + 1) = B * k + B := Nat.mul_succ B k
    obtain ⟨u, st1, hp, hA⟩ := hF _ hmem x cs m { H := st.H ++ [{ cells := g l[i], fz := false }], F := st.F } (hx.move rfl) (by omega)
    obtain ⟨y, fr', st', hr, hfr, hA'⟩ := put56Loop t hf hlen hB hg hF k (i + 1) u _ _ st1 hA (by omega) (by omega)
    refine ⟨y, fr', st', ?_, hfr, ?_⟩
    · rw [runL_loop]
      generalize hL : SCode.loop [0, 2, 13, 14, 15] s56b0 = L
      have hw : IntKind.wrap .i64 ((i : Int) + 1) = ((i + 1 : Nat) : Int) := by rw [wrap_i64 (by omega) (by omega)]; omega
      have h1 : (i : Int) < l.length := by omega
      have hfl := hf.len
      have h2 : partOf ds (i * 2) (some 2) = some (.agg (g l[i])) := partOf_some (by omega) (hf.at_ i hlt)
      have h3 := opStore_new (H := st.H) (F := st.F) (z := [.v (.int .i64 0), .v (.int .i64 0)]) (l := g l[i]) (k := 2) rfl (hg _ hmem)
      have h4 := opLoad_new (H := st.H) (F := st.F) (l := g l[i]) (b := false) (hg _ hmem)
      simp only [s56b0]
      simp [h1, opLoad_ep, h2, h3, h4, hp, hw, -partOf]
      subst hL
      refine (loop_from ?_).trans hr
      simp
    · rw [hd, List.flatMap_cons, bys_append, ← List.append_assoc]
      simpa [Nat.add_assoc] using hA'

theorem put56 {α : Type} {g : α → List AV} {e : α → List Int} {B F : Nat} {l : List α} {ds : List AV} {x y : AV} {cs : List AV} {m : Nat} {st : St} (hf : Flat g 2 l ds) (hlen : l.length ≤ 1000000) (hB : ∀ x ∈ l, (e x).length ≤ B) (hg : ∀ x ∈ l, (g x).length = 2)
    (hF : ∀ x ∈ l, ∀ (y : AV) (cs : List AV) (m : Nat) (st : St), App st 1 y cs m → m ≤ 137438953472 → ∃ z st', callL T F [y, .agg (g x)] st = some (.ret z, st') ∧ App st' 1 z (cs ++ bys (e x)) (m + (e x).length))
    (hx : App st 1 x cs m) (hy : IsL 2 y ds l.length) (hm : m + 9 + B * l.length ≤ 137438953472) :
    ∃ z st', callL T 56 [x, y, .fn F []] st = some (.ret z, st') ∧ App st' 1 z (cs ++ bys (enc l.length ++ l.flatMap e)) (m + (enc l.length ++ l.flatMap e).length) := by
  rw [call_whole T56 (.inl rfl) rfl]
  obtain ⟨u, st0, hp, hA0, _⟩ := putInt l.length hx (by omega)
  have hle := (enc_length l.length).2
  generalize hn : l.length = n at hy
  cases hy with
  | nil =>
    have : l = [] := List.eq_nil_of_length_eq_zero hn
    subst this
    refine ⟨u, st0, ?_, by simpa using hA0⟩
    simp at hp
    simp [inner_eq, s56, hp]
    rw [runL_loop]
    simp [s56b0]
  | @sl _ _ t ht hl =>
    subst hn
    obtain ⟨y, fr', st1, hr, hfr, hA⟩ := put56Loop t hf hlen hB hg hF l.length 0 u _ _ st0 hA0 (by omega) (by omega)
    refine ⟨y, st1, ?_, ?_⟩
    · have hu := loop_use hr
      simp [inner_eq, s56, hp]
      rw [hu _ (by simp)]
      simp [hfr]
    · rw [List.drop_zero] at hA
      simpa [bys_append, Nat.add_assoc] using hA

theorem put58Loop {α : Type} {g : α → List AV} {e : α → List Int} {B F : Nat} {l : List α} {ds : List AV} (t : Tag) (hf : Flat g 3 l ds) (hlen : l.length ≤ 1000000) (hB : ∀ x ∈ l, (e x).length ≤ B) (hg : ∀ x ∈ l, (g x).length = 3)
    (hF : ∀ x ∈ l, ∀ (y : AV) (cs : List AV) (m : Nat) (st : St), App st 1 y cs m → m ≤ 34359738368 → ∃ z st', callL T F [y, .agg (g x)] st = some (.ret z, st') ∧ App st' 1 z (cs ++ bys (e x)) (m + (e x).length)) :
    ∀ (k i : Nat) (x : AV) (cs : List AV) (m : Nat) (st : St), App st 1 x cs m → i + k = l.length → m + B * k ≤ 34359738368 →
    ∃ y fr' st', runL T (.loop [0, 2, 13, 14, 15] s58b0) { s := [(0, x), (2, .fn F []), (13, .sl ds l.length t), (14, .v (.int .i64 l.length)), (15, .v (.int .i64 i))], d := [] } st = some (.ex 0, fr', st') ∧ fr'.only [0] = { s := [(0, y)], d := [] } ∧
      App st' 1 y (cs ++ bys ((l.drop i).flatMap e)) (m + ((l.drop i).flatMap e).length)
  | 0, i, x, cs, m, st, hx, hi, _ => by
    have hd : l.drop i = [] := List.drop_eq_nil_of_le (by omega)
    refine ⟨x, ?s, st, ?a, ?b, by rw [hd]; simpa using hx⟩
    case a =>
      rw [runL_loop]
      have : ¬ (i : Int) < l.length := by omega
      simp [s58b0, this]
      rfl
    case b => simp
  | k + 1, i, x, cs, m, st, hx, hi, hm => by
    have hlt : i < l.length := by omega
    have hd : l.drop i = l[i] :: l.drop (i + 1) := List.drop_eq_getElem_cons hlt
    have hmem : l[i] ∈ l := List.getElem_mem hlt
    have hBi := hB _ hmem
    have e1 : B * (k + 1) = B * k + B := Nat.mul_succ B k
    obtain ⟨u, st1, hp, hA⟩ := hF _ hmem x cs m { H := st.H ++ [{ cells := g l[i], fz := false }], F := st.F } (hx.move rfl) (by omega)
    obtain ⟨y, fr', st', hr, hfr, hA'⟩ := put58Loop t hf hlen hB hg hF k (i + 1) u _ _ st1 hA (by omega) (by omega)
    refine ⟨y, fr', st', ?_, hfr, ?_⟩
    · rw [runL_loop]
      generalize hL : SCode.loop [0, 2, 13, 14, 15] s58b0 = L
      have hw : IntKind.wrap .i64 ((i : Int) + 1) = ((i + 1 : Nat) : Int) := by rw [wrap_i64 (by omega) (by omega)]; omega
      have h1 : (i : Int) < l.length := by omega
      have hfl := hf.len
      have h2 : partOf ds (i * 3) (some 3) = some (.agg (g l[i])) := partOf_some (by omega) (hf.at_ i hlt)
      have h3 := opStore_new (H := st.H) (F := st.F) (z := [.v (.int .i64 0), .v (.int .i64 0), .v (.slice none 0 0)]) (l := g l[i]) (k := 3) rfl (hg _ hmem)
      have h4 := opLoad_new (H := st.H) (F := st.F) (l := g l[i]) (b := false) (hg _ hmem)
      simp only [s58b0]
      simp [h1, opLoad_ep, h2, h3, h4, hp, hw, -partOf]
      subst hL
      refine (loop_from ?_).trans hr
      simp
    · rw [hd, List.flatMap_cons, bys_append, ← List.append_assoc]
      simpa [Nat.add_assoc] using hA'

theorem put58 {α : Type} {g : α → List AV} {e : α → List Int} {B F : Nat} {l : List α} {ds : List AV} {x y : AV} {cs : List AV} {m : Nat} {st : St} (hf : Flat g 3 l ds) (hlen : l.length ≤ 1000000) (hB : ∀ x ∈ l, (e x).length ≤ B) (hg : ∀ x ∈ l, (g x).length = 3)
    (hF : ∀ x ∈ l, ∀ (y : AV) (cs : List AV) (m : Nat) (st : St), App st 1 y cs m → m ≤ 34359738368 → ∃ z st', callL T F [y, .agg (g x)] st = some (.ret z, st') ∧ App st' 1 z (cs ++ bys (e x)) (m + (e x).length))
    (hx : App st 1 x cs m) (hy : IsL 3 y ds l.length) (hm : m + 9 + B * l.length ≤ 34359738368) :
    ∃ z st', callL T 58 [x, y, .fn F []] st = some (.ret z, st') ∧ App st' 1 z (cs ++ bys (enc l.length ++ l.flatMap e)) (m + (enc l.length ++ l.flatMap e).length) := by
  rw [call_whole T58 (.inl rfl) rfl]
  obtain ⟨u, st0, hp, hA0, _⟩ := putInt l.length hx (by omega)
  have hle := (enc_length l.length).2
  generalize hn : l.length = n at hy
  cases hy with
  | nil =>
    have : l = [] := List.eq_nil_of_length_eq_zero hn
    subst this
    refine ⟨u, st0, ?_, by simpa using hA0⟩
    simp at hp
    simp [inner_eq, s58, hp]
    rw [runL_loop]
    simp [s58b0]
  | @sl _ _ t ht hl =>
    subst hn
    obtain ⟨y, fr', st1, hr, hfr, hA⟩ := put58Loop t hf hlen hB hg hF l.length 0 u _ _ st0 hA0 (by omega) (by omega)
    refine ⟨y, st1, ?_, ?_⟩
    · have hu := loop_use hr
      simp [inner_eq, s58, hp]
      rw [hu _ (by simp)]
      simp [hfr]
    · rw [List.drop_zero] at hA
      simpa [bys_append, Nat.add_assoc] using hA

theorem idx81Loop {α : Type} {g : α → AV} {p : α → Bool} {F : Nat} {l : List α} {ds : List AV} (t : Tag) (hlen : l.length ≤ 1000000) (hf : Flat (fun x => [g x]) 1 l ds)
    (hF : ∀ x ∈ l, ∀ (st : St), callL T F [g x] st = some (.ret (.v (.bool (p x))), st)) : ∀ (k i : Nat) (st : St), i + k = l.length →
    if (l.drop i).any p then ∃ j : Nat, runL T (.loop [0, 1, 7, 8] s81b0) { s := [(0, .sl ds l.length t), (1, .fn F []), (7, .v (.int .i64 l.length)), (8, .v (.int .i64 i))], d := [] } st = some (.rt, { s := [(4, .v (.int .i64 j))], d := [] }, st)
    else ∃ fr', runL T (.loop [0, 1, 7, 8] s81b0) { s := [(0, .sl ds l.length t), (1, .fn F []), (7, .v (.int .i64 l.length)), (8, .v (.int .i64 i))], d := [] } st = some (.ex 0, fr', st) ∧ fr'.only [] = { s := [], d := [] }
  | 0, i, st, hi => by
    have hd : l.drop i = [] := List.drop_eq_nil_of_le (by omega)
    rw [hd]
    simp only [List.any_nil, Bool.false_eq_true, if_false]
    refine ⟨?s, ?a, ?b⟩
    case a =>
      rw [runL_loop]
      have : ¬ (i : Int) < l.length := by omega
      simp [s81b0, this]
      rfl
    case b => simp
  | k + 1, i, st, hi => by
    have hlt : i < l.length := by omega
    have hd : l.drop i = l[i] :: l.drop (i + 1) := List.drop_eq_getElem_cons hlt
    have hmem : l[i] ∈ l := List.getElem_mem hlt
    have hp := hF _ hmem st
    have hw : IntKind.wrap .i64 ((i : Int) + 1) = ((i + 1 : Nat) : Int) := by rw [wrap_i64 (by omega) (by omega)]; omega
    have h1 : (i : Int) < l.length := by omega
    have hfl := hf.len
    have h2 : partOf ds i none = some (g l[i]) := by have := hf.fld i 0 hlt (by omega); simpa [partOf] using this
    have ih := idx81Loop t hlen hf hF k (i + 1) st (by omega)
    rw [hd, List.any_cons]
    cases hpi : p l[i] with
    | true =>
      rw [hpi] at hp
      simp only [Bool.true_or, if_true]
      refine ⟨i, ?_⟩
      rw [runL_loop]
      simp only [s81b0]
      simp [h1, opLoad_ep, h2, hp, -partOf]
    | false =>
      rw [hpi] at hp
      simp only [Bool.false_or]
      have step : runL T (.loop [0, 1, 7, 8] s81b0) { s := [(0, .sl ds l.length t), (1, .fn F []), (7, .v (.int .i64 l.length)), (8, .v (.int .i64 i))], d := [] } st =
          runL T (.loop [0, 1, 7, 8] s81b0) { s := [(0, .sl ds l.length t), (1, .fn F []), (7, .v (.int .i64 l.length)), (8, .v (.int .i64 (i + 1 : Nat)))], d := [] } st := by
        rw [runL_loop]
        generalize hL : SCode.loop [0, 1, 7, 8] s81b0 = L
        simp only [s81b0]
        simp [h1, opLoad_ep, h2, hp, hw, -partOf]
        subst hL
        refine loop_from ?_
        simp
      rw [step]
      exact ih

theorem has81 {α : Type} {g : α → AV} {p : α → Bool} {F : Nat} {l : List α} {ds : List AV} {y : AV} (hlen : l.length ≤ 1000000) (hf : Flat (fun x => [g x]) 1 l ds) (hy : IsL 1 y ds l.length)
    (hF : ∀ x ∈ l, ∀ (st : St), callL T F [g x] st = some (.ret (.v (.bool (p x))), st)) (st : St) : callL T 45 [y, .fn F []] st = some (.ret (.v (.bool (l.any p))), st) := by
  obtain ⟨y', hy1, hy2, _⟩ := hy.exp st
  rw [call_plain T45 rfl rfl (show expA st [y, .fn F []] = some ([y', .fn F []], st) by simp [expA, hy1])]
  have key : ∃ r : Int, callL T 81 [y', .fn F []] .mt = some (.ret (.v (.int .i64 r)), .mt) ∧ decide (0 ≤ r) = l.any p := by
    obtain ⟨y2, hz1, hz2, _⟩ := hy2.exp .mt
    rw [call_plain T81 rfl rfl (show expA .mt [y', .fn F []] = some ([y2, .fn F []], .mt) by simp [expA, hz1])]
    generalize hn : l.length = n at hz2
    cases hz2 with
    | nil =>
      have : l = [] := List.eq_nil_of_length_eq_zero hn
      subst this
      refine ⟨-1, ?_, by simp⟩
      simp [inner_eq, s81, dropped, expR]
      rw [runL_loop]
      simp [s81b0]
    | @sl _ _ t ht hl =>
      subst hn
      have hL := idx81Loop t hlen hf hF l.length 0 .mt (Nat.zero_add _)
      rw [List.drop_zero] at hL
      cases ha : l.any p with
      | true =>
        rw [ha, if_pos rfl] at hL
        obtain ⟨j, hr⟩ := hL
        refine ⟨j, ?_, by simp⟩
        have hu := loop_use hr
        simp [inner_eq, s81]
        rw [hu _ (by simp)]
        simp [dropped, expR]
      | false =>
        rw [ha, if_neg (by simp)] at hL
        obtain ⟨fr', hr, hfr⟩ := hL
        refine ⟨-1, ?_, by simp⟩
        have hu := loop_use hr
        simp [inner_eq, s81]
        rw [hu _ (by simp)]
        simp [hfr, dropped, expR]
  obtain ⟨r, hr, he⟩ := key
  simp [inner_eq, s45, hr, dropped, expR, he]

theorem idx82Loop {α : Type} {g : α → List AV} {p : α → Bool} {F : Nat} {l : List α} {ds : List AV} (t : Tag) (hlen : l.length ≤ 1000000) (hf : Flat g 2 l ds)
    (hF : ∀ x ∈ l, ∀ (st : St), callL T F [.agg (g x)] st = some (.ret (.v (.bool (p x))), st)) : ∀ (k i : Nat) (st : St), i + k = l.length →
    if (l.drop i).any p then ∃ j : Nat, runL T (.loop [0, 1, 7, 8] s82b0) { s := [(0, .sl ds l.length t), (1, .fn F []), (7, .v (.int .i64 l.length)), (8, .v (.int .i64 i))], d := [] } st = some (.rt, { s := [(4, .v (.int .i64 j))], d := [] }, st)
    else ∃ fr', runL T (.loop [0, 1, 7, 8] s82b0) { s := [(0, .sl ds l.length t), (1, .fn F []), (7, .v (.int .i64 l.length)), (8, .v (.int .i64 i))], d := [] } st = some (.ex 0, fr', st) ∧ fr'.only [] = { s := [], d := [] }
  | 0, i, st, hi => by
    have hd : l.drop i = [] := List.drop_eq_nil_of_le (by omega)
    rw [hd]
    simp only [List.any_nil, Bool.false_eq_true, if_false]
    refine ⟨?s, ?a, ?b⟩
    case a =>
      rw [runL_loop]
      have : ¬ (i : Int) < l.length := by omega
      simp [s82b0, this]
      rfl
    case b => simp
  | k + 1, i, st, hi => by
    have hlt : i < l.length := by omega
    have hd : l.drop i = l[i] :: l.drop (i + 1) := List.drop_eq_getElem_cons hlt
    have hmem : l[i] ∈ l := List.getElem_mem hlt
    have hp := hF _ hmem st
    have hw : IntKind.wrap .i64 ((i : Int) + 1) = ((i + 1 : Nat) : Int) := by rw [wrap_i64 (by omega) (by omega)]; omega
    have h1 : (i : Int) < l.length := by omega
    have hfl := hf.len
    have h2 : partOf ds (i * 2) (some 2) = some (.agg (g l[i])) := partOf_some (by omega) (hf.at_ i hlt)
    have ih := idx82Loop t hlen hf hF k (i + 1) st (by omega)
    rw [hd, List.any_cons]
    cases hpi : p l[i] with
    | true =>
      rw [hpi] at hp
      simp only [Bool.true_or, if_true]
      refine ⟨i, ?_⟩
      rw [runL_loop]
      simp only [s82b0]
      simp [h1, opLoad_ep, h2, hp, -partOf]
    | false =>
      rw [hpi] at hp
      simp only [Bool.false_or]
      have step : runL T (.loop [0, 1, 7, 8] s82b0) { s := [(0, .sl ds l.length t), (1, .fn F []), (7, .v (.int .i64 l.length)), (8, .v (.int .i64 i))], d := [] } st =
          runL T (.loop [0, 1, 7, 8] s82b0) { s := [(0, .sl ds l.length t), (1, .fn F []), (7, .v (.int .i64 l.length)), (8, .v (.int .i64 (i + 1 : Nat)))], d := [] } st := by
        rw [runL_loop]
        generalize hL : SCode.loop [0, 1, 7, 8] s82b0 = L
        simp only [s82b0]
        simp [h1, opLoad_ep, h2, hp, hw, -partOf]
        subst hL
        refine loop_from ?_
        simp
      rw [step]
      exact ih

theorem has82 {α : Type} {g : α → List AV} {p : α → Bool} {F : Nat} {l : List α} {ds : List AV} {y : AV} (hlen : l.length ≤ 1000000) (hf : Flat g 2 l ds) (hy : IsL 2 y ds l.length)
    (hF : ∀ x ∈ l, ∀ (st : St), callL T F [.agg (g x)] st = some (.ret (.v (.bool (p x))), st)) (st : St) : callL T 47 [y, .fn F []] st = some (.ret (.v (.bool (l.any p))), st) := by
  obtain ⟨y', hy1, hy2, _⟩ := hy.exp st
  rw [call_plain T47 rfl rfl (show expA st [y, .fn F []] = some ([y', .fn F []], st) by simp [expA, hy1])]
  have key : ∃ r : Int, callL T 82 [y', .fn F []] .mt = some (.ret (.v (.int .i64 r)), .mt) ∧ decide (0 ≤ r) = l.any p := by
    obtain ⟨y2, hz1, hz2, _⟩ := hy2.exp .mt
    rw [call_plain T82 rfl rfl (show expA .mt [y', .fn F []] = some ([y2, .fn F []], .mt) by simp [expA, hz1])]
    generalize hn : l.length = n at hz2
    cases hz2 with
    | nil =>
      have : l = [] := List.eq_nil_of_length_eq_zero hn
      subst this
      refine ⟨-1, ?_, by simp⟩
      simp [inner_eq, s82, dropped, expR]
      rw [runL_loop]
      simp [s82b0]
    | @sl _ _ t ht hl =>
      subst hn
      have hL := idx82Loop t hlen hf hF l.length 0 .mt (Nat.zero_add _)
      rw [List.drop_zero] at hL
      cases ha : l.any p with
      | true =>
        rw [ha, if_pos rfl] at hL
        obtain ⟨j, hr⟩ := hL
        refine ⟨j, ?_, by simp⟩
        have hu := loop_use hr
        simp [inner_eq, s82]
        rw [hu _ (by simp)]
        simp [dropped, expR]
      | false =>
        rw [ha, if_neg (by simp)] at hL
        obtain ⟨fr', hr, hfr⟩ := hL
        refine ⟨-1, ?_, by simp⟩
        have hu := loop_use hr
        simp [inner_eq, s82]
        rw [hu _ (by simp)]
        simp [hfr, dropped, expR]
  obtain ⟨r, hr, he⟩ := key
  simp [inner_eq, s47, hr, dropped, expR, he]

theorem idx83Loop {α : Type} {g : α → List AV} {p : α → Bool} {F : Nat} {l : List α} {ds : List AV} (t : Tag) (hlen : l.length ≤ 1000000) (hf : Flat g 3 l ds)
    (hF : ∀ x ∈ l, ∀ (st : St), callL T F [.agg (g x)] st = some (.ret (.v (.bool (p x))), st)) : ∀ (k i : Nat) (st : St), i + k = l.length →
    if (l.drop i).any p then ∃ j : Nat, runL T (.loop [0, 1, 7, 8] s83b0) { s := [(0, .sl ds l.length t), (1, .fn F []), (7, .v (.int .i64 l.length)), (8, .v (.int .i64 i))], d := [] } st = some (.rt, { s := [(4, .v (.int .i64 j))], d := [] }, st)
    else ∃ fr', runL T (.loop [0, 1, 7, 8] s83b0) { s := [(0, .sl ds l.length t), (1, .fn F []), (7, .v (.int .i64 l.length)), (8, .v (.int .i64 i))], d := [] } st = some (.ex 0, fr', st) ∧ fr'.only [] = { s := [], d := [] }
  | 0, i, st, hi => by
    have hd : l.drop i = [] := List.drop_eq_nil_of_le (by omega)
    rw [hd]
    simp only [List.any_nil, Bool.false_eq_true, if_false]
    refine ⟨?s, ?a, ?b⟩
    case a =>
      rw [runL_loop]
      have : ¬ (i : Int) < l.length := by omega
      simp [s83b0, this]
      rfl
    case b => simp
  | k + 1, i, st, hi => by
    have hlt : i < l.length := by omega
    have hd : l.drop i = l[i] :: l.drop (i + 1) := List.drop_eq_getElem_cons hlt
    have hmem : l[i] ∈ l := List.getElem_mem hlt
    have hp := hF _ hmem st
    have hw : IntKind.wrap .i64 ((i : Int) + 1) = ((i + 1 : Nat) : Int) := by rw [wrap_i64 (by omega) (by omega)]; omega
    have h1 : (i : Int) < l.length := by omega
    have hfl := hf.len
    have h2 : partOf ds (i * 3) (some 3) = some (.agg (g l[i])) := partOf_some (by omega) (hf.at_ i hlt)
    have ih := idx83Loop t hlen hf hF k (i + 1) st (by omega)
    rw [hd, List.any_cons]
    cases hpi : p l[i] with
    | true =>
      rw [hpi] at hp
      simp only [Bool.true_or, if_true]
      refine ⟨i, ?_⟩
      rw [runL_loop]
      simp only [s83b0]
      simp [h1, opLoad_ep, h2, hp, -partOf]
    | false =>
      rw [hpi] at hp
      simp only [Bool.false_or]
      have step : runL T (.loop [0, 1, 7, 8] s83b0) { s := [(0, .sl ds l.length t), (1, .fn F []), (7, .v (.int .i64 l.length)), (8, .v (.int .i64 i))], d := [] } st =
          runL T (.loop [0, 1, 7, 8] s83b0) { s := [(0, .sl ds l.length t), (1, .fn F []), (7, .v (.int .i64 l.length)), (8, .v (.int .i64 (i + 1 : Nat)))], d := [] } st := by
        rw [runL_loop]
        generalize hL : SCode.loop [0, 1, 7, 8] s83b0 = L
        simp only [s83b0]
        simp [h1, opLoad_ep, h2, hp, hw, -partOf]
        subst hL
        refine loop_from ?_
        simp
      rw [step]
      exact ih

theorem has83 {α : Type} {g : α → List AV} {p : α → Bool} {F : Nat} {l : List α} {ds : List AV} {y : AV} (hlen : l.length ≤ 1000000) (hf : Flat g 3 l ds) (hy : IsL 3 y ds l.length)
    (hF : ∀ x ∈ l, ∀ (st : St), callL T F [.agg (g x)] st = some (.ret (.v (.bool (p x))), st)) (st : St) : callL T 49 [y, .fn F []] st = some (.ret (.v (.bool (l.any p))), st) := by
  obtain ⟨y', hy1, hy2, _⟩ := hy.exp st
  rw [call_plain T49 rfl rfl (show expA st [y, .fn F []] = some ([y', .fn F []], st) by simp [expA, hy1])]
  have key : ∃ r : Int, callL T 83 [y', .fn F []] .mt = some (.ret (.v (.int .i64 r)), .mt) ∧ decide (0 ≤ r) = l.any p := by
    obtain ⟨y2, hz1, hz2, _⟩ := hy2.exp .mt
    rw [call_plain T83 rfl rfl (show expA .mt [y', .fn F []] = some ([y2, .fn F []], .mt) by simp [expA, hz1])]
    generalize hn : l.length = n at hz2
    cases hz2 with
    | nil =>
      have : l = [] := List.eq_nil_of_length_eq_zero hn
      subst this
      refine ⟨-1, ?_, by simp⟩
      simp [inner_eq, s83, dropped, expR]
      rw [runL_loop]
      simp [s83b0]
    | @sl _ _ t ht hl =>
      subst hn
      have hL := idx83Loop t hlen hf hF l.length 0 .mt (Nat.zero_add _)
      rw [List.drop_zero] at hL
      cases ha : l.any p with
      | true =>
        rw [ha, if_pos rfl] at hL
        obtain ⟨j, hr⟩ := hL
        refine ⟨j, ?_, by simp⟩
        have hu := loop_use hr
        simp [inner_eq, s83]
        rw [hu _ (by simp)]
        simp [dropped, expR]
      | false =>
        rw [ha, if_neg (by simp)] at hL
        obtain ⟨fr', hr, hfr⟩ := hL
        refine ⟨-1, ?_, by simp⟩
        have hu := loop_use hr
        simp [inner_eq, s83]
        rw [hu _ (by simp)]
        simp [hfr, dropped, expR]
  obtain ⟨r, hr, he⟩ := key
  simp [inner_eq, s49, hr, dropped, expR, he]

end VS
end Go.Proofs.Ytohfbjgcfbkgnaa
