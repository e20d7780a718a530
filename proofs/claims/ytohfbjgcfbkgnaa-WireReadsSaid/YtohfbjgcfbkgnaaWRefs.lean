/- ref.PutSectors, ref.PutExtents, ref.PutWrites; few. -/
import Derived.Test.YtohfbjgcfbkgnaaWElem
namespace Go.Proofs.Ytohfbjgcfbkgnaa
namespace VS

theorem bys_get (l : List Int) (j : Nat) (h : j < l.length) : (bys l)[j]? = some (.v (.int .u8 l[j])) := by simp [bys, h]

theorem ref22In {l : List (List Int)} {ds : List AV} (t : Tag) (hf : Flat bys 8 l ds) (hs : ∀ s ∈ l, Sec s) (i : Nat) (hi : i < l.length) : ∀ (k j : Nat) (x : AV) (cs : List AV) (m : Nat) (st : St), App st 1 x cs m → j + k = 8 → m + k ≤ 549755813888 →
    ∃ y fr' st', runL T (.loop [1, 5, 6, 7] s22b0) { s := [(1, .sl ds l.length t), (5, x), (6, .v (.int .i64 i)), (7, .v (.int .i64 j))], d := [] } st = some (.ex 2, fr', st') ∧ fr'.only [1, 5, 6] = { s := [(1, .sl ds l.length t), (5, y), (6, .v (.int .i64 i))], d := [] } ∧
      App st' 1 y (cs ++ bys (l[i].drop j)) (m + (l[i].drop j).length)
  | 0, j, x, cs, m, st, hx, hj, _ => by
    have h8 := (hs _ (List.getElem_mem hi)).1
    have hd : l[i].drop j = [] := List.drop_eq_nil_of_le (by omega)
    refine ⟨x, ?s, st, ?a, ?b, by rw [hd]; simpa using hx⟩
    case a =>
      rw [runL_loop]
      have : ¬ (j : Int) < 8 := by omega
      simp [s22b0, this]
      rfl
    case b => simp
  | k + 1, j, x, cs, m, st, hx, hj, hm => by
    have h8 := (hs _ (List.getElem_mem hi)).1
    have hlt : j < l[i].length := by omega
    have hd : l[i].drop j = l[i][j] :: l[i].drop (j + 1) := List.drop_eq_getElem_cons hlt
    obtain ⟨u, st1, hap, hA, _⟩ := app_append (bytes := 1) hx (y := .sl [.v (.int .u8 l[i][j])] 1 .full) (ds := [.v (.int .u8 l[i][j])]) (m := 1) (.sl (by simp) (by simp)) (by omega) (by simp only [most47]; omega) (by omega)
    obtain ⟨y, fr', st', hr, hfr, hA'⟩ := ref22In t hf hs i hi k (j + 1) u _ _ st1 hA (by omega) (by omega)
    refine ⟨y, fr', st', ?_, hfr, ?_⟩
    · rw [runL_loop]
      generalize hL : SCode.loop [1, 5, 6, 7] s22b0 = L
      have hw : IntKind.wrap .i64 ((j : Int) + 1) = ((j + 1 : Nat) : Int) := by rw [wrap_i64 (by omega) (by omega)]; omega
      have h1 : (i : Int) < l.length := by omega
      have h2 : (j : Int) < 8 := by omega
      have h3 : partOf ds (i * 8 + j) none = some (.v (.int .u8 l[i][j])) := by
        have := hf.fld i j hi (by omega)
        rw [bys_get _ _ hlt] at this
        simpa [partOf] using this
      simp only [s22b0]
      simp [h1, h2, opLoad_ep, h3, hap, hw, -partOf]
      subst hL
      refine (loop_from ?_).trans hr
      simp
    · rw [hd]
      have e1 : cs ++ bys (l[i][j] :: l[i].drop (j + 1)) = cs ++ [.v (.int .u8 l[i][j])] ++ bys (l[i].drop (j + 1)) := by rw [List.append_assoc]; rfl
      have e2 : m + (l[i][j] :: l[i].drop (j + 1)).length = m + 1 + (l[i].drop (j + 1)).length := by rw [List.length_cons]; omega
      rw [e1, e2]
      exact hA'

theorem ref22Loop {l : List (List Int)} {ds : List AV} (t : Tag) (hf : Flat bys 8 l ds) (hlen : l.length ≤ 1000000) (hs : ∀ s ∈ l, Sec s) : ∀ (k i : Nat) (x : AV) (cs : List AV) (m : Nat) (st : St), App st 1 x cs m → i + k = l.length → m + 8 * k ≤ 137438953472 →
    ∃ y fr' st', runL T (.loop [1, 5, 6] s22b1) { s := [(1, .sl ds l.length t), (5, x), (6, .v (.int .i64 i))], d := [] } st = some (.ex 0, fr', st') ∧ fr'.only [5] = { s := [(5, y)], d := [] } ∧
      App st' 1 y (cs ++ bys ((l.drop i).flatMap id)) (m + ((l.drop i).flatMap id).length)
  | 0, i, x, cs, m, st, hx, hi, _ => by
    have hd : l.drop i = [] := List.drop_eq_nil_of_le (by omega)
    refine ⟨x, ?s, st, ?a, ?b, by rw [hd]; simpa using hx⟩
    case a =>
      rw [runL_loop]
      have : ¬ (i : Int) < l.length := by omega
      simp [s22b1, this]
      rfl
    case b => simp
  | k + 1, i, x, cs, m, st, hx, hi, hm => by
    have hlt : i < l.length := by omega
    have hd : l.drop i = l[i] :: l.drop (i + 1) := List.drop_eq_getElem_cons hlt
    have hw : IntKind.wrap .i64 ((i : Int) + 1) = ((i + 1 : Nat) : Int) := by rw [wrap_i64 (by omega) (by omega)]; omega
    have h1 : (i : Int) < l.length := by omega
    have hin := ref22In t hf hs i hlt 8 0 x cs m st hx rfl (by omega)
    rw [List.drop_zero] at hin
    obtain ⟨u, fr1, stN, hr1, hfr1, hA⟩ := hin
    have h8 := (hs _ (List.getElem_mem hlt)).1
    have hu := loop_use hr1
    change App stN 1 u (cs ++ bys (id l[i])) (m + (id l[i]).length) at hA
    have h8' : (id l[i]).length = 8 := h8
    obtain ⟨y, fr', st', hr, hfr, hA'⟩ := ref22Loop t hf hlen hs k (i + 1) u _ _ stN hA (by omega) (by omega)
    refine ⟨y, fr', st', ?_, hfr, ?_⟩
    · rw [runL_loop]
      generalize hL : SCode.loop [1, 5, 6] s22b1 = L
      simp only [s22b1]
      simp [h1]
      rw [hu _ (by simp)]
      simp [hfr1, hw]
      subst hL
      refine (loop_from ?_).trans hr
      simp
    · rw [hd, List.flatMap_cons, bys_append, ← List.append_assoc]
      simpa [Nat.add_assoc] using hA'

/-- ref, of a list -/
theorem ref22 {l : List (List Int)} {x y : AV} {cs : List AV} {m : Nat} (hs : ∀ s ∈ l, Sec s) (hlen : l.length ≤ 1000000) (hx : IsL 1 x cs m) (hy : IsL 8 y (l.flatMap bys) l.length) (hm : m ≤ 68719476736) (st : St) :
    ∃ z st', callL T 22 [x, y] st = some (.ret z, st') ∧ App st' 1 z (cs ++ bys (enc l.length ++ l.flatMap id)) (m + (enc l.length ++ l.flatMap id).length) ∧ st'.H = st.H := by
  obtain ⟨x', hx1, hx2, _⟩ := hx.exp st
  obtain ⟨y', hy1, hy2, _⟩ := hy.exp st
  rw [call_keep T22 rfl rfl (show expA st [x, y] = some ([x', y'], st) by simp [expA, hx1, hy1])]
  obtain ⟨u, st0, hp, hA0, _⟩ := refPutInt l.length hx2 (by omega) .mt
  have hle := (enc_length l.length).2
  have hlk := hy2.len
  generalize hn : l.length = n at hy2
  generalize hc : l.flatMap bys = ds at hy2
  cases hy2 with
  | nil =>
    have : l = [] := List.eq_nil_of_length_eq_zero hn
    subst this
    obtain ⟨y', st', hk, hA', hH'⟩ := kept_app (st := st) hA0
    refine ⟨y', st', ?_, by simpa using hA', hH'⟩
    simp at hp
    simp [inner_eq, s22, hp]
    rw [runL_loop]
    simp [s22b1, hk]
  | @sl _ _ t ht hl' =>
    subst hc; subst hn
    obtain ⟨y, fr', st1, hr, hfr, hA⟩ := ref22Loop t (flat_sec hs) hlen hs l.length 0 u _ _ st0 hA0 (by omega) (by omega)
    obtain ⟨y', st', hk, hA', hH'⟩ := kept_app (st := st) hA
    refine ⟨y', st', ?_, ?_, hH'⟩
    · have hu := loop_use hr
      simp [inner_eq, s22, hp]
      rw [hu _ (by simp)]
      simp [hfr, hk]
    · rw [List.drop_zero] at hA'
      simpa [bys_append, Nat.add_assoc] using hA'

theorem ref24Loop {l : List (Int × Int)} {ds : List AV} (t : Tag) (hf : Flat gx 2 l ds) (hlen : l.length ≤ 1000000) : ∀ (k i : Nat) (x : AV) (cs : List AV) (m : Nat) (st : St), App st 1 x cs m → i + k = l.length → m + 18 * k ≤ 137438953472 →
    ∃ y fr' st', runL T (.loop [1, 5, 6] s24b0) { s := [(1, .sl ds l.length t), (5, x), (6, .v (.int .i64 i))], d := [] } st = some (.ex 0, fr', st') ∧ fr'.only [5] = { s := [(5, y)], d := [] } ∧
      App st' 1 y (cs ++ bys ((l.drop i).flatMap ex)) (m + ((l.drop i).flatMap ex).length)
  | 0, i, x, cs, m, st, hx, hi, _ => by
    have hd : l.drop i = [] := List.drop_eq_nil_of_le (by omega)
    refine ⟨x, ?s, st, ?a, ?b, by rw [hd]; simpa using hx⟩
    case a =>
      rw [runL_loop]
      have : ¬ (i : Int) < l.length := by omega
      simp [s24b0, this]
      rfl
    case b => simp
  | k + 1, i, x, cs, m, st, hx, hi, hm => by
    have hlt : i < l.length := by omega
    have hd : l.drop i = l[i] :: l.drop (i + 1) := List.drop_eq_getElem_cons hlt
    have hw : IntKind.wrap .i64 ((i : Int) + 1) = ((i + 1 : Nat) : Int) := by rw [wrap_i64 (by omega) (by omega)]; omega
    have h1 : (i : Int) < l.length := by omega
    have hle1 := (enc_length l[i].1).2
    have hle2 := (enc_length l[i].2).2
    obtain ⟨v, st1, hp1, hA1, _⟩ := refPutInt l[i].1 hx.isL (by omega) st
    obtain ⟨u, stN, hp2, hA2, _⟩ := refPutInt l[i].2 hA1.isL (by omega) st1
    have hA : App stN 1 u (cs ++ bys (ex l[i])) (m + (ex l[i]).length) := by simpa [ex, bys_append, Nat.add_assoc] using hA2
    have hexl := ex_le l[i]
    have h3 : partOf ds (i * 2) none = some (.v (.int .i64 l[i].1)) := by
      have := hf.fld i 0 hlt (by omega)
      simpa [partOf, gx] using this
    have h4 : partOf ds (i * 2 + 1) none = some (.v (.int .i64 l[i].2)) := by
      have := hf.fld i 1 hlt (by omega)
      simpa [partOf, gx] using this
    obtain ⟨y, fr', st', hr, hfr, hA'⟩ := ref24Loop t hf hlen k (i + 1) u _ _ stN hA (by omega) (by omega)
    refine ⟨y, fr', st', ?_, hfr, ?_⟩
    · rw [runL_loop]
      generalize hL : SCode.loop [1, 5, 6] s24b0 = L
      simp only [s24b0]
      simp [h1, opLoad_ep, h3, h4, hp1, hp2, hw, -partOf]
      subst hL
      refine (loop_from ?_).trans hr
      simp
    · rw [hd, List.flatMap_cons, bys_append, ← List.append_assoc]
      simpa [Nat.add_assoc] using hA'

/-- ref, of a list -/
theorem ref24 {l : List (Int × Int)} {x y : AV} {cs : List AV} {m : Nat} (hlen : l.length ≤ 1000000) (hx : IsL 1 x cs m) (hy : IsL 2 y (l.flatMap gx) l.length) (hm : m ≤ 68719476736) (st : St) :
    ∃ z st', callL T 24 [x, y] st = some (.ret z, st') ∧ App st' 1 z (cs ++ bys (enc l.length ++ l.flatMap ex)) (m + (enc l.length ++ l.flatMap ex).length) ∧ st'.H = st.H := by
  obtain ⟨x', hx1, hx2, _⟩ := hx.exp st
  obtain ⟨y', hy1, hy2, _⟩ := hy.exp st
  rw [call_keep T24 rfl rfl (show expA st [x, y] = some ([x', y'], st) by simp [expA, hx1, hy1])]
  obtain ⟨u, st0, hp, hA0, _⟩ := refPutInt l.length hx2 (by omega) .mt
  have hle := (enc_length l.length).2
  have hlk := hy2.len
  generalize hn : l.length = n at hy2
  generalize hc : l.flatMap gx = ds at hy2
  cases hy2 with
  | nil =>
    have : l = [] := List.eq_nil_of_length_eq_zero hn
    subst this
    obtain ⟨y', st', hk, hA', hH'⟩ := kept_app (st := st) hA0
    refine ⟨y', st', ?_, by simpa using hA', hH'⟩
    simp at hp
    simp [inner_eq, s24, hp]
    rw [runL_loop]
    simp [s24b0, hk]
  | @sl _ _ t ht hl' =>
    subst hc; subst hn
    obtain ⟨y, fr', st1, hr, hfr, hA⟩ := ref24Loop t (flat_ext l) hlen l.length 0 u _ _ st0 hA0 (by omega) (by omega)
    obtain ⟨y', st', hk, hA', hH'⟩ := kept_app (st := st) hA
    refine ⟨y', st', ?_, ?_, hH'⟩
    · have hu := loop_use hr
      simp [inner_eq, s24, hp]
      rw [hu _ (by simp)]
      simp [hfr, hk]
    · rw [List.drop_zero] at hA'
      simpa [bys_append, Nat.add_assoc] using hA'

theorem ref26Loop {l : List (Wr)} {ds : List AV} (t : Tag) (hf : Flat gw 3 l ds) (hlen : l.length ≤ 1000000) (hs : ∀ w ∈ l, w.Ok) : ∀ (k i : Nat) (x : AV) (cs : List AV) (m : Nat) (st : St), App st 1 x cs m → i + k = l.length → m + 8027 * k ≤ 17179869184 →
    ∃ y fr' st', runL T (.loop [1, 5, 6] s26b0) { s := [(1, .sl ds l.length t), (5, x), (6, .v (.int .i64 i))], d := [] } st = some (.ex 0, fr', st') ∧ fr'.only [5] = { s := [(5, y)], d := [] } ∧
      App st' 1 y (cs ++ bys ((l.drop i).flatMap ew)) (m + ((l.drop i).flatMap ew).length)
  | 0, i, x, cs, m, st, hx, hi, _ => by
    have hd : l.drop i = [] := List.drop_eq_nil_of_le (by omega)
    refine ⟨x, ?s, st, ?a, ?b, by rw [hd]; simpa using hx⟩
    case a =>
      rw [runL_loop]
      have : ¬ (i : Int) < l.length := by omega
      simp [s26b0, this]
      rfl
    case b => simp
  | k + 1, i, x, cs, m, st, hx, hi, hm => by
    have hlt : i < l.length := by omega
    have hd : l.drop i = l[i] :: l.drop (i + 1) := List.drop_eq_getElem_cons hlt
    have hw : IntKind.wrap .i64 ((i : Int) + 1) = ((i + 1 : Nat) : Int) := by rw [wrap_i64 (by omega) (by omega)]; omega
    have h1 : (i : Int) < l.length := by omega
    have hok := hs _ (List.getElem_mem hlt)
    have hfew := hok.few
    have hle1 := (enc_length l[i].vol).2
    have hle2 := (enc_length l[i].start).2
    obtain ⟨v, st1, hp1, hA1, _⟩ := refPutInt l[i].vol hx.isL (by omega) st
    obtain ⟨v2, st2, hp2, hA2, _⟩ := refPutInt l[i].start hA1.isL (by omega) st1
    obtain ⟨u, stN, hp3, hA3, _⟩ := ref22 hok.sec (by omega) hA2.isL hok.isL (by omega) st2
    have hA : App stN 1 u (cs ++ bys (ew l[i])) (m + (ew l[i]).length) := by simpa [ew, es, bys_append, Nat.add_assoc] using hA3
    have hexl := ew_le hok
    have h3 : partOf ds (i * 3) none = some (.v (.int .i64 l[i].vol)) := by
      have := hf.fld i 0 hlt (by omega)
      simpa [partOf, gw] using this
    have h4 : partOf ds (i * 3 + 1) none = some (.v (.int .i64 l[i].start)) := by
      have := hf.fld i 1 hlt (by omega)
      simpa [partOf, gw] using this
    have h5 : partOf ds (i * 3 + 2) none = some l[i].dat := by
      have := hf.fld i 2 hlt (by omega)
      simpa [partOf, gw] using this
    obtain ⟨y, fr', st', hr, hfr, hA'⟩ := ref26Loop t hf hlen hs k (i + 1) u _ _ stN hA (by omega) (by omega)
    refine ⟨y, fr', st', ?_, hfr, ?_⟩
    · rw [runL_loop]
      generalize hL : SCode.loop [1, 5, 6] s26b0 = L
      simp only [s26b0]
      simp [h1, opLoad_ep, h3, h4, h5, hp1, hp2, hp3, hw, -partOf]
      subst hL
      refine (loop_from ?_).trans hr
      simp
    · rw [hd, List.flatMap_cons, bys_append, ← List.append_assoc]
      simpa [Nat.add_assoc] using hA'

/-- ref, of a list -/
theorem ref26 {l : List (Wr)} {x y : AV} {cs : List AV} {m : Nat} (hs : ∀ w ∈ l, w.Ok) (hlen : l.length ≤ 1000000) (hx : IsL 1 x cs m) (hy : IsL 3 y (l.flatMap gw) l.length) (hm : m ≤ 8589934592) (st : St) :
    ∃ z st', callL T 26 [x, y] st = some (.ret z, st') ∧ App st' 1 z (cs ++ bys (enc l.length ++ l.flatMap ew)) (m + (enc l.length ++ l.flatMap ew).length) ∧ st'.H = st.H := by
  obtain ⟨x', hx1, hx2, _⟩ := hx.exp st
  obtain ⟨y', hy1, hy2, _⟩ := hy.exp st
  rw [call_keep T26 rfl rfl (show expA st [x, y] = some ([x', y'], st) by simp [expA, hx1, hy1])]
  obtain ⟨u, st0, hp, hA0, _⟩ := refPutInt l.length hx2 (by omega) .mt
  have hle := (enc_length l.length).2
  have hlk := hy2.len
  generalize hn : l.length = n at hy2
  generalize hc : l.flatMap gw = ds at hy2
  cases hy2 with
  | nil =>
    have : l = [] := List.eq_nil_of_length_eq_zero hn
    subst this
    obtain ⟨y', st', hk, hA', hH'⟩ := kept_app (st := st) hA0
    refine ⟨y', st', ?_, by simpa using hA', hH'⟩
    simp at hp
    simp [inner_eq, s26, hp]
    rw [runL_loop]
    simp [s26b0, hk]
  | @sl _ _ t ht hl' =>
    subst hc; subst hn
    obtain ⟨y, fr', st1, hr, hfr, hA⟩ := ref26Loop t (flat_wr l) hlen hs l.length 0 u _ _ st0 hA0 (by omega) (by omega)
    obtain ⟨y', st', hk, hA', hH'⟩ := kept_app (st := st) hA
    refine ⟨y', st', ?_, ?_, hH'⟩
    · have hu := loop_use hr
      simp [inner_eq, s26, hp]
      rw [hu _ (by simp)]
      simp [hfr, hk]
    · rw [List.drop_zero] at hA'
      simpa [bys_append, Nat.add_assoc] using hA'

end VS
end Go.Proofs.Ytohfbjgcfbkgnaa
