/- PutInt of the reference, PutBytes, PutInts. -/
import Derived.Test.YtohfbjgcfbkgnaaWSizes
namespace Go.Proofs.Ytohfbjgcfbkgnaa
namespace VS

theorem IsL.len {sz : Nat} {x : AV} {cs : List AV} {n : Nat} (h : IsL sz x cs n) (st : St) : lenK (some x) st = some (.ret (.v (.int .i64 n)), st) := by
  cases h <;> simp
theorem IsL.cells {sz : Nat} {x : AV} {cs : List AV} {n : Nat} (h : IsL sz x cs n) : cs.length = n * sz := by
  cases h with
  | nil => simp
  | sl _ h => exact h

def ints (l : List Int) : List AV := l.map fun n => .v (.int .i64 n)
@[simp] theorem ints_length (l : List Int) : (ints l).length = l.length := by simp [ints]
theorem ints_get (l : List Int) (i : Nat) (h : i < l.length) : (ints l)[i]? = some (.v (.int .i64 l[i])) := by simp [ints, h]

def encs (l : List Int) : List Int := l.flatMap enc
theorem encs_cons (n : Int) (l : List Int) : encs (n :: l) = enc n ++ encs l := by simp [encs]
theorem encs_le (l : List Int) : (encs l).length ≤ 9 * l.length := by
  induction l with
  | nil => simp [encs]
  | cons n r ih => rw [encs_cons, List.length_append, List.length_cons]; have := (enc_length n).2; omega
theorem Byt.append {a b : List Int} (ha : Byt a) (hb : Byt b) : Byt (a ++ b) := by
  intro x hx
  rcases List.mem_append.1 hx with h | h
  · exact ha x h
  · exact hb x h
theorem encs_byt (l : List Int) : Byt (encs l) := by
  intro x hx
  obtain ⟨n, _, hn⟩ := List.mem_flatMap.1 hx
  exact enc_byt n x hn

theorem refLoop (k : Nat) : ∀ (n : Int) (x : AV) (cs : List AV) (m : Nat) (st : St), App st 1 x cs m → 0 ≤ n → n < 128 ^ (k + 1) → k ≤ 8 → m + k ≤ 1099511627776 →
    ∃ y c l st', runL T (.loop [1, 5] s15b0) { s := [(1, .v (.int .i64 n)), (5, x)], d := [] } st = some (.ex 0, { s := [(1, .v (.int .i64 c)), (5, y), (16, .v (.bool false))], d := [] }, st') ∧
      encF k n = l ++ [c] ∧ 0 ≤ c ∧ c < 128 ∧ App st' 1 y (cs ++ bys l) (m + l.length) ∧ st'.H = st.H := by
  induction k with
  | zero =>
    intro n x cs m st hx h0 h1 hk hm
    refine ⟨x, n, [], st, ?_, by simp [encF], h0, by simpa using h1, by simpa using hx, rfl⟩
    rw [runL_loop]
    have : ¬ (127 < n) := by omega
    simp [s15b0, this]
  | succ k ih =>
    intro n x cs m st hx h0 h1 hk hm
    by_cases hn : n < 128
    · refine ⟨x, n, [], st, ?_, by simp [encF, hn], h0, hn, by simpa using hx, rfl⟩
      rw [runL_loop]
      have : ¬ (127 < n) := by omega
      simp [s15b0, this]
    · have hge : 127 < n := by omega
      have h2 : Int.tmod n 128 = n % 128 := Int.tmod_eq_emod_of_nonneg h0
      have h3 : IntKind.wrap .i64 (n % 128 + 128) = n % 128 + 128 := wrap_i64 (by omega) (by omega)
      have h4 : IntKind.wrap .u8 (n % 128 + 128) = n % 128 + 128 := by rw [wrap_u8]; omega
      obtain ⟨z, st1, happ, hA, hH⟩ := app_append (bytes := 1) hx (y := .sl [.v (.int .u8 (n % 128 + 128))] 1 .full) (ds := [.v (.int .u8 (n % 128 + 128))]) (m := 1) (.sl (by simp) (by simp)) (by omega) (by simp only [most47]; omega) (by omega)
      have hq : Int.tdiv n 128 = n / 128 := Int.tdiv_eq_ediv_of_nonneg h0
      have hqw : IntKind.wrap .i64 (n / 128) = n / 128 := wrap_i64 (by omega) (by
        have : (128 : Int) ^ (k + 1 + 1) ≤ 128 ^ 9 := by exact_mod_cast Nat.pow_le_pow_right (by omega : 0 < 128) (by omega)
        omega)
      have hlt : n / 128 < 128 ^ (k + 1) := by
        have : (128 : Int) ^ (k + 1 + 1) = 128 ^ (k + 1) * 128 := by rw [Int.pow_succ]
        omega
      obtain ⟨y, c, l, st', hr, he, h5, h6, h7, h8⟩ := ih (n / 128) z _ (m + 1) st1 hA (by omega) hlt (by omega) (by omega)
      refine ⟨y, c, (n % 128 + 128) :: l, st', ?_, by simp [encF, hn, he], h5, h6, ?_, h8.trans hH⟩
      · rw [runL_loop]
        generalize hL : SCode.loop [1, 5] s15b0 = L
        simp [s15b0, hge, h2, h3, h4, happ, hq, hqw]
        subst hL
        exact (loop_from (by simp)).trans hr
      · have : cs ++ bys ((n % 128 + 128) :: l) = cs ++ [.v (.int .u8 (n % 128 + 128))] ++ bys l := by simp [bys]
        rw [this]
        simpa [Nat.add_assoc, Nat.add_comm 1] using h7

/-- ref.PutInt -/
theorem refPutInt {x : AV} {cs : List AV} {m : Nat} (n : Int) (hx : IsL 1 x cs m) (hm : m ≤ 549755813888) (st : St) : ∃ y st', callL T 15 [x, .v (.int .i64 n)] st = some (.ret y, st') ∧ App st' 1 y (cs ++ bys (enc n)) (m + (enc n).length) ∧ st'.H = st.H := by
  obtain ⟨x', hx1, hx2, _⟩ := hx.exp st
  rw [call_keep T15 rfl rfl (show expA st [x, .v (.int .i64 n)] = some ([x', .v (.int .i64 n)], st) by simp [expA, hx1])]
  obtain ⟨u, st0, hap, hA0, _⟩ := app_append (st := .mt) (bytes := 1) .nil hx2 (by omega) (by simp only [most47]; omega) (by omega)
  rw [List.nil_append, Nat.zero_add] at hA0
  have hn := norm_in n
  obtain ⟨y, c, l, st1, hr, he, h0, h1, hA, _⟩ := refLoop 8 (norm n) u cs m st0 hA0 hn.1 hn.2 (by omega) (by omega)
  have hl : l.length ≤ 8 := by
    have := (encF_length 8 (norm n)).2
    rw [he] at this; simp at this; exact this
  obtain ⟨z, st2, happ, hA2, _⟩ := app_append (bytes := 1) hA (y := .sl [.v (.int .u8 c)] 1 .full) (ds := [.v (.int .u8 c)]) (m := 1) (.sl (by simp) (by simp)) (by omega) (by simp only [most47]; omega) (by omega)
  obtain ⟨y', st', hk, hA', hH'⟩ := kept_app (st := st) hA2
  refine ⟨y', st', ?_, ?_, hH'⟩
  · have hu := loop_use hr
    have hw : IntKind.wrap .u8 c = c := by rw [wrap_u8]; omega
    unfold norm at hu
    by_cases hlt : n < 0
    · simp [inner_eq, s15, hlt, hap]
      rw [hu _ (by simp [hlt])]
      simp [happ, hw, hk]
    · by_cases hgt : 9007199254740991 < n
      · simp [inner_eq, s15, hlt, hgt, hap]
        rw [hu _ (by simp [hgt])]
        simp [happ, hw, hk]
      · simp [inner_eq, s15, hlt, hgt, hap]
        rw [hu _ (by simp [hlt, hgt])]
        simp [happ, hw, hk]
  · have : enc n = l ++ [c] := he
    rw [this, bys_append, ← List.append_assoc]
    simpa [bys, Nat.add_assoc] using hA'

/-- wire.PutBytes -/
theorem putBytes {x b : AV} {cs ds : List AV} {m k : Nat} (hx : IsL 1 x cs m) (hb : IsL 1 b ds k) (hm : m ≤ 549755813888) (hk : k ≤ 274877906944) (st : St) :
    ∃ y st', callL T 16 [x, b] st = some (.ret y, st') ∧ App st' 1 y (cs ++ bys (enc k) ++ ds) (m + (enc k).length + k) ∧ st'.H = st.H := by
  obtain ⟨x', hx1, hx2, _⟩ := hx.exp st
  obtain ⟨b', hb1, hb2, _⟩ := hb.exp st
  rw [call_keep T16 rfl rfl (show expA st [x, b] = some ([x', b'], st) by simp [expA, hx1, hb1])]
  obtain ⟨u, st0, hp, hA0, _⟩ := PutInt k hx2 hm .mt
  have hle := (enc_length k).2
  obtain ⟨z, st1, hap, hA, _⟩ := app_append (bytes := 1) hA0 hb2 (by omega) (by simp only [most47]; omega) (by omega)
  obtain ⟨y', st', hk, hA', hH'⟩ := kept_app (st := st) hA
  exact ⟨y', st', by simp [inner_eq, s16, hb2.len, hp, hap, hk], hA', hH'⟩

/-- ref.PutBytes -/
theorem refPutBytes {x b : AV} {cs ds : List AV} {m k : Nat} (hx : IsL 1 x cs m) (hb : IsL 1 b ds k) (hm : m ≤ 549755813888) (hk : k ≤ 274877906944) (st : St) :
    ∃ y st', callL T 17 [x, b] st = some (.ret y, st') ∧ App st' 1 y (cs ++ bys (enc k) ++ ds) (m + (enc k).length + k) ∧ st'.H = st.H := by
  obtain ⟨x', hx1, hx2, _⟩ := hx.exp st
  obtain ⟨b', hb1, hb2, _⟩ := hb.exp st
  rw [call_keep T17 rfl rfl (show expA st [x, b] = some ([x', b'], st) by simp [expA, hx1, hb1])]
  obtain ⟨u, st0, hp, hA0, _⟩ := refPutInt k hx2 hm .mt
  have hle := (enc_length k).2
  obtain ⟨z, st1, hap, hA, _⟩ := app_append (bytes := 1) hA0 hb2 (by omega) (by simp only [most47]; omega) (by omega)
  obtain ⟨y', st', hk, hA', hH'⟩ := kept_app (st := st) hA
  exact ⟨y', st', by simp [inner_eq, s17, hb2.len, hp, hap, hk], hA', hH'⟩

theorem put52Loop (ns : List Int) (t : Tag) (hlen : ns.length ≤ 1000000) : ∀ (k i : Nat) (x : AV) (cs : List AV) (m : Nat) (st : St), App st 1 x cs m → i + k = ns.length → m + 9 * k ≤ 549755813888 →
    ∃ y fr' st', runL T (.loop [0, 2, 13, 14, 15] s52b0) { s := [(0, x), (2, .fn 51 []), (13, .sl (ints ns) ns.length t), (14, .v (.int .i64 ns.length)), (15, .v (.int .i64 i))], d := [] } st = some (.ex 0, fr', st') ∧ fr'.only [0] = { s := [(0, y)], d := [] } ∧
      App st' 1 y (cs ++ bys (encs (ns.drop i))) (m + (encs (ns.drop i)).length) ∧ st'.H = st.H
  | 0, i, x, cs, m, st, hx, hi, _ => by
    have hd : ns.drop i = [] := List.drop_eq_nil_of_le (by omega)
    refine ⟨x, ?s, st, ?a, ?b, by rw [hd]; simpa [encs] using hx, rfl⟩
    case a =>
      rw [runL_loop]
      have : ¬ (i : Int) < ns.length := by omega
      simp [s52b0, this]
      rfl
    case b => simp
  | k + 1, i, x, cs, m, st, hx, hi, hm => by
    have hlt : i < ns.length := by omega
    have hd : ns.drop i = ns[i] :: ns.drop (i + 1) := List.drop_eq_getElem_cons hlt
    obtain ⟨u, st1, hp, hA, hH⟩ := putInt ns[i] hx (by omega)
    have hle := (enc_length ns[i]).2
    obtain ⟨y, fr', st', hr, hfr, hA', hH'⟩ := put52Loop ns t hlen k (i + 1) u _ _ st1 hA (by omega) (by omega)
    refine ⟨y, fr', st', ?_, hfr, ?_, hH'.trans hH⟩
    · rw [runL_loop]
      generalize hL : SCode.loop [0, 2, 13, 14, 15] s52b0 = L
      have hw : IntKind.wrap .i64 ((i : Int) + 1) = ((i + 1 : Nat) : Int) := by rw [wrap_i64 (by omega) (by omega)]; omega
      have h1 : (i : Int) < ns.length := by omega
      have h2 := ints_get ns i hlt
      simp [s52b0, h1, opLoad, h2, hp, hw]
      subst hL
      refine (loop_from ?_).trans hr
      simp
    · rw [hd, encs_cons, bys_append, ← List.append_assoc]
      simpa [Nat.add_assoc] using hA'

/-- wire.put of numbers -/
theorem put52 {x l : AV} {cs : List AV} {m : Nat} {ns : List Int} {st : St} (hx : App st 1 x cs m) (hl : IsL 1 l (ints ns) ns.length) (hm : m ≤ 274877906944) (hlen : ns.length ≤ 1000000) :
    ∃ y st', callL T 52 [x, l, .fn 51 []] st = some (.ret y, st') ∧ App st' 1 y (cs ++ bys (enc ns.length ++ encs ns)) (m + (enc ns.length ++ encs ns).length) ∧ st'.H = st.H := by
  rw [call_whole T52 (.inl rfl) rfl]
  obtain ⟨u, st0, hp, hA0, hH0⟩ := putInt ns.length hx (by omega)
  have hle := (enc_length ns.length).2
  generalize hn : ns.length = n at hl
  generalize hc : ints ns = ds at hl
  cases hl with
  | nil =>
    have : ns = [] := List.eq_nil_of_length_eq_zero hn
    subst this
    refine ⟨u, st0, ?_, by simpa [encs] using hA0, hH0⟩
    simp at hp
    simp [inner_eq, s52, hp]
    rw [runL_loop]
    simp [s52b0]
  | @sl _ _ t ht hl =>
    subst hc; subst hn
    obtain ⟨y, fr', st1, hr, hfr, hA, hH⟩ := put52Loop ns t hlen ns.length 0 u _ _ st0 hA0 (by omega) (by omega)
    refine ⟨y, st1, ?_, ?_, hH.trans hH0⟩
    · have hu := loop_use hr
      simp [inner_eq, s52, hp]
      rw [hu _ (by simp)]
      simp [hfr]
    · rw [List.drop_zero] at hA
      simpa [bys_append, Nat.add_assoc] using hA

/-- wire.PutInts -/
theorem putInts {x l : AV} {cs : List AV} {m : Nat} {ns : List Int} (hx : IsL 1 x cs m) (hl : IsL 1 l (ints ns) ns.length) (hm : m ≤ 274877906944) (hlen : ns.length ≤ 1000000) (st : St) :
    ∃ y st', callL T 18 [x, l] st = some (.ret y, st') ∧ App st' 1 y (cs ++ bys (enc ns.length ++ encs ns)) (m + (enc ns.length ++ encs ns).length) ∧ st'.H = st.H := by
  obtain ⟨x', hx1, hx2, _⟩ := hx.exp st
  obtain ⟨l', hl1, hl2, _⟩ := hl.exp st
  rw [call_keep T18 rfl rfl (show expA st [x, l] = some ([x', l'], st) by simp [expA, hx1, hl1])]
  obtain ⟨z, st1, hc, hA, _⟩ := clone hx2 (by omega) .mt
  obtain ⟨u, st2, hp, hA2, _⟩ := put52 hA hl2 hm hlen
  obtain ⟨y', st', hk, hA', hH'⟩ := kept_app (st := st) hA2
  exact ⟨y', st', by simp [inner_eq, s18, hc, hp, hk], hA', hH'⟩

theorem refIntsLoop (ns : List Int) (t : Tag) (hlen : ns.length ≤ 1000000) : ∀ (k i : Nat) (x : AV) (cs : List AV) (m : Nat) (st : St), App st 1 x cs m → i + k = ns.length → m + 9 * k ≤ 549755813888 →
    ∃ y fr' st', runL T (.loop [1, 5, 6] s19b0) { s := [(1, .sl (ints ns) ns.length t), (5, x), (6, .v (.int .i64 i))], d := [] } st = some (.ex 0, fr', st') ∧ fr'.only [5] = { s := [(5, y)], d := [] } ∧
      App st' 1 y (cs ++ bys (encs (ns.drop i))) (m + (encs (ns.drop i)).length) ∧ st'.H = st.H
  | 0, i, x, cs, m, st, hx, hi, _ => by
    have hd : ns.drop i = [] := List.drop_eq_nil_of_le (by omega)
    refine ⟨x, ?s, st, ?a, ?b, by rw [hd]; simpa [encs] using hx, rfl⟩
    case a =>
      rw [runL_loop]
      have : ¬ (i : Int) < ns.length := by omega
      simp [s19b0, this]
      rfl
    case b => simp
  | k + 1, i, x, cs, m, st, hx, hi, hm => by
    have hlt : i < ns.length := by omega
    have hd : ns.drop i = ns[i] :: ns.drop (i + 1) := List.drop_eq_getElem_cons hlt
    obtain ⟨u, st1, hp, hA, hH⟩ := refPutInt ns[i] hx.isL (by omega) st
    have hle := (enc_length ns[i]).2
    obtain ⟨y, fr', st', hr, hfr, hA', hH'⟩ := refIntsLoop ns t hlen k (i + 1) u _ _ st1 hA (by omega) (by omega)
    refine ⟨y, fr', st', ?_, hfr, ?_, hH'.trans hH⟩
    · rw [runL_loop]
      generalize hL : SCode.loop [1, 5, 6] s19b0 = L
      have hw : IntKind.wrap .i64 ((i : Int) + 1) = ((i + 1 : Nat) : Int) := by rw [wrap_i64 (by omega) (by omega)]; omega
      have h1 : (i : Int) < ns.length := by omega
      have h2 := ints_get ns i hlt
      simp [s19b0, h1, opLoad, h2, hp, hw]
      subst hL
      refine (loop_from ?_).trans hr
      simp
    · rw [hd, encs_cons, bys_append, ← List.append_assoc]
      simpa [Nat.add_assoc] using hA'

/-- ref.PutInts -/
theorem refPutInts {x l : AV} {cs : List AV} {m : Nat} {ns : List Int} (hx : IsL 1 x cs m) (hl : IsL 1 l (ints ns) ns.length) (hm : m ≤ 274877906944) (hlen : ns.length ≤ 1000000) (st : St) :
    ∃ y st', callL T 19 [x, l] st = some (.ret y, st') ∧ App st' 1 y (cs ++ bys (enc ns.length ++ encs ns)) (m + (enc ns.length ++ encs ns).length) ∧ st'.H = st.H := by
  obtain ⟨x', hx1, hx2, _⟩ := hx.exp st
  obtain ⟨l', hl1, hl2, _⟩ := hl.exp st
  rw [call_keep T19 rfl rfl (show expA st [x, l] = some ([x', l'], st) by simp [expA, hx1, hl1])]
  obtain ⟨u, st0, hp, hA0, _⟩ := refPutInt ns.length hx2 (by omega) .mt
  have hle := (enc_length ns.length).2
  have hlk := hl2.len
  generalize hn : ns.length = n at hl2
  generalize hc : ints ns = ds at hl2
  cases hl2 with
  | nil =>
    have : ns = [] := List.eq_nil_of_length_eq_zero hn
    subst this
    obtain ⟨y', st', hk, hA', hH'⟩ := kept_app (st := st) hA0
    refine ⟨y', st', ?_, by simpa [encs] using hA', hH'⟩
    simp at hp
    simp [inner_eq, s19, hp]
    rw [runL_loop]
    simp [s19b0, hk]
  | @sl _ _ t ht hl =>
    subst hc; subst hn
    obtain ⟨y, fr', st1, hr, hfr, hA, hH⟩ := refIntsLoop ns t hlen ns.length 0 u _ _ st0 hA0 (by omega) (by omega)
    obtain ⟨y', st', hk, hA', hH'⟩ := kept_app (st := st) hA
    refine ⟨y', st', ?_, ?_, hH'⟩
    · have hu := loop_use hr
      simp [inner_eq, s19, hp]
      rw [hu _ (by simp)]
      simp [hfr, hk]
    · rw [List.drop_zero] at hA'
      simpa [bys_append, Nat.add_assoc] using hA'

end VS
end Go.Proofs.Ytohfbjgcfbkgnaa
