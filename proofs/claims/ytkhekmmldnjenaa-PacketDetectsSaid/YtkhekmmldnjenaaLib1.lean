/- The examples of the chapter: the program itself, run. -/
import Derived.Test.YtkhekmmldnjenaaPackFns
import Derived.Test.YtkhekmmldnjenaaEng2
import Derived.KernelRfl
import Derived.Test.YtkhekmmldnjenaaRows
namespace Go.Proofs.Ytkhekmmldnjenaa
namespace VS
set_option maxRecDepth 100000
end VS
end Go.Proofs.Ytkhekmmldnjenaa
/- What putInt and its like compute. -/
namespace Go.Proofs.Ytkhekmmldnjenaa
namespace VS

def bys (l : List Int) : List AV := l.map fun b => .v (.int .u8 b)
@[simp] theorem bys_length (l : List Int) : (bys l).length = l.length := by simp [bys]
@[simp] theorem bys_nil : bys [] = [] := rfl
theorem bys_append (l m : List Int) : bys (l ++ m) = bys l ++ bys m := by simp [bys]

/-- The encoding of a number, groups of 7 digits; 'k' more groups at most. -/
def encF : Nat → Int → List Int
  | 0, n => [n]
  | k + 1, n => if n < 128 then [n] else (n % 128 + 128) :: encF k (n / 128)

def norm (n : Int) : Int := if n < 0 ∨ 9007199254740991 < n then 0 else n
def enc (n : Int) : List Int := encF 8 (norm n)

theorem putLoop (k : Nat) : ∀ (n : Int) (x : AV) (cs : List AV) (m : Nat) (st : St), App st 1 x cs m → 0 ≤ n → n < 128 ^ (k + 1) → k ≤ 8 → m + k ≤ 1099511627776 →
    ∃ y c l st', runL T (.loop [0, 1] s67b0) { s := [(0, x), (1, .v (.int .i64 n))], d := [] } st = some (.ex 0, { s := [(0, y), (1, .v (.int .i64 c)), (12, .v (.bool false))], d := [] }, st') ∧
      encF k n = l ++ [c] ∧ 0 ≤ c ∧ c < 128 ∧ App st' 1 y (cs ++ bys l) (m + l.length) ∧ st'.H = st.H := by
  induction k with
  | zero =>
    intro n x cs m st hx h0 h1 hk hm
    refine ⟨x, n, [], st, ?_, by simp [encF], h0, by simpa using h1, by simpa using hx, rfl⟩
    rw [runL_loop]
    have : ¬ (128 ≤ n) := by omega
    simp [s67b0, this]
  | succ k ih =>
    intro n x cs m st hx h0 h1 hk hm
    by_cases hn : n < 128
    · refine ⟨x, n, [], st, ?_, by simp [encF, hn], h0, hn, by simpa using hx, rfl⟩
      rw [runL_loop]
      have : ¬ (128 ≤ n) := by omega
      simp [s67b0, this]
    · have hge : 128 ≤ n := by omega
      have h2 : Int.tmod n 128 = n % 128 := Int.tmod_eq_emod_of_nonneg h0
      have h3 : IntKind.wrap .u8 (n % 128) = n % 128 := by rw [wrap_u8]; omega
      have h4 : orI .u8 (n % 128) 128 = n % 128 + 128 := orI_u8_128 (by omega) (by omega)
      obtain ⟨z, st1, happ, hA, hH⟩ := app_append (bytes := 1) hx (y := .sl [.v (.int .u8 (n % 128 + 128))] 1 .full) (ds := [.v (.int .u8 (n % 128 + 128))]) (m := 1) (.sl (by simp) (by simp)) (by omega) (by simp only [most47]; omega) (by omega)
      have hq : Int.tdiv n 128 = n / 128 := Int.tdiv_eq_ediv_of_nonneg h0
      have hqw : IntKind.wrap .i64 (n / 128) = n / 128 := wrap_i64 (by omega) (by
        have : (128 : Int) ^ (k + 1 + 1) ≤ 128 ^ 9 := by exact_mod_cast Nat.pow_le_pow_right (by omega : 0 < 128) (by omega)
        omega)
      have hlt : n / 128 < 128 ^ (k + 1) := by
        have : (128 : Int) ^ (k + 1 + 1) = 128 ^ (k + 1) * 128 := by rw [Int.pow_succ]
        omega
      obtain ⟨y, c, l, st', hr, he, h5, h6, h7, h8⟩ := ih (n / 128) z _ (m + 1) st1 hA (by omega) hlt (by omega) (by omega)
      refine ⟨y, c, (n % 128 + 128) :: l, st', ?_, by simp [encF, hn, he], h5, h6, ?_, h8.trans hH⟩
      · rw [runL_loop]
        generalize hL : SCode.loop [0, 1] s67b0 = L
        simp [s67b0, hge, h2, h3, h4, happ, hq, hqw]
        subst hL
        exact (loop_from (by simp)).trans hr
      · have : cs ++ bys ((n % 128 + 128) :: l) = cs ++ [.v (.int .u8 (n % 128 + 128))] ++ bys l := by simp [bys]
        rw [this]
        simpa [Nat.add_assoc, Nat.add_comm 1] using h7
theorem norm_in (n : Int) : 0 ≤ norm n ∧ norm n < 128 ^ 9 := by unfold norm; split <;> omega

theorem encF_length : ∀ (k : Nat) (n : Int), 1 ≤ (encF k n).length ∧ (encF k n).length ≤ k + 1
  | 0, n => by simp [encF]
  | k + 1, n => by
    have := encF_length k (n / 128)
    simp only [encF]
    split <;> simp <;> omega

theorem enc_length (n : Int) : 1 ≤ (enc n).length ∧ (enc n).length ≤ 9 := encF_length 8 _

/-- wire.putInt -/
theorem putInt {st : St} {x : AV} {cs : List AV} {m : Nat} (n : Int) (hx : App st 1 x cs m) (hm : m ≤ 549755813888) :
    ∃ y st', callL T 67 [x, .v (.int .i64 n)] st = some (.ret y, st') ∧ App st' 1 y (cs ++ bys (enc n)) (m + (enc n).length) ∧ st'.H = st.H := by
  have hn := norm_in n
  obtain ⟨y, c, l, st1, hr, he, h0, h1, hA, hH⟩ := putLoop 8 (norm n) x cs m st hx hn.1 hn.2 (by omega) (by omega)
  have hl : l.length ≤ 8 := by
    have := (encF_length 8 (norm n)).2
    rw [he] at this; simp at this; exact this
  obtain ⟨z, st2, happ, hA2, hH2⟩ := app_append (bytes := 1) hA (y := .sl [.v (.int .u8 c)] 1 .full) (ds := [.v (.int .u8 c)]) (m := 1) (.sl (by simp) (by simp)) (by omega) (by simp only [most47]; omega) (by omega)
  refine ⟨z, st2, ?_, ?_, hH2.trans hH⟩
  · rw [call_whole T67 (.inr rfl) rfl]
    have hu := loop_use hr
    have hw : IntKind.wrap .u8 c = c := by rw [wrap_u8]; omega
    unfold norm at hu
    by_cases hlt : n < 0
    · simp [inner_eq, s67, hlt]
      rw [hu _ (by simp [hlt])]
      simp [happ, hw]
    · by_cases hgt : 9007199254740991 < n
      · simp [inner_eq, s67, hlt, hgt]
        rw [hu _ (by simp [hgt])]
        simp [happ, hw]
      · simp [inner_eq, s67, hlt, hgt]
        rw [hu _ (by simp [hlt, hgt])]
        simp [happ, hw]
  · have : enc n = l ++ [c] := he
    rw [this, bys_append, ← List.append_assoc]
    simpa [bys, Nat.add_assoc] using hA2
end VS
end Go.Proofs.Ytkhekmmldnjenaa
/- Clone, bytes.Equal, PutInt. -/
namespace Go.Proofs.Ytkhekmmldnjenaa
namespace VS

def Byt (l : List Int) : Prop := ∀ b ∈ l, 0 ≤ b ∧ b < 256

theorem bytesOf_bys : ∀ (l : List Int), bytesOf (bys l) = some l
  | [] => rfl
  | b :: r => by
    have := bytesOf_bys r
    unfold bys at this ⊢
    simp only [List.map_cons, bytesOf, this, Option.map_some]

theorem strOf_eq {a b : List Int} (ha : Byt a) (hb : Byt b) : ((strOfNums a).toList == (strOfNums b).toList) = decide (a = b) := by
  rw [ByteArray.toList_eq, ByteArray.toList_eq, strOfNums_data, strOfNums_data]
  have key : ∀ (a b : List Int), Byt a → Byt b → (a.map fun n => UInt8.ofNat n.toNat) = (b.map fun n => UInt8.ofNat n.toNat) → a = b := by
    intro a
    induction a with
    | nil => intro b _ _ h; cases b with
      | nil => rfl
      | cons => simp at h
    | cons x r ih =>
      intro b ha hb h
      cases b with
      | nil => simp at h
      | cons y s =>
        simp only [List.map_cons, List.cons.injEq] at h
        have hx := ha x (by simp)
        have hy := hb y (by simp)
        have h1 : (UInt8.ofNat x.toNat).toNat = (UInt8.ofNat y.toNat).toNat := by rw [h.1]
        simp only [UInt8.toNat_ofNat'] at h1
        have h2 : x.toNat % 256 = x.toNat := Nat.mod_eq_of_lt (by omega)
        have h3 : y.toNat % 256 = y.toNat := Nat.mod_eq_of_lt (by omega)
        have h4 : x = y := by omega
        rw [h4, ih s (fun z hz => ha z (by simp [hz])) (fun z hz => hb z (by simp [hz])) h.2]
  by_cases h : a = b
  · subst h; simp
  · rw [decide_eq_false h]
    have : ¬ (a.map fun n => UInt8.ofNat n.toNat) = (b.map fun n => UInt8.ofNat n.toNat) := fun h' => h (key a b ha hb h')
    simpa using this

/-- A byte slice that can be read. -/
inductive IsB : AV → List Int → Prop where
  | nil {q : Option Addr} : IsB (.v (.slice q 0 0)) []
  | sl {l : List Int} {t : Tag} : t ≠ .ptrs → IsB (.sl (bys l) l.length t) l

theorem IsB.isL {x : AV} {l : List Int} (h : IsB x l) : IsL 1 x (bys l) l.length := by
  cases h with
  | nil => exact .nil
  | sl ht => exact .sl ht (by simp)

theorem isB_of {x : AV} {l : List Int} (h : IsL 1 x (bys l) l.length) : IsB x l := by
  generalize hc : bys l = cs at h
  generalize hn : l.length = n at h
  cases h with
  | nil =>
    have : l = [] := List.eq_nil_of_length_eq_zero hn
    subst this; exact .nil
  | sl ht hl => subst hc; subst hn; exact .sl ht

theorem IsB.exp {x : AV} {l : List Int} (h : IsB x l) (st : St) : ∃ y, exp1 st x = some (y, st) ∧ IsB y l ∧ exp0 st x = some (y, st) ∧ clean1 x = some y := by
  cases h with
  | nil => exact ⟨_, rfl, .nil, rfl, rfl⟩
  | sl ht => exact ⟨.sl (bys _) _ .ro, by simp [exp1, ht], .sl (by simp), by simp [ht], by simp [ht]⟩

/-- bytes.Equal -/
theorem bytesEqual {x y : AV} {a b : List Int} (hx : IsB x a) (hy : IsB y b) (st : St) : callL T 20 [x, y] st = some (.ret (.v (.bool ((strOfNums a).toList == (strOfNums b).toList))), st) := by
  obtain ⟨x', hx1, hx2, _⟩ := hx.exp st
  obtain ⟨y', hy1, hy2, _⟩ := hy.exp st
  rw [call_plain T20 rfl rfl (show expA st [x, y] = some ([x', y'], st) by simp [expA, hx1, hy1])]
  cases hx2 <;> cases hy2 <;> simp [inner_eq, s20, bytesOf_bys, dropped, expR]

theorem bytesEqual' {x y : AV} {a b : List Int} (hx : IsB x a) (hy : IsB y b) (ha : Byt a) (hb : Byt b) (st : St) : callL T 20 [x, y] st = some (.ret (.v (.bool (decide (a = b)))), st) := by
  rw [bytesEqual hx hy, strOf_eq ha hb]

/-- slices.Clone of bytes -/
theorem clone {x : AV} {cs : List AV} {m : Nat} (hx : IsL 1 x cs m) (hm : m ≤ 549755813888) (st : St) : ∃ y st', callL T 31 [x] st = some (.ret y, st') ∧ App st' 1 y cs m ∧ st'.H = st.H := by
  obtain ⟨x', hx1, hx2, _⟩ := hx.exp st
  rw [call_keep T31 rfl rfl (show expA st [x] = some ([x'], st) by simp [expA, hx1])]
  cases hx2 with
  | @nil q =>
    cases q with
    | none => exact ⟨.v (.slice none 0 0), st, by simp [inner_eq, s31, kept, expR], .nil, rfl⟩
    | some q => exact ⟨.sl [] 0 .full, st, by simp [inner_eq, s31, opAppend, srcOf, kept], .full (by simp), rfl⟩
  | sl ht hl =>
    rename_i t _
    obtain ⟨z, st1, happ, hA, hH⟩ := app_append (bytes := 1) (st := .mt) (x := .sl [] 0 .full) (cs := []) (n := 0) (.full (by simp)) (y := .sl cs m t) (.sl ht hl) (by omega) (by simp only [most47]; omega) (by omega)
    simp only [List.nil_append, Nat.zero_add] at hA
    obtain ⟨y', st', hk, hA', hH'⟩ := kept_app (st := st) hA
    exact ⟨y', st', by simp [inner_eq, s31, happ, hk], hA', hH'⟩

/-- wire.PutInt -/
theorem PutInt {x : AV} {cs : List AV} {m : Nat} (n : Int) (hx : IsL 1 x cs m) (hm : m ≤ 549755813888) (st : St) : ∃ y st', callL T 38 [x, .v (.int .i64 n)] st = some (.ret y, st') ∧ App st' 1 y (cs ++ bys (enc n)) (m + (enc n).length) ∧ st'.H = st.H := by
  obtain ⟨x', hx1, hx2, _⟩ := hx.exp st
  rw [call_keep T38 rfl rfl (show expA st [x, .v (.int .i64 n)] = some ([x', .v (.int .i64 n)], st) by simp [expA, hx1])]
  obtain ⟨z, st1, hc, hA, _⟩ := clone hx2 hm .mt
  obtain ⟨u, st2, hp, hA2, _⟩ := putInt n hA hm
  obtain ⟨y', st', hk, hA', hH'⟩ := kept_app (st := st) hA2
  exact ⟨y', st', by simp [inner_eq, s38, hc, hp, hk], hA', hH'⟩

end VS
end Go.Proofs.Ytkhekmmldnjenaa
/- WireSizes. -/
namespace Go.Proofs.Ytkhekmmldnjenaa
namespace VS

def cnt : Nat → Int → Nat
  | 0, _ => 0
  | k + 1, x => if 0 < x then 1 + cnt k (x / 128) else 0

theorem cnt_len : ∀ (k : Nat) (n : Int), 0 ≤ n → n < 128 ^ (k + 1) → 1 + cnt k (n / 128) = (encF k n).length
  | 0, n, _, _ => by simp [cnt, encF]
  | k + 1, n, h0, h1 => by
    simp only [cnt, encF]
    by_cases h : n < 128
    · have : ¬ 0 < n / 128 := by omega
      simp [h, this]
    · have h2 : 0 < n / 128 := by omega
      have h3 : n / 128 < 128 ^ (k + 1) := by
        have : (128 : Int) ^ (k + 1 + 1) = 128 ^ (k + 1) * 128 := by rw [Int.pow_succ]
        omega
      have := cnt_len k (n / 128) (by omega) h3
      simp [h, h2]; omega

theorem shr7 (x : Int) : shrI .i64 x 7 = x / 128 := by
  simp only [shrI]
  have : (2 : Int) ^ (min (Int.toNat 7) IntKind.i64.bits) = 128 := by decide
  rw [this, Int.fdiv_eq_ediv_of_nonneg _ (by omega)]

theorem encF_mono : ∀ (k : Nat) (n m : Int), 0 ≤ n → n ≤ m → (encF k n).length ≤ (encF k m).length
  | 0, _, _, _, _ => by simp [encF]
  | k + 1, n, m, h0, h => by
    have := encF_mono k (n / 128) (m / 128) (by omega) (by omega)
    simp only [encF]
    by_cases h1 : n < 128
    · have := (encF_length (k + 1) m).1
      simp only [encF] at this
      simpa [h1] using this
    · have : ¬ m < 128 := by omega
      simp [h1, this]; assumption

theorem encF_inj : ∀ (k : Nat) (n m : Int), 0 ≤ n → 0 ≤ m → encF k n = encF k m → n = m
  | 0, n, m, _, _, h => by simpa [encF] using h
  | k + 1, n, m, h0, h1, h => by
    simp only [encF] at h
    by_cases hn : n < 128 <;> by_cases hm : m < 128
    · simpa [hn, hm] using h
    · simp [hn, hm] at h; omega
    · simp [hn, hm] at h; omega
    · simp [hn, hm] at h
      have := encF_inj k (n / 128) (m / 128) (by omega) (by omega) h.2
      omega

theorem encF_byt : ∀ (k : Nat) (n : Int), 0 ≤ n → n < 128 ^ (k + 1) → Byt (encF k n)
  | 0, n, h0, h1 => by intro b hb; simp [encF] at hb; subst hb; simp at h1; omega
  | k + 1, n, h0, h1 => by
    have h2 : (128 : Int) ^ (k + 1 + 1) = 128 ^ (k + 1) * 128 := by rw [Int.pow_succ]
    intro b hb
    simp only [encF] at hb
    by_cases hn : n < 128
    · simp [hn] at hb; omega
    · simp [hn] at hb
      rcases hb with hb | hb
      · omega
      · exact encF_byt k (n / 128) (by omega) (by omega) b hb

theorem enc_byt (n : Int) : Byt (enc n) := encF_byt 8 _ (norm_in n).1 (norm_in n).2

theorem norm_id {n : Int} (h0 : 0 ≤ n) (h1 : n < 9007199254740992) : norm n = n := by
  unfold norm
  rw [if_neg (by omega)]

theorem App.isB {st : St} {x : AV} {l : List Int} (h : App st 1 x (bys l) l.length) : IsB x l := isB_of h.isL

end VS
end Go.Proofs.Ytkhekmmldnjenaa
/- PutInt of the reference, PutBytes, PutInts. -/
namespace Go.Proofs.Ytkhekmmldnjenaa
namespace VS

theorem IsL.len {sz : Nat} {x : AV} {cs : List AV} {n : Nat} (h : IsL sz x cs n) (st : St) : lenK (some x) st = some (.ret (.v (.int .i64 n)), st) := by
  cases h <;> simp
theorem IsL.cells {sz : Nat} {x : AV} {cs : List AV} {n : Nat} (h : IsL sz x cs n) : cs.length = n * sz := by
  cases h with
  | nil => simp
  | sl _ h => exact h

def ints (l : List Int) : List AV := l.map fun n => .v (.int .i64 n)
@[simp] theorem ints_length (l : List Int) : (ints l).length = l.length := by simp [ints]
theorem ints_get (l : List Int) (i : Nat) (h : i < l.length) : (ints l)[i]? = some (.v (.int .i64 l[i])) := by simp [ints, h]

def encs (l : List Int) : List Int := l.flatMap enc
theorem encs_cons (n : Int) (l : List Int) : encs (n :: l) = enc n ++ encs l := by simp [encs]
theorem encs_le (l : List Int) : (encs l).length ≤ 9 * l.length := by
  induction l with
  | nil => simp [encs]
  | cons n r ih => rw [encs_cons, List.length_append, List.length_cons]; have := (enc_length n).2; omega
theorem Byt.append {a b : List Int} (ha : Byt a) (hb : Byt b) : Byt (a ++ b) := by
  intro x hx
  rcases List.mem_append.1 hx with h | h
  · exact ha x h
  · exact hb x h
theorem encs_byt (l : List Int) : Byt (encs l) := by
  intro x hx
  obtain ⟨n, _, hn⟩ := List.mem_flatMap.1 hx
  exact enc_byt n x hn

theorem refLoop (k : Nat) : ∀ (n : Int) (x : AV) (cs : List AV) (m : Nat) (st : St), App st 1 x cs m → 0 ≤ n → n < 128 ^ (k + 1) → k ≤ 8 → m + k ≤ 1099511627776 →
    ∃ y c l st', runL T (.loop [1, 5] s42b0) { s := [(1, .v (.int .i64 n)), (5, x)], d := [] } st = some (.ex 0, { s := [(1, .v (.int .i64 c)), (5, y), (16, .v (.bool false))], d := [] }, st') ∧
      encF k n = l ++ [c] ∧ 0 ≤ c ∧ c < 128 ∧ App st' 1 y (cs ++ bys l) (m + l.length) ∧ st'.H = st.H := by
  induction k with
  | zero =>
    intro n x cs m st hx h0 h1 hk hm
    refine ⟨x, n, [], st, ?_, by simp [encF], h0, by simpa using h1, by simpa using hx, rfl⟩
    rw [runL_loop]
    have : ¬ (127 < n) := by omega
    simp [s42b0, this]
  | succ k ih =>
    intro n x cs m st hx h0 h1 hk hm
    by_cases hn : n < 128
    · refine ⟨x, n, [], st, ?_, by simp [encF, hn], h0, hn, by simpa using hx, rfl⟩
      rw [runL_loop]
      have : ¬ (127 < n) := by omega
      simp [s42b0, this]
    · have hge : 127 < n := by omega
      have h2 : Int.tmod n 128 = n % 128 := Int.tmod_eq_emod_of_nonneg h0
      have h3 : IntKind.wrap .i64 (n % 128 + 128) = n % 128 + 128 := wrap_i64 (by omega) (by omega)
      have h4 : IntKind.wrap .u8 (n % 128 + 128) = n % 128 + 128 := by rw [wrap_u8]; omega
      obtain ⟨z, st1, happ, hA, hH⟩ := app_append (bytes := 1) hx (y := .sl [.v (.int .u8 (n % 128 + 128))] 1 .full) (ds := [.v (.int .u8 (n % 128 + 128))]) (m := 1) (.sl (by simp) (by simp)) (by omega) (by simp only [most47]; omega) (by omega)
      have hq : Int.tdiv n 128 = n / 128 := Int.tdiv_eq_ediv_of_nonneg h0
      have hqw : IntKind.wrap .i64 (n / 128) = n / 128 := wrap_i64 (by omega) (by
        have : (128 : Int) ^ (k + 1 + 1) ≤ 128 ^ 9 := by exact_mod_cast Nat.pow_le_pow_right (by omega : 0 < 128) (by omega)
        omega)
      have hlt : n / 128 < 128 ^ (k + 1) := by
        have : (128 : Int) ^ (k + 1 + 1) = 128 ^ (k + 1) * 128 := by rw [Int.pow_succ]
        omega
      obtain ⟨y, c, l, st', hr, he, h5, h6, h7, h8⟩ := ih (n / 128) z _ (m + 1) st1 hA (by omega) hlt (by omega) (by omega)
      refine ⟨y, c, (n % 128 + 128) :: l, st', ?_, by simp [encF, hn, he], h5, h6, ?_, h8.trans hH⟩
      · rw [runL_loop]
        generalize hL : SCode.loop [1, 5] s42b0 = L
        simp [s42b0, hge, h2, h3, h4, happ, hq, hqw]
        subst hL
        exact (loop_from (by simp)).trans hr
      · have : cs ++ bys ((n % 128 + 128) :: l) = cs ++ [.v (.int .u8 (n % 128 + 128))] ++ bys l := by simp [bys]
        rw [this]
        simpa [Nat.add_assoc, Nat.add_comm 1] using h7

/-- ref.PutInt -/
theorem refPutInt {x : AV} {cs : List AV} {m : Nat} (n : Int) (hx : IsL 1 x cs m) (hm : m ≤ 549755813888) (st : St) : ∃ y st', callL T 42 [x, .v (.int .i64 n)] st = some (.ret y, st') ∧ App st' 1 y (cs ++ bys (enc n)) (m + (enc n).length) ∧ st'.H = st.H := by
  obtain ⟨x', hx1, hx2, _⟩ := hx.exp st
  rw [call_keep T42 rfl rfl (show expA st [x, .v (.int .i64 n)] = some ([x', .v (.int .i64 n)], st) by simp [expA, hx1])]
  obtain ⟨u, st0, hap, hA0, _⟩ := app_append (st := .mt) (bytes := 1) .nil hx2 (by omega) (by simp only [most47]; omega) (by omega)
  rw [List.nil_append, Nat.zero_add] at hA0
  have hn := norm_in n
  obtain ⟨y, c, l, st1, hr, he, h0, h1, hA, _⟩ := refLoop 8 (norm n) u cs m st0 hA0 hn.1 hn.2 (by omega) (by omega)
  have hl : l.length ≤ 8 := by
    have := (encF_length 8 (norm n)).2
    rw [he] at this; simp at this; exact this
  obtain ⟨z, st2, happ, hA2, _⟩ := app_append (bytes := 1) hA (y := .sl [.v (.int .u8 c)] 1 .full) (ds := [.v (.int .u8 c)]) (m := 1) (.sl (by simp) (by simp)) (by omega) (by simp only [most47]; omega) (by omega)
  obtain ⟨y', st', hk, hA', hH'⟩ := kept_app (st := st) hA2
  refine ⟨y', st', ?_, ?_, hH'⟩
  · have hu := loop_use hr
    have hw : IntKind.wrap .u8 c = c := by rw [wrap_u8]; omega
    unfold norm at hu
    by_cases hlt : n < 0
    · simp [inner_eq, s42, hlt, hap]
      rw [hu _ (by simp [hlt])]
      simp [happ, hw, hk]
    · by_cases hgt : 9007199254740991 < n
      · simp [inner_eq, s42, hlt, hgt, hap]
        rw [hu _ (by simp [hgt])]
        simp [happ, hw, hk]
      · simp [inner_eq, s42, hlt, hgt, hap]
        rw [hu _ (by simp [hlt, hgt])]
        simp [happ, hw, hk]
  · have : enc n = l ++ [c] := he
    rw [this, bys_append, ← List.append_assoc]
    simpa [bys, Nat.add_assoc] using hA'

/-- wire.PutBytes -/
theorem putBytes {x b : AV} {cs ds : List AV} {m k : Nat} (hx : IsL 1 x cs m) (hb : IsL 1 b ds k) (hm : m ≤ 549755813888) (hk : k ≤ 274877906944) (st : St) :
    ∃ y st', callL T 40 [x, b] st = some (.ret y, st') ∧ App st' 1 y (cs ++ bys (enc k) ++ ds) (m + (enc k).length + k) ∧ st'.H = st.H := by
  obtain ⟨x', hx1, hx2, _⟩ := hx.exp st
  obtain ⟨b', hb1, hb2, _⟩ := hb.exp st
  rw [call_keep T40 rfl rfl (show expA st [x, b] = some ([x', b'], st) by simp [expA, hx1, hb1])]
  obtain ⟨u, st0, hp, hA0, _⟩ := PutInt k hx2 hm .mt
  have hle := (enc_length k).2
  obtain ⟨z, st1, hap, hA, _⟩ := app_append (bytes := 1) hA0 hb2 (by omega) (by simp only [most47]; omega) (by omega)
  obtain ⟨y', st', hk, hA', hH'⟩ := kept_app (st := st) hA
  exact ⟨y', st', by simp [inner_eq, s40, hb2.len, hp, hap, hk], hA', hH'⟩

/-- ref.PutBytes -/
theorem refPutBytes {x b : AV} {cs ds : List AV} {m k : Nat} (hx : IsL 1 x cs m) (hb : IsL 1 b ds k) (hm : m ≤ 549755813888) (hk : k ≤ 274877906944) (st : St) :
    ∃ y st', callL T 44 [x, b] st = some (.ret y, st') ∧ App st' 1 y (cs ++ bys (enc k) ++ ds) (m + (enc k).length + k) ∧ st'.H = st.H := by
  obtain ⟨x', hx1, hx2, _⟩ := hx.exp st
  obtain ⟨b', hb1, hb2, _⟩ := hb.exp st
  rw [call_keep T44 rfl rfl (show expA st [x, b] = some ([x', b'], st) by simp [expA, hx1, hb1])]
  obtain ⟨u, st0, hp, hA0, _⟩ := refPutInt k hx2 hm .mt
  have hle := (enc_length k).2
  obtain ⟨z, st1, hap, hA, _⟩ := app_append (bytes := 1) hA0 hb2 (by omega) (by simp only [most47]; omega) (by omega)
  obtain ⟨y', st', hk, hA', hH'⟩ := kept_app (st := st) hA
  exact ⟨y', st', by simp [inner_eq, s44, hb2.len, hp, hap, hk], hA', hH'⟩

theorem put52Loop (ns : List Int) (t : Tag) (hlen : ns.length ≤ 1000000) : ∀ (k i : Nat) (x : AV) (cs : List AV) (m : Nat) (st : St), App st 1 x cs m → i + k = ns.length → m + 9 * k ≤ 549755813888 →
    ∃ y fr' st', runL T (.loop [0, 2, 13, 14, 15] s86b0) { s := [(0, x), (2, .fn 67 []), (13, .sl (ints ns) ns.length t), (14, .v (.int .i64 ns.length)), (15, .v (.int .i64 i))], d := [] } st = some (.ex 0, fr', st') ∧ fr'.only [0] = { s := [(0, y)], d := [] } ∧
      App st' 1 y (cs ++ bys (encs (ns.drop i))) (m + (encs (ns.drop i)).length) ∧ st'.H = st.H
  | 0, i, x, cs, m, st, hx, hi, _ => by
    have hd : ns.drop i = [] := List.drop_eq_nil_of_le (by omega)
    refine ⟨x, ?s, st, ?a, ?b, by rw [hd]; simpa [encs] using hx, rfl⟩
    case a =>
      rw [runL_loop]
      have : ¬ (i : Int) < ns.length := by omega
      simp [s86b0, this]
      rfl
    case b => simp
  | k + 1, i, x, cs, m, st, hx, hi, hm => by
    have hlt : i < ns.length := by omega
    have hd : ns.drop i = ns[i] :: ns.drop (i + 1) := List.drop_eq_getElem_cons hlt
    obtain ⟨u, st1, hp, hA, hH⟩ := putInt ns[i] hx (by omega)
    have hle := (enc_length ns[i]).2
    obtain ⟨y, fr', st', hr, hfr, hA', hH'⟩ := put52Loop ns t hlen k (i + 1) u _ _ st1 hA (by omega) (by omega)
    refine ⟨y, fr', st', ?_, hfr, ?_, hH'.trans hH⟩
    · rw [runL_loop]
      generalize hL : SCode.loop [0, 2, 13, 14, 15] s86b0 = L
      have hw : IntKind.wrap .i64 ((i : Int) + 1) = ((i + 1 : Nat) : Int) := by rw [wrap_i64 (by omega) (by omega)]; omega
      have h1 : (i : Int) < ns.length := by omega
      have h2 := ints_get ns i hlt
      simp [s86b0, h1, opLoad, h2, hp, hw]
      subst hL
      refine (loop_from ?_).trans hr
      simp
    · rw [hd, encs_cons, bys_append, ← List.append_assoc]
      simpa [Nat.add_assoc] using hA'

/-- wire.put of numbers -/
theorem put52 {x l : AV} {cs : List AV} {m : Nat} {ns : List Int} {st : St} (hx : App st 1 x cs m) (hl : IsL 1 l (ints ns) ns.length) (hm : m ≤ 274877906944) (hlen : ns.length ≤ 1000000) :
    ∃ y st', callL T 86 [x, l, .fn 67 []] st = some (.ret y, st') ∧ App st' 1 y (cs ++ bys (enc ns.length ++ encs ns)) (m + (enc ns.length ++ encs ns).length) ∧ st'.H = st.H := by
  rw [call_whole T86 (.inl rfl) rfl]
  obtain ⟨u, st0, hp, hA0, hH0⟩ := putInt ns.length hx (by omega)
  have hle := (enc_length ns.length).2
  generalize hn : ns.length = n at hl
  generalize hc : ints ns = ds at hl
  cases hl with
  | nil =>
    have : ns = [] := List.eq_nil_of_length_eq_zero hn
    subst this
    refine ⟨u, st0, ?_, by simpa [encs] using hA0, hH0⟩
    simp at hp
    simp [inner_eq, s86, hp]
    rw [runL_loop]
    simp [s86b0]
  | @sl _ _ t ht hl =>
    subst hc; subst hn
    obtain ⟨y, fr', st1, hr, hfr, hA, hH⟩ := put52Loop ns t hlen ns.length 0 u _ _ st0 hA0 (by omega) (by omega)
    refine ⟨y, st1, ?_, ?_, hH.trans hH0⟩
    · have hu := loop_use hr
      simp [inner_eq, s86, hp]
      rw [hu _ (by simp)]
      simp [hfr]
    · rw [List.drop_zero] at hA
      simpa [bys_append, Nat.add_assoc] using hA

/-- wire.PutInts -/
theorem putInts {x l : AV} {cs : List AV} {m : Nat} {ns : List Int} (hx : IsL 1 x cs m) (hl : IsL 1 l (ints ns) ns.length) (hm : m ≤ 274877906944) (hlen : ns.length ≤ 1000000) (st : St) :
    ∃ y st', callL T 64 [x, l] st = some (.ret y, st') ∧ App st' 1 y (cs ++ bys (enc ns.length ++ encs ns)) (m + (enc ns.length ++ encs ns).length) ∧ st'.H = st.H := by
  obtain ⟨x', hx1, hx2, _⟩ := hx.exp st
  obtain ⟨l', hl1, hl2, _⟩ := hl.exp st
  rw [call_keep T64 rfl rfl (show expA st [x, l] = some ([x', l'], st) by simp [expA, hx1, hl1])]
  obtain ⟨z, st1, hc, hA, _⟩ := clone hx2 (by omega) .mt
  obtain ⟨u, st2, hp, hA2, _⟩ := put52 hA hl2 hm hlen
  obtain ⟨y', st', hk, hA', hH'⟩ := kept_app (st := st) hA2
  exact ⟨y', st', by simp [inner_eq, s64, hc, hp, hk], hA', hH'⟩

theorem refIntsLoop (ns : List Int) (t : Tag) (hlen : ns.length ≤ 1000000) : ∀ (k i : Nat) (x : AV) (cs : List AV) (m : Nat) (st : St), App st 1 x cs m → i + k = ns.length → m + 9 * k ≤ 549755813888 →
    ∃ y fr' st', runL T (.loop [1, 5, 6] s65b0) { s := [(1, .sl (ints ns) ns.length t), (5, x), (6, .v (.int .i64 i))], d := [] } st = some (.ex 0, fr', st') ∧ fr'.only [5] = { s := [(5, y)], d := [] } ∧
      App st' 1 y (cs ++ bys (encs (ns.drop i))) (m + (encs (ns.drop i)).length) ∧ st'.H = st.H
  | 0, i, x, cs, m, st, hx, hi, _ => by
    have hd : ns.drop i = [] := List.drop_eq_nil_of_le (by omega)
    refine ⟨x, ?s, st, ?a, ?b, by rw [hd]; simpa [encs] using hx, rfl⟩
    case a =>
      rw [runL_loop]
      have : ¬ (i : Int) < ns.length := by omega
      simp [s65b0, this]
      rfl
    case b => simp
  | k + 1, i, x, cs, m, st, hx, hi, hm => by
    have hlt : i < ns.length := by omega
    have hd : ns.drop i = ns[i] :: ns.drop (i + 1) := List.drop_eq_getElem_cons hlt
    obtain ⟨u, st1, hp, hA, hH⟩ := refPutInt ns[i] hx.isL (by omega) st
    have hle := (enc_length ns[i]).2
    obtain ⟨y, fr', st', hr, hfr, hA', hH'⟩ := refIntsLoop ns t hlen k (i + 1) u _ _ st1 hA (by omega) (by omega)
    refine ⟨y, fr', st', ?_, hfr, ?_, hH'.trans hH⟩
    · rw [runL_loop]
      generalize hL : SCode.loop [1, 5, 6] s65b0 = L
      have hw : IntKind.wrap .i64 ((i : Int) + 1) = ((i + 1 : Nat) : Int) := by rw [wrap_i64 (by omega) (by omega)]; omega
      have h1 : (i : Int) < ns.length := by omega
      have h2 := ints_get ns i hlt
      simp [s65b0, h1, opLoad, h2, hp, hw]
      subst hL
      refine (loop_from ?_).trans hr
      simp
    · rw [hd, encs_cons, bys_append, ← List.append_assoc]
      simpa [Nat.add_assoc] using hA'

/-- ref.PutInts -/
theorem refPutInts {x l : AV} {cs : List AV} {m : Nat} {ns : List Int} (hx : IsL 1 x cs m) (hl : IsL 1 l (ints ns) ns.length) (hm : m ≤ 274877906944) (hlen : ns.length ≤ 1000000) (st : St) :
    ∃ y st', callL T 65 [x, l] st = some (.ret y, st') ∧ App st' 1 y (cs ++ bys (enc ns.length ++ encs ns)) (m + (enc ns.length ++ encs ns).length) ∧ st'.H = st.H := by
  obtain ⟨x', hx1, hx2, _⟩ := hx.exp st
  obtain ⟨l', hl1, hl2, _⟩ := hl.exp st
  rw [call_keep T65 rfl rfl (show expA st [x, l] = some ([x', l'], st) by simp [expA, hx1, hl1])]
  obtain ⟨u, st0, hp, hA0, _⟩ := refPutInt ns.length hx2 (by omega) .mt
  have hle := (enc_length ns.length).2
  have hlk := hl2.len
  generalize hn : ns.length = n at hl2
  generalize hc : ints ns = ds at hl2
  cases hl2 with
  | nil =>
    have : ns = [] := List.eq_nil_of_length_eq_zero hn
    subst this
    obtain ⟨y', st', hk, hA', hH'⟩ := kept_app (st := st) hA0
    refine ⟨y', st', ?_, by simpa [encs] using hA', hH'⟩
    simp at hp
    simp [inner_eq, s65, hp]
    rw [runL_loop]
    simp [s65b0, hk]
  | @sl _ _ t ht hl =>
    subst hc; subst hn
    obtain ⟨y, fr', st1, hr, hfr, hA, hH⟩ := refIntsLoop ns t hlen ns.length 0 u _ _ st0 hA0 (by omega) (by omega)
    obtain ⟨y', st', hk, hA', hH'⟩ := kept_app (st := st) hA
    refine ⟨y', st', ?_, ?_, hH'⟩
    · have hu := loop_use hr
      simp [inner_eq, s65, hp]
      rw [hu _ (by simp)]
      simp [hfr, hk]
    · rw [List.drop_zero] at hA'
      simpa [bys_append, Nat.add_assoc] using hA'

end VS
end Go.Proofs.Ytkhekmmldnjenaa
/- Put of lists of rows; ContainsFunc. -/
namespace Go.Proofs.Ytkhekmmldnjenaa
namespace VS

theorem App.move {st st' : St} {sz : Nat} {x : AV} {cs : List AV} {n : Nat} (h : App st sz x cs n) (hF : st'.F = st.F) : App st' sz x cs n := by
  cases h with
  | nil => exact .nil
  | full h => exact .full h
  | own h h2 => exact .own h (by rw [hF]; exact h2)

/-- A list of rows of cells, laid flat. -/
structure Flat {α : Type} (g : α → List AV) (c : Nat) (l : List α) (cs : List AV) : Prop where
  len : cs.length = l.length * c
  at_ : ∀ (i : Nat) (h : i < l.length), (cs.drop (i * c)).take c = g l[i]
  fld : ∀ (i j : Nat) (h : i < l.length), j < c → cs[i * c + j]? = (g l[i])[j]?

theorem flat_of {α : Type} {g : α → List AV} {c : Nat} : ∀ {l : List α}, (∀ x ∈ l, (g x).length = c) → Flat g c l (l.flatMap g)
  | [], _ => ⟨by simp, by simp, by simp⟩
  | x :: r, h => by
    have ih := flat_of (l := r) fun y hy => h y (by simp [hy])
    have hx := h x (by simp)
    rw [List.flatMap_cons]
    refine ⟨by rw [List.length_append, ih.len, hx, List.length_cons, Nat.add_mul]; omega, fun i hi => ?_, fun i j hi hj => ?_⟩
    · cases i with
      | zero => simp [hx]
      | succ i =>
        have : (i + 1) * c = (g x).length + i * c := by rw [hx, Nat.add_mul]; omega
        rw [this, List.drop_append, List.drop_of_length_le (by omega), Nat.add_sub_cancel_left, List.nil_append]
        exact ih.at_ i (by simpa using hi)
    · cases i with
      | zero => rw [Nat.zero_mul, Nat.zero_add, List.getElem?_append_left (by omega)]; rfl
      | succ i =>
        have : (i + 1) * c + j = (g x).length + (i * c + j) := by rw [hx, Nat.add_mul]; omega
        rw [this, List.getElem?_append_right (by omega), Nat.add_sub_cancel_left]
        exact ih.fld i j (by simpa using hi) hj

theorem opLoad_ep (st : St) (cs : List AV) (off : Nat) (k : Option Nat) : opLoad st k (.ep cs off) = partOf cs off k := by cases st; rfl
theorem partOf_some {cs l : List AV} {off k : Nat} (h : off + k ≤ cs.length) (e : (cs.drop off).take k = l) : partOf cs off (some k) = some (.agg l) := by simp [partOf, h, e]
theorem opStore_new {H : List HB} {F : List (Nat × Nat)} {z l : List AV} {k : Nat} (hz : z.length = k) (hl : l.length = k) : opStore { H := H ++ [{ cells := z, fz := false }], F := F } k (.ptr H.length 0) (.agg l) = some { H := H ++ [{ cells := l, fz := false }], F := F } := by
  simp [opStore, hz, hl]
theorem opLoad_new {H : List HB} {F : List (Nat × Nat)} {l : List AV} {k : Nat} {b : Bool} (hl : l.length = k) : opLoad { H := H ++ [{ cells := l, fz := b }], F := F } (some k) (.ptr H.length 0) = some (.agg l) := by
  simp [opLoad, partOf, ← hl]
theorem opLoad_fld {H : List HB} {F : List (Nat × Nat)} {l : List AV} {j : Nat} {b : Bool} : opLoad { H := H ++ [{ cells := l, fz := b }], F := F } none (.ptr H.length j) = l[j]? := by
  simp [opLoad, partOf]

theorem put56Loop {α : Type} {g : α → List AV} {e : α → List Int} {B F : Nat} {l : List α} {ds : List AV} (t : Tag) (hf : Flat g 2 l ds) (hlen : l.length ≤ 1000000) (hB : ∀ x ∈ l, (e x).length ≤ B) (hg : ∀ x ∈ l, (g x).length = 2)
    (hF : ∀ x ∈ l, ∀ (y : AV) (cs : List AV) (m : Nat) (st : St), App st 1 y cs m → m ≤ 137438953472 → ∃ z st', callL T F [y, .agg (g x)] st = some (.ret z, st') ∧ App st' 1 z (cs ++ bys (e x)) (m + (e x).length)) :
    ∀ (k i : Nat) (x : AV) (cs : List AV) (m : Nat) (st : St), App st 1 x cs m → i + k = l.length → m + B * k ≤ 137438953472 →
    ∃ y fr' st', runL T (.loop [0, 2, 13, 14, 15] s69b0) { s := [(0, x), (2, .fn F []), (13, .sl ds l.length t), (14, .v (.int .i64 l.length)), (15, .v (.int .i64 i))], d := [] } st = some (.ex 0, fr', st') ∧ fr'.only [0] = { s := [(0, y)], d := [] } ∧
      App st' 1 y (cs ++ bys ((l.drop i).flatMap e)) (m + ((l.drop i).flatMap e).length)
  | 0, i, x, cs, m, st, hx, hi, _ => by
    have hd : l.drop i = [] := List.drop_eq_nil_of_le (by omega)
    refine ⟨x, ?s, st, ?a, ?b, by rw [hd]; simpa using hx⟩
    case a =>
      rw [runL_loop]
      have : ¬ (i : Int) < l.length := by omega
      simp [s69b0, this]
      rfl
    case b => simp
  | k + 1, i, x, cs, m, st, hx, hi, hm => by
    have hlt : i < l.length := by omega
    have hd : l.drop i = l[i] :: l.drop (i + 1) := List.drop_eq_getElem_cons hlt
    have hmem : l[i] ∈ l := List.getElem_mem hlt
    have hBi := hB _ hmem
    have e1 : B * (k + 1) = B * k + B := Nat.mul_succ B k
    obtain ⟨u, st1, hp, hA⟩ := hF _ hmem x cs m { H := st.H ++ [{ cells := g l[i], fz := false }], F := st.F } (hx.move rfl) (by omega)
    obtain ⟨y, fr', st', hr, hfr, hA'⟩ := put56Loop t hf hlen hB hg hF k (i + 1) u _ _ st1 hA (by omega) (by omega)
    refine ⟨y, fr', st', ?_, hfr, ?_⟩
    · rw [runL_loop]
      generalize hL : SCode.loop [0, 2, 13, 14, 15] s69b0 = L
      have hw : IntKind.wrap .i64 ((i : Int) + 1) = ((i + 1 : Nat) : Int) := by rw [wrap_i64 (by omega) (by omega)]; omega
      have h1 : (i : Int) < l.length := by omega
      have hfl := hf.len
      have h2 : partOf ds (i * 2) (some 2) = some (.agg (g l[i])) := partOf_some (by omega) (hf.at_ i hlt)
      have h3 := opStore_new (H := st.H) (F := st.F) (z := [.v (.int .i64 0), .v (.int .i64 0)]) (l := g l[i]) (k := 2) rfl (hg _ hmem)
      have h4 := opLoad_new (H := st.H) (F := st.F) (l := g l[i]) (b := false) (hg _ hmem)
      simp only [s69b0]
      simp [h1, opLoad_ep, h2, h3, h4, hp, hw, -partOf]
      subst hL
      refine (loop_from ?_).trans hr
      simp
    · rw [hd, List.flatMap_cons, bys_append, ← List.append_assoc]
      simpa [Nat.add_assoc] using hA'

theorem put56 {α : Type} {g : α → List AV} {e : α → List Int} {B F : Nat} {l : List α} {ds : List AV} {x y : AV} {cs : List AV} {m : Nat} {st : St} (hf : Flat g 2 l ds) (hlen : l.length ≤ 1000000) (hB : ∀ x ∈ l, (e x).length ≤ B) (hg : ∀ x ∈ l, (g x).length = 2)
    (hF : ∀ x ∈ l, ∀ (y : AV) (cs : List AV) (m : Nat) (st : St), App st 1 y cs m → m ≤ 137438953472 → ∃ z st', callL T F [y, .agg (g x)] st = some (.ret z, st') ∧ App st' 1 z (cs ++ bys (e x)) (m + (e x).length))
    (hx : App st 1 x cs m) (hy : IsL 2 y ds l.length) (hm : m + 9 + B * l.length ≤ 137438953472) :
    ∃ z st', callL T 69 [x, y, .fn F []] st = some (.ret z, st') ∧ App st' 1 z (cs ++ bys (enc l.length ++ l.flatMap e)) (m + (enc l.length ++ l.flatMap e).length) := by
  rw [call_whole T69 (.inl rfl) rfl]
  obtain ⟨u, st0, hp, hA0, _⟩ := putInt l.length hx (by omega)
  have hle := (enc_length l.length).2
  generalize hn : l.length = n at hy
  cases hy with
  | nil =>
    have : l = [] := List.eq_nil_of_length_eq_zero hn
    subst this
    refine ⟨u, st0, ?_, by simpa using hA0⟩
    simp at hp
    simp [inner_eq, s69, hp]
    rw [runL_loop]
    simp [s69b0]
  | @sl _ _ t ht hl =>
    subst hn
    obtain ⟨y, fr', st1, hr, hfr, hA⟩ := put56Loop t hf hlen hB hg hF l.length 0 u _ _ st0 hA0 (by omega) (by omega)
    refine ⟨y, st1, ?_, ?_⟩
    · have hu := loop_use hr
      simp [inner_eq, s69, hp]
      rw [hu _ (by simp)]
      simp [hfr]
    · rw [List.drop_zero] at hA
      simpa [bys_append, Nat.add_assoc] using hA

theorem idx81Loop {α : Type} {g : α → AV} {p : α → Bool} {F : Nat} {l : List α} {ds : List AV} (t : Tag) (hlen : l.length ≤ 1000000) (hf : Flat (fun x => [g x]) 1 l ds)
    (hF : ∀ x ∈ l, ∀ (st : St), callL T F [g x] st = some (.ret (.v (.bool (p x))), st)) : ∀ (k i : Nat) (st : St), i + k = l.length →
    if (l.drop i).any p then ∃ j : Nat, runL T (.loop [0, 1, 7, 8] s101b0) { s := [(0, .sl ds l.length t), (1, .fn F []), (7, .v (.int .i64 l.length)), (8, .v (.int .i64 i))], d := [] } st = some (.rt, { s := [(4, .v (.int .i64 j))], d := [] }, st)
    else ∃ fr', runL T (.loop [0, 1, 7, 8] s101b0) { s := [(0, .sl ds l.length t), (1, .fn F []), (7, .v (.int .i64 l.length)), (8, .v (.int .i64 i))], d := [] } st = some (.ex 0, fr', st) ∧ fr'.only [] = { s := [], d := [] }
  | 0, i, st, hi => by
    have hd : l.drop i = [] := List.drop_eq_nil_of_le (by omega)
    rw [hd]
    simp only [List.any_nil, Bool.false_eq_true, if_false]
    refine ⟨?s, ?a, ?b⟩
    case a =>
      rw [runL_loop]
      have : ¬ (i : Int) < l.length := by omega
      simp [s101b0, this]
      rfl
    case b => simp
  | k + 1, i, st, hi => by
    have hlt : i < l.length := by omega
    have hd : l.drop i = l[i] :: l.drop (i + 1) := List.drop_eq_getElem_cons hlt
    have hmem : l[i] ∈ l := List.getElem_mem hlt
    have hp := hF _ hmem st
    have hw : IntKind.wrap .i64 ((i : Int) + 1) = ((i + 1 : Nat) : Int) := by rw [wrap_i64 (by omega) (by omega)]; omega
    have h1 : (i : Int) < l.length := by omega
    have hfl := hf.len
    have h2 : partOf ds i none = some (g l[i]) := by have := hf.fld i 0 hlt (by omega); simpa [partOf] using this
    have ih := idx81Loop t hlen hf hF k (i + 1) st (by omega)
    rw [hd, List.any_cons]
    cases hpi : p l[i] with
    | true =>
      rw [hpi] at hp
      simp only [Bool.true_or, if_true]
      refine ⟨i, ?_⟩
      rw [runL_loop]
      simp only [s101b0]
      simp [h1, opLoad_ep, h2, hp, -partOf]
    | false =>
      rw [hpi] at hp
      simp only [Bool.false_or]
      have step : runL T (.loop [0, 1, 7, 8] s101b0) { s := [(0, .sl ds l.length t), (1, .fn F []), (7, .v (.int .i64 l.length)), (8, .v (.int .i64 i))], d := [] } st =
          runL T (.loop [0, 1, 7, 8] s101b0) { s := [(0, .sl ds l.length t), (1, .fn F []), (7, .v (.int .i64 l.length)), (8, .v (.int .i64 (i + 1 : Nat)))], d := [] } st := by
        rw [runL_loop]
        generalize hL : SCode.loop [0, 1, 7, 8] s101b0 = L
        simp only [s101b0]
        simp [h1, opLoad_ep, h2, hp, hw, -partOf]
        subst hL
        refine loop_from ?_
        simp
      rw [step]
      exact ih

theorem has81 {α : Type} {g : α → AV} {p : α → Bool} {F : Nat} {l : List α} {ds : List AV} {y : AV} (hlen : l.length ≤ 1000000) (hf : Flat (fun x => [g x]) 1 l ds) (hy : IsL 1 y ds l.length)
    (hF : ∀ x ∈ l, ∀ (st : St), callL T F [g x] st = some (.ret (.v (.bool (p x))), st)) (st : St) : callL T 84 [y, .fn F []] st = some (.ret (.v (.bool (l.any p))), st) := by
  obtain ⟨y', hy1, hy2, _⟩ := hy.exp st
  rw [call_plain T84 rfl rfl (show expA st [y, .fn F []] = some ([y', .fn F []], st) by simp [expA, hy1])]
  have key : ∃ r : Int, callL T 101 [y', .fn F []] .mt = some (.ret (.v (.int .i64 r)), .mt) ∧ decide (0 ≤ r) = l.any p := by
    obtain ⟨y2, hz1, hz2, _⟩ := hy2.exp .mt
    rw [call_plain T101 rfl rfl (show expA .mt [y', .fn F []] = some ([y2, .fn F []], .mt) by simp [expA, hz1])]
    generalize hn : l.length = n at hz2
    cases hz2 with
    | nil =>
      have : l = [] := List.eq_nil_of_length_eq_zero hn
      subst this
      refine ⟨-1, ?_, by simp⟩
      simp [inner_eq, s101, dropped, expR]
      rw [runL_loop]
      simp [s101b0]
    | @sl _ _ t ht hl =>
      subst hn
      have hL := idx81Loop t hlen hf hF l.length 0 .mt (Nat.zero_add _)
      rw [List.drop_zero] at hL
      cases ha : l.any p with
      | true =>
        rw [ha, if_pos rfl] at hL
        obtain ⟨j, hr⟩ := hL
        refine ⟨j, ?_, by simp⟩
        have hu := loop_use hr
        simp [inner_eq, s101]
        rw [hu _ (by simp)]
        simp [dropped, expR]
      | false =>
        rw [ha, if_neg (by simp)] at hL
        obtain ⟨fr', hr, hfr⟩ := hL
        refine ⟨-1, ?_, by simp⟩
        have hu := loop_use hr
        simp [inner_eq, s101]
        rw [hu _ (by simp)]
        simp [hfr, dropped, expR]
  obtain ⟨r, hr, he⟩ := key
  simp [inner_eq, s84, hr, dropped, expR, he]

end VS
end Go.Proofs.Ytkhekmmldnjenaa
/- Sectors, extents, writes: put and ref.Put. -/
namespace Go.Proofs.Ytkhekmmldnjenaa
namespace VS

theorem cleanL_bys : ∀ (l : List Int), cleanL (bys l) = some (bys l)
  | [] => rfl
  | b :: r => by
    have := cleanL_bys r
    unfold bys at this ⊢
    simp [cleanL, this]

def Sec (s : List Int) : Prop := s.length = 8 ∧ Byt s
def gx (p : Int × Int) : List AV := [.v (.int .i64 p.1), .v (.int .i64 p.2)]
def ex (p : Int × Int) : List Int := enc p.1 ++ enc p.2
structure Wr where
  vol : Int
  start : Int
  dat : AV
  secs : List (List Int)
def gw (w : Wr) : List AV := [.v (.int .i64 w.vol), .v (.int .i64 w.start), w.dat]
def es (l : List (List Int)) : List Int := enc l.length ++ l.flatMap id
def ew (w : Wr) : List Int := enc w.vol ++ enc w.start ++ es w.secs
structure Wr.Ok (w : Wr) : Prop where
  isL : IsL 8 w.dat (w.secs.flatMap bys) w.secs.length
  sec : ∀ s ∈ w.secs, Sec s
  few : w.secs.length ≤ 1000

theorem es_le {l : List (List Int)} (h : ∀ s ∈ l, Sec s) : (es l).length ≤ 9 + 8 * l.length := by
  have : (l.flatMap id).length ≤ 8 * l.length := by
    induction l with
    | nil => simp
    | cons s r ih =>
      have h1 := (h s (by simp)).1
      have := ih fun x hx => h x (by simp [hx])
      rw [List.flatMap_cons, List.length_append, List.length_cons]
      simp only [id]; omega
  have := (enc_length l.length).2
  unfold es
  rw [List.length_append]; omega
theorem ex_le (p : Int × Int) : (ex p).length ≤ 18 := by
  have := (enc_length p.1).2
  have := (enc_length p.2).2
  simp only [ex, List.length_append]; omega
theorem ew_le {w : Wr} (h : w.Ok) : (ew w).length ≤ 8027 := by
  have := (enc_length w.vol).2
  have := (enc_length w.start).2
  have := es_le h.sec
  have := h.few
  simp only [ew, List.length_append]; omega

theorem flatMap_byt {α : Type} {e : α → List Int} {l : List α} (h : ∀ x ∈ l, Byt (e x)) : Byt (l.flatMap e) := by
  intro b hb
  obtain ⟨x, hx, hb⟩ := List.mem_flatMap.1 hb
  exact h x hx b hb
theorem es_byt {l : List (List Int)} (h : ∀ s ∈ l, Sec s) : Byt (es l) := (enc_byt _).append (flatMap_byt fun s hs => (h s hs).2)
theorem ex_byt (p : Int × Int) : Byt (ex p) := (enc_byt _).append (enc_byt _)
theorem ew_byt {w : Wr} (h : w.Ok) : Byt (ew w) := ((enc_byt _).append (enc_byt _)).append (es_byt h.sec)

theorem flat_sec {l : List (List Int)} (h : ∀ s ∈ l, Sec s) : Flat bys 8 l (l.flatMap bys) := flat_of fun s hs => by simp [(h s hs).1]
theorem flat_ext (l : List (Int × Int)) : Flat gx 2 l (l.flatMap gx) := flat_of fun _ _ => rfl
theorem flat_wr (l : List Wr) : Flat gw 3 l (l.flatMap gw) := flat_of fun _ _ => rfl

/-- an extent, put -/
theorem put57 (p : Int × Int) {y : AV} {cs : List AV} {m : Nat} {st : St} (hy : App st 1 y cs m) (hm : m ≤ 274877906944) :
    ∃ z st', callL T 70 [y, .agg (gx p)] st = some (.ret z, st') ∧ App st' 1 z (cs ++ bys (ex p)) (m + (ex p).length) := by
  have hle := (enc_length p.1).2
  obtain ⟨u, st1, h1, hA, hH⟩ := putInt (st := { H := st.H ++ [{ cells := gx p, fz := false }], F := st.F }) p.1 (hy.move rfl) (by omega)
  obtain ⟨z, st2, h2, hB, _⟩ := putInt p.2 hA (by omega)
  refine ⟨z, st2, ?_, by rw [ex, bys_append, List.length_append, ← List.append_assoc, ← Nat.add_assoc]; exact hB⟩
  rw [call_whole T70 (.inl rfl) rfl]
  simp only [gx] at h1 hH
  simp [inner_eq, s70, gx, h1, h2, opLoad, hH]

theorem put56s {l : List (Int × Int)} {x y : AV} {cs : List AV} {m : Nat} {st : St} (hlen : l.length ≤ 1000000) (hx : App st 1 x cs m) (hy : IsL 2 y (l.flatMap gx) l.length) (hm : m ≤ 68719476736) :
    ∃ z st', callL T 69 [x, y, .fn 70 []] st = some (.ret z, st') ∧ App st' 1 z (cs ++ bys (enc l.length ++ l.flatMap ex)) (m + (enc l.length ++ l.flatMap ex).length) :=
  put56 (B := 18) (flat_ext l) hlen (fun p _ => ex_le p) (fun _ _ => rfl) (fun p _ _ _ _ _ hy hm => put57 p hy (by omega)) hx hy (by omega)

/-- wire.Extents -/
theorem putExtents {l : List (Int × Int)} {x y : AV} {cs : List AV} {m : Nat} (hlen : l.length ≤ 1000000) (hx : IsL 1 x cs m) (hy : IsL 2 y (l.flatMap gx) l.length) (hm : m ≤ 8589934592) (st : St) :
    ∃ z st', callL T 41 [x, y] st = some (.ret z, st') ∧ App st' 1 z (cs ++ bys (enc l.length ++ l.flatMap ex)) (m + (enc l.length ++ l.flatMap ex).length) ∧ st'.H = st.H := by
  obtain ⟨x', hx1, hx2, _⟩ := hx.exp st
  obtain ⟨y', hy1, hy2, _⟩ := hy.exp st
  rw [call_keep T41 rfl rfl (show expA st [x, y] = some ([x', y'], st) by simp [expA, hx1, hy1])]
  obtain ⟨z, st1, hc, hA, _⟩ := clone hx2 (by omega) .mt
  obtain ⟨u, st2, hp, hA2⟩ := put56s hlen hA hy2 (by omega)
  obtain ⟨v, st', hk, hA', hH'⟩ := kept_app (st := st) hA2
  exact ⟨v, st', by simp [inner_eq, s41, hc, hp, hk], hA', hH'⟩

end VS
end Go.Proofs.Ytkhekmmldnjenaa
/- ref.PutSectors, ref.PutExtents, ref.PutWrites; few. -/
namespace Go.Proofs.Ytkhekmmldnjenaa
namespace VS

theorem bys_get (l : List Int) (j : Nat) (h : j < l.length) : (bys l)[j]? = some (.v (.int .u8 l[j])) := by simp [bys, h]

theorem ref24Loop {l : List (Int × Int)} {ds : List AV} (t : Tag) (hf : Flat gx 2 l ds) (hlen : l.length ≤ 1000000) : ∀ (k i : Nat) (x : AV) (cs : List AV) (m : Nat) (st : St), App st 1 x cs m → i + k = l.length → m + 18 * k ≤ 137438953472 →
    ∃ y fr' st', runL T (.loop [1, 5, 6] s43b0) { s := [(1, .sl ds l.length t), (5, x), (6, .v (.int .i64 i))], d := [] } st = some (.ex 0, fr', st') ∧ fr'.only [5] = { s := [(5, y)], d := [] } ∧
      App st' 1 y (cs ++ bys ((l.drop i).flatMap ex)) (m + ((l.drop i).flatMap ex).length)
  | 0, i, x, cs, m, st, hx, hi, _ => by
    have hd : l.drop i = [] := List.drop_eq_nil_of_le (by omega)
    refine ⟨x, ?s, st, ?a, ?b, by rw [hd]; simpa using hx⟩
    case a =>
      rw [runL_loop]
      have : ¬ (i : Int) < l.length := by omega
      simp [s43b0, this]
      rfl
    case b => simp
  | k + 1, i, x, cs, m, st, hx, hi, hm => by
    have hlt : i < l.length := by omega
    have hd : l.drop i = l[i] :: l.drop (i + 1) := List.drop_eq_getElem_cons hlt
    have hw : IntKind.wrap .i64 ((i : Int) + 1) = ((i + 1 : Nat) : Int) := by rw [wrap_i64 (by omega) (by omega)]; omega
    have h1 : (i : Int) < l.length := by omega
    have hle1 := (enc_length l[i].1).2
    have hle2 := (enc_length l[i].2).2
    obtain ⟨v, st1, hp1, hA1, _⟩ := refPutInt l[i].1 hx.isL (by omega) st
    obtain ⟨u, stN, hp2, hA2, _⟩ := refPutInt l[i].2 hA1.isL (by omega) st1
    have hA : App stN 1 u (cs ++ bys (ex l[i])) (m + (ex l[i]).length) := by simpa [ex, bys_append, Nat.add_assoc] using hA2
    have hexl := ex_le l[i]
    have h3 : partOf ds (i * 2) none = some (.v (.int .i64 l[i].1)) := by
      have := hf.fld i 0 hlt (by omega)
      simpa [partOf, gx] using this
    have h4 : partOf ds (i * 2 + 1) none = some (.v (.int .i64 l[i].2)) := by
      have := hf.fld i 1 hlt (by omega)
      simpa [partOf, gx] using this
    obtain ⟨y, fr', st', hr, hfr, hA'⟩ := ref24Loop t hf hlen k (i + 1) u _ _ stN hA (by omega) (by omega)
    refine ⟨y, fr', st', ?_, hfr, ?_⟩
    · rw [runL_loop]
      generalize hL : SCode.loop [1, 5, 6] s43b0 = L
      simp only [s43b0]
      simp [h1, opLoad_ep, h3, h4, hp1, hp2, hw, -partOf]
      subst hL
      refine (loop_from ?_).trans hr
      simp
    · rw [hd, List.flatMap_cons, bys_append, ← List.append_assoc]
      simpa [Nat.add_assoc] using hA'

/-- ref, of a list -/
theorem ref24 {l : List (Int × Int)} {x y : AV} {cs : List AV} {m : Nat} (hlen : l.length ≤ 1000000) (hx : IsL 1 x cs m) (hy : IsL 2 y (l.flatMap gx) l.length) (hm : m ≤ 68719476736) (st : St) :
    ∃ z st', callL T 43 [x, y] st = some (.ret z, st') ∧ App st' 1 z (cs ++ bys (enc l.length ++ l.flatMap ex)) (m + (enc l.length ++ l.flatMap ex).length) ∧ st'.H = st.H := by
  obtain ⟨x', hx1, hx2, _⟩ := hx.exp st
  obtain ⟨y', hy1, hy2, _⟩ := hy.exp st
  rw [call_keep T43 rfl rfl (show expA st [x, y] = some ([x', y'], st) by simp [expA, hx1, hy1])]
  obtain ⟨u, st0, hp, hA0, _⟩ := refPutInt l.length hx2 (by omega) .mt
  have hle := (enc_length l.length).2
  have hlk := hy2.len
  generalize hn : l.length = n at hy2
  generalize hc : l.flatMap gx = ds at hy2
  cases hy2 with
  | nil =>
    have : l = [] := List.eq_nil_of_length_eq_zero hn
    subst this
    obtain ⟨y', st', hk, hA', hH'⟩ := kept_app (st := st) hA0
    refine ⟨y', st', ?_, by simpa using hA', hH'⟩
    simp at hp
    simp [inner_eq, s43, hp]
    rw [runL_loop]
    simp [s43b0, hk]
  | @sl _ _ t ht hl' =>
    subst hc; subst hn
    obtain ⟨y, fr', st1, hr, hfr, hA⟩ := ref24Loop t (flat_ext l) hlen l.length 0 u _ _ st0 hA0 (by omega) (by omega)
    obtain ⟨y', st', hk, hA', hH'⟩ := kept_app (st := st) hA
    refine ⟨y', st', ?_, ?_, hH'⟩
    · have hu := loop_use hr
      simp [inner_eq, s43, hp]
      rw [hu _ (by simp)]
      simp [hfr, hk]
    · rw [List.drop_zero] at hA'
      simpa [bys_append, Nat.add_assoc] using hA'

end VS
end Go.Proofs.Ytkhekmmldnjenaa
/- The values of a law: few; what they read as. -/
namespace Go.Proofs.Ytkhekmmldnjenaa
namespace VS

structure Wr.Fit (w : Wr) : Prop where
  isL : IsL 8 w.dat (w.secs.flatMap bys) w.secs.length
  sec : ∀ s ∈ w.secs, Sec s
theorem Wr.Fit.ok {w : Wr} (h : w.Fit) (hf : w.secs.length ≤ 1000) : w.Ok := ⟨h.isL, h.sec, hf⟩

theorem expL_cons {st : St} {a : AV} {r l : List AV} (h : exp0 st a = some (a, st)) (hr : expL st r = some (l, st)) : expL st (a :: r) = some (a :: l, st) := by
  simp only [expL, h, hr]

/-- Values, as a law has them. -/
structure Vals (a b c d : AV) (ns : List Int) (ss : List (List Int)) (xs : List (Int × Int)) (ws : List Wr) : Prop where
  cl : ∀ st, expL st [a, b, c, d] = some ([a, b, c, d], st)
  i : IsL 1 a (ints ns) ns.length
  s : IsL 8 b (ss.flatMap bys) ss.length
  sec : ∀ s ∈ ss, Sec s
  e : IsL 2 c (xs.flatMap gx) xs.length
  w : IsL 3 d (ws.flatMap gw) ws.length
  fit : ∀ w ∈ ws, w.Fit

theorem exp0_F {st st1 : St} {a b : AV} (h : exp0 st a = some (b, st1)) : st1.F = st.F := by
  unfold exp0 at h
  split at h
  · split at h
    · split at h
      · split at h
        · cases h; rfl
        · cases h
      · cases h
    · cases h
  · split at h
    · cases h; rfl
    · cases h

theorem expL_F : ∀ {l m : List AV} {st st1 : St}, expL st l = some (m, st1) → st1.F = st.F
  | [], m, st, st1, h => by simp only [expL, Option.some.injEq, Prod.mk.injEq] at h; rw [← h.2]
  | a :: r, m, st, st1, h => by
    simp only [expL] at h
    split at h
    · rename_i x s1 h1
      split at h
      · rename_i l s2 h2
        cases h
        exact (expL_F h2).trans (exp0_F h1)
      · cases h
    · cases h

theorem exp1_F {st st1 : St} {a b : AV} (h : exp1 st a = some (b, st1)) : st1.F = st.F := by
  unfold exp1 at h
  split at h
  · split at h
    · rename_i l s1 h1; cases h; exact expL_F h1
    · cases h
  · exact exp0_F h

theorem expA_F : ∀ {l m : List AV} {st st1 : St}, expA st l = some (m, st1) → st1.F = st.F
  | [], m, st, st1, h => by simp only [expA, Option.some.injEq, Prod.mk.injEq] at h; rw [← h.2]
  | a :: r, m, st, st1, h => by
    simp only [expA] at h
    split at h
    · rename_i x s1 h1
      split at h
      · rename_i l s2 h2
        cases h
        exact (expA_F h2).trans (exp1_F h1)
      · cases h
    · cases h

/-- Rows that there are stay as they are. -/
def Rows.Le (s t : St) : Prop := ∀ (i : Nat) (p : Nat × Nat), s.F[i]? = some p → t.F[i]? = some p
theorem Rows.Le.refl (s : St) : Rows.Le s s := fun _ _ h => h
theorem Rows.Le.trans {a b c : St} (h : Rows.Le a b) (k : Rows.Le b c) : Rows.Le a c := fun i p hp => k i p (h i p hp)
theorem App.later {st st' : St} {sz : Nat} {x : AV} {cs : List AV} {n : Nat} (h : App st sz x cs n) (hF : Rows.Le st st') : App st' sz x cs n := by
  cases h with
  | nil => exact .nil
  | full h => exact .full h
  | own h h2 => exact .own h (hF _ _ h2)

theorem kept_F {st st' : St} {o : Option (Res × St)} {r : Res} (h : kept st o = some (r, st')) : Rows.Le st st' := by
  unfold kept at h
  split at h
  · split at h
    · split at h
      · cases h
        intro i p hp
        show (st.F ++ _)[i]? = _
        rw [List.getElem?_append_left (List.getElem?_eq_some_iff.1 hp).1]; exact hp
      · cases h
    · cases h
  · cases h; exact Rows.Le.refl _
  · rw [Option.map_eq_some_iff] at h
    obtain ⟨_, _, h⟩ := h
    cases h; exact Rows.Le.refl _
  · rw [Option.map_eq_some_iff] at h
    obtain ⟨_, _, h⟩ := h
    cases h; exact Rows.Le.refl _
  · cases h

/-- A callee with a memory of its own leaves the caller's rows. -/
theorem call_F {f : FuncId} {s : SFn} {args : List AV} {st st' : St} {r : Res} (hT : T f = some s) (hk : s.kind = .keep) (h : callL T f args st = some (r, st')) : Rows.Le st st' := by
  by_cases hl : args.length = s.np
  · cases hx : expA st args with
    | none =>
      rw [callL_eq] at h
      unfold callOf at h
      rw [hT] at h
      simp [hl, hk, hx] at h
    | some p =>
      obtain ⟨args1, st0⟩ := p
      rw [call_keep hT hk hl hx] at h
      have h1 := kept_F h
      have h2 := expA_F hx
      intro i q hq
      exact h1 i q (by rw [h2]; exact hq)
  · rw [callL_eq] at h
    unfold callOf at h
    rw [hT] at h
    simp only [hl, if_false] at h
    split at h
    · unfold freshOf at h
      split at h
      · cases h
      · rename_i hx
        have h2 := expA_F hx
        have le : Rows.Le st _ := fun i q hq => by rw [h2]; exact hq
        split at h
        · split at h
          · split at h
            · cases h; exact le
            · cases h
          · cases h
        · cases h; exact le
        · rw [Option.map_eq_some_iff] at h
          obtain ⟨_, _, h⟩ := h
          cases h; exact le
        · rw [Option.map_eq_some_iff] at h
          obtain ⟨_, _, h⟩ := h
          cases h; exact le
        · cases h
    · cases h

theorem exp0_v (st : St) (x : Value) : exp0 st (.v x) = some (.v x, st) := by cases st; rfl

theorem opLoad_at {st : St} {l : List AV} {b : Bool} (h : st.H = [{ cells := l, fz := b }]) (j : Nat) : opLoad st none (.ptr 0 j) = l[j]? := by
  simp [opLoad, h, partOf]
theorem opLoad_all {st : St} {a b c d : AV} {f : Bool} (h : st.H = [{ cells := [a, b, c, d], fz := f }]) : opLoad st (some 4) (.ptr 0 0) = some (.agg [a, b, c, d]) := by
  simp [opLoad, h, partOf]

theorem App.isB' {st : St} {x : AV} {l : List Int} {n : Nat} (h : App st 1 x (bys l) n) (hn : n = l.length) : IsB x l := by
  subst hn; exact h.isB

/-- Two encodings behind the same bytes. -/
theorem two {N M : FuncId} {x v : AV} {d e : List Int} (hd : Byt d) (he : Byt e)
    (hN : ∀ st, ∃ z st', callL T N [x, v] st = some (.ret z, st') ∧ App st' 1 z (bys d ++ bys e) (d.length + e.length) ∧ st'.H = st.H)
    (hM : ∀ st, ∃ z st', callL T M [x, v] st = some (.ret z, st') ∧ App st' 1 z (bys d ++ bys e) (d.length + e.length) ∧ st'.H = st.H) (st : St) :
    ∃ z st1 u st2, callL T N [x, v] st = some (.ret z, st1) ∧ st1.H = st.H ∧ callL T M [x, v] st1 = some (.ret u, st2) ∧ st2.H = st.H ∧ callL T 20 [z, u] st2 = some (.ret (.v (.bool true)), st2) := by
  obtain ⟨z, st1, h1, hA, hH⟩ := hN st
  obtain ⟨u, st2, h2, hB, hH2⟩ := hM st1
  rw [← bys_append] at hA hB
  refine ⟨z, st1, u, st2, h1, hH, h2, hH2.trans hH, ?_⟩
  rw [bytesEqual' (hA.isB' (by simp)) (hB.isB' (by simp)) (hd.append he) (hd.append he)]
  simp

/-- What is put stands behind the bytes. -/
theorem behind {N : FuncId} {s : SFn} (hT : T N = some s) (hk : s.kind = .keep) {x o v : AV} {d e : List Int} (hx : IsB x d) (ho : IsB o d) (hd : Byt d) (he : Byt e) (hdl : d.length ≤ 1000) (hel : e.length ≤ 1000000)
    (hN : ∀ (x : AV) (cs : List AV) (m : Nat) (st : St), IsL 1 x cs m → m ≤ 1000 → ∃ z st', callL T N [x, v] st = some (.ret z, st') ∧ App st' 1 z (cs ++ bys e) (m + e.length) ∧ st'.H = st.H) (st : St) :
    ∃ z st1 o' st2 u st3 p st4, callL T N [x, v] st = some (.ret z, st1) ∧ st1.H = st.H ∧ callL T 31 [o] st1 = some (.ret o', st2) ∧ st2.H = st.H ∧ callL T N [.v (.slice none 0 0), v] st2 = some (.ret u, st3) ∧ st3.H = st.H ∧
      opAppend st3 1 1 o' u = some (p, st4) ∧ st4.H = st.H ∧ callL T 20 [z, p] st4 = some (.ret (.v (.bool true)), st4) := by
  obtain ⟨z, st1, h1, hA, hH1⟩ := hN x _ _ st hx.isL hdl
  obtain ⟨o', st2, h2, hB, hH2⟩ := clone ho.isL (by omega) st1
  obtain ⟨u, st3, h3, hC, hH3⟩ := hN _ _ _ st2 .nil (by omega)
  rw [List.nil_append, Nat.zero_add] at hC
  obtain ⟨p, st4, h4, hD, hH4⟩ := app_append (bytes := 1) (hB.later (call_F hT hk h3)) hC.isL (by omega) (by simp only [most47]; omega) (by omega)
  have e1 := hH2.trans hH1
  have e2 := hH3.trans e1
  refine ⟨z, st1, o', st2, u, st3, p, st4, h1, hH1, h2, e1, h3, e2, h4, hH4.trans e2, ?_⟩
  rw [← bys_append] at hA hD
  rw [bytesEqual' (hA.isB' (by simp)) (hD.isB' (by simp)) (hd.append he) (hd.append he)]
  simp

end VS
end Go.Proofs.Ytkhekmmldnjenaa
/- Numbers, read: what is computed, and that the cursor's 'number' computes it. -/
namespace Go.Proofs.Ytkhekmmldnjenaa
namespace VS

/-- A number's groups; 'k' more at most; 'i': how many were read; 'n': what they say. -/
def numS : Nat → Nat → Int → List Int → Except Int (Int × List Int)
  | 0, _, _, _ => .error 3
  | _ + 1, _, _, [] => .error 10
  | k + 1, i, n, b :: r =>
    if 128 ≤ b then numS k (i + 1) (n + b % 128 * 128 ^ i) r
    else if (b = 0 ∧ 0 < i) ∨ 9007199254740991 < n + b % 128 * 128 ^ i then .error 3
    else .ok (n + b % 128 * 128 ^ i, r)

def num (l : List Int) : Except Int (Int × List Int) := numS 8 0 0 l

theorem andI_127 {b : Int} (h0 : 0 ≤ b) (h1 : b < 256) : andI .u8 b 127 = b % 128 := by
  have h : ∀ k : Fin 256, andI .u8 (k.val : Int) 127 = k.val % 128 := by decide +kernel
  have := h ⟨b.toNat, by omega⟩
  rw [show ((⟨b.toNat, by omega⟩ : Fin 256).val : Int) = b from by simp; omega] at this
  exact this
theorem andI_128 {b : Int} (h0 : 0 ≤ b) (h1 : b < 256) : andI .u8 b 128 = if 128 ≤ b then 128 else 0 := by
  have h : ∀ k : Fin 256, andI .u8 (k.val : Int) 128 = if 128 ≤ (k.val : Int) then 128 else 0 := by decide +kernel
  have := h ⟨b.toNat, by omega⟩
  rw [show ((⟨b.toNat, by omega⟩ : Fin 256).val : Int) = b from by simp; omega] at this
  exact this

theorem orI_add {n m : Int} {k : Nat} (h0 : 0 ≤ n) (h1 : n < 2 ^ k) (h2 : 0 ≤ m) (h3 : n + m * 2 ^ k < 9223372036854775808) : orI .i64 n (m * 2 ^ k) = n + m * 2 ^ k := by
  obtain ⟨a, rfl⟩ := Int.eq_ofNat_of_zero_le h0
  obtain ⟨c, rfl⟩ := Int.eq_ofNat_of_zero_le h2
  have e1 : (c : Int) * 2 ^ k = ((c * 2 ^ k : Nat) : Int) := by push_cast; rfl
  rw [e1] at h3 ⊢
  have ha : a < 2 ^ k := by exact_mod_cast h1
  have hsum : a + c * 2 ^ k < 9223372036854775808 := by
    generalize c * 2 ^ k = d at h3 ⊢
    omega
  have key : a ||| c * 2 ^ k = a + c * 2 ^ k := by
    have := Nat.two_pow_add_eq_or_of_lt ha c
    rw [Nat.or_comm, Nat.mul_comm c, ← this, Nat.add_comm]
  unfold orI
  have hb : IntKind.i64.bits = 64 := rfl
  rw [hb]
  have e2 : (BitVec.ofInt 64 (a : Int) ||| BitVec.ofInt 64 ((c * 2 ^ k : Nat) : Int)).toNat = a + c * 2 ^ k := by
    rw [BitVec.toNat_or, BitVec.ofInt_natCast, BitVec.ofInt_natCast, BitVec.toNat_ofNat, BitVec.toNat_ofNat, Nat.mod_eq_of_lt (by omega), Nat.mod_eq_of_lt (by omega), key]
  rw [e2, wrap_i64 (by omega) (by omega)]
  push_cast; rfl

theorem pow_128 (i : Nat) : (128 : Int) ^ i = 2 ^ (7 * i) := by
  rw [Int.pow_mul]; rfl

theorem shl7 {x : Int} {i : Nat} (h0 : 0 ≤ x) (h1 : x < 128) (hi : i ≤ 7) : shlI .i64 x (7 * (i : Int)) = x * 128 ^ i := by
  unfold shlI
  have e : min (7 * (i : Int)).toNat IntKind.i64.bits = 7 * i := by
    have : (7 * (i : Int)).toNat = 7 * i := by omega
    rw [this, show IntKind.i64.bits = 64 from rfl]
    omega
  rw [e, ← pow_128]
  have hp : (128 : Int) ^ i ≤ 128 ^ 7 := by exact_mod_cast Nat.pow_le_pow_right (by omega : 0 < 128) hi
  have hp0 : (0 : Int) < 128 ^ i := Int.pow_pos (by omega)
  have h7 : (128 : Int) ^ 7 = 562949953421312 := by decide
  have hle : x * 128 ^ i ≤ 127 * 128 ^ i := Int.mul_le_mul_of_nonneg_right (by omega) (by omega)
  have hge : 0 ≤ x * 128 ^ i := Int.mul_nonneg h0 (by omega)
  exact wrap_i64 (by omega) (by omega)

theorem or7 {n x : Int} {i : Nat} (h0 : 0 ≤ n) (h1 : n < 128 ^ i) (h2 : 0 ≤ x) (h3 : x < 128) (hi : i ≤ 7) : orI .i64 n (x * 128 ^ i) = n + x * 128 ^ i := by
  have hp : (128 : Int) ^ i ≤ 128 ^ 7 := by exact_mod_cast Nat.pow_le_pow_right (by omega : 0 < 128) hi
  have h7 : (128 : Int) ^ 7 = 562949953421312 := by decide
  have hle : x * 128 ^ i ≤ 127 * 128 ^ i := Int.mul_le_mul_of_nonneg_right (by omega) (by omega)
  rw [pow_128] at *
  exact orI_add h0 h1 h2 (by omega)

theorem acc_lt {n x : Int} {i : Nat} (h0 : 0 ≤ n) (h1 : n < 128 ^ i) (h2 : 0 ≤ x) (h3 : x < 128) : 0 ≤ n + x * 128 ^ i ∧ n + x * 128 ^ i < 128 ^ (i + 1) := by
  have hp0 : (0 : Int) < 128 ^ i := Int.pow_pos (by omega)
  have hle : x * 128 ^ i ≤ 127 * 128 ^ i := Int.mul_le_mul_of_nonneg_right (by omega) (by omega)
  have hge : 0 ≤ x * 128 ^ i := Int.mul_nonneg h2 (by omega)
  rw [Int.pow_succ]
  omega

theorem IsB.form {x : AV} {l : List Int} (h : IsB x l) (hl : 0 < l.length) : ∃ t, x = .sl (bys l) l.length t ∧ t ≠ .ptrs := by
  cases h with
  | nil => simp at hl
  | sl ht => exact ⟨_, rfl, ht⟩

theorem tagCut_ne {t : Tag} {b : Bool} (h : t ≠ .ptrs) : tagCut t b ≠ .ptrs := by
  cases t <;> simp_all [tagCut] <;> split <;> simp

/-- What stands behind the first bytes. -/
theorem slice_from {x : AV} {l : List Int} (hx : IsB x l) {i : Nat} {k : IntKind} (hi : i ≤ l.length) : ∃ y, (∀ (fr : Fr) (s : SX), evX fr s = some (.v (.int k i)) → opSlice fr 1 (some s) none x = some y) ∧ IsB y (l.drop i) := by
  cases hx with
  | @nil q =>
    refine ⟨.v (.slice q 0 0), fun fr s hs => ?_, by simpa using IsB.nil⟩
    simp at hi
    subst hi
    simp [opSlice, hs]
  | @sl l t ht =>
    refine ⟨.sl (bys (l.drop i)) (l.drop i).length (tagCut t true), fun fr s hs => ?_, .sl (tagCut_ne ht)⟩
    have h1 : (i : Int) ≤ l.length := by omega
    have h2 : (List.drop i (bys l)).take (l.length - i) = bys (l.drop i) := by
      rw [List.take_of_length_le (by simp)]
      simp [bys]
    simp [opSlice, hs, h1, h2]

/-- The first bytes. -/
theorem slice_to {x : AV} {l : List Int} (hx : IsB x l) {i : Nat} {k : IntKind} (hi : i ≤ l.length) : ∃ y, (∀ (fr : Fr) (s : SX), evX fr s = some (.v (.int k i)) → opSlice fr 1 none (some s) x = some y) ∧ IsB y (l.take i) := by
  cases hx with
  | @nil q =>
    refine ⟨.v (.slice q 0 0), fun fr s hs => ?_, by simpa using IsB.nil⟩
    simp at hi
    subst hi
    simp [opSlice, hs]
  | @sl l t ht =>
    have hlen : (l.take i).length = i := by rw [List.length_take]; omega
    refine ⟨.sl (bys (l.take i)) (l.take i).length (tagCut t (i == l.length)), fun fr s hs => ?_, .sl (tagCut_ne ht)⟩
    have h1 : (i : Int) ≤ l.length := by omega
    have h2 : (bys l).take i = bys (l.take i) := by simp [bys]
    simp [opSlice, hs, h1, h2, hlen]

theorem IsB.one {x : AV} {l : List Int} (h : IsB x l) : x.isTup = false ∧ x.cells = [x] := by
  cases h <;> simp

theorem cur_store {st : St} {b : Nat} {x y : AV} (hb : st.H[b]? = some { cells := [x], fz := false }) (hy : y.isTup = false ∧ y.cells = [y]) : opStore st 1 (.ptr b 0) y = some { H := st.H.set b { cells := [y], fz := false }, F := st.F } := by
  simp [opStore, hb, hy.1, hy.2, putAt, -AV.cells, -AV.isTup]
theorem cur_load {st : St} {b : Nat} {x : AV} (hb : st.H[b]? = some { cells := [x], fz := false }) : opLoad st none (.ptr b 0) = some x := by
  simp [opLoad, hb, partOf]

def NumOut (b : Nat) (st : St) (o : Option Out) : Except Int (Int × List Int) → Prop
  | .ok (m, r) => ∃ y, IsB y r ∧ o = some (.rt, { s := [(2, .v (.int .i64 m)), (3, .v (.int .i64 0))], d := [] }, { H := st.H.set b { cells := [y], fz := false }, F := st.F })
  | .error e => o = some (.rt, { s := [(2, .v (.int .i64 0)), (3, .v (.int .i64 e))], d := [] }, st) ∨ (e = 3 ∧ ∃ fr', o = some (.ex 0, fr', st) ∧ fr'.only [] = { s := [], d := [] })

theorem numLoop61 {st : St} {b : Nat} {x : AV} {l : List Int} (hb : st.H[b]? = some { cells := [x], fz := false }) (hx : IsB x l) (hl : Byt l) (hlen : l.length ≤ 1099511627776) : ∀ (k i : Nat) (n : Int), i + k = 8 → i ≤ l.length → 0 ≤ n → n < 128 ^ i →
    NumOut b st (runL T (.loop [0, 4, 7] s90b0) { s := [(0, .ptr b 0), (4, .v (.int .i64 n)), (7, .v (.int .i64 i))], d := [] } st) (numS k i n (l.drop i))
  | 0, i, n, hi, _, _, _ => by
    have : i = 8 := by omega
    subst this
    refine .inr ⟨rfl, ?s, ?a, ?b⟩
    case a =>
      rw [runL_loop]
      simp [s90b0]
      rfl
    case b => simp
  | k + 1, i, n, hi, hil, h0, h1 => by
    have hc := cur_load hb
    have h8 : (i : Int) < 8 := by omega
    by_cases hlt : i < l.length
    · have hd : l.drop i = l[i] :: l.drop (i + 1) := List.drop_eq_getElem_cons hlt
      obtain ⟨t, rfl, ht⟩ := hx.form (by omega)
      obtain ⟨y, hy, hyl⟩ := slice_from (k := .i64) hx (i := i + 1) (by omega)
      have hst := cur_store hb hyl.one
      obtain ⟨hb0, hb1⟩ := hl l[i] (List.getElem_mem hlt)
      have hget := bys_get l i hlt
      have hge : ¬ (l.length : Int) ≤ i := by omega
      have hlti : (i : Int) < l.length := by omega
      have a1 := andI_127 hb0 hb1
      have a2 := andI_128 hb0 hb1
      have hw1 : IntKind.wrap .i64 (l[i] % 128) = l[i] % 128 := wrap_i64 (by omega) (by omega)
      have hw2 : IntKind.wrap .i64 (7 * (i : Int)) = 7 * (i : Int) := wrap_i64 (by omega) (by omega)
      have hw3 : IntKind.wrap .i64 ((i : Int) + 1) = ((i + 1 : Nat) : Int) := by rw [wrap_i64 (by omega) (by omega)]; omega
      have hs := shl7 (x := l[i] % 128) (i := i) (by omega) (by omega) (by omega)
      have ho := or7 (x := l[i] % 128) h0 h1 (by omega) (by omega) (show i ≤ 7 by omega)
      have hneg : ¬ 7 * (i : Int) < 0 := by omega
      obtain ⟨hm0, hm1⟩ := acc_lt (x := l[i] % 128) h0 h1 (by omega) (by omega)
      rw [hd]
      simp only [numS]
      generalize hmm : n + l[i] % 128 * 128 ^ i = m at *
      by_cases hbig : 128 ≤ l[i]
      · rw [if_pos hbig]
        rw [if_pos hbig] at a2
        have ih := numLoop61 hb hx hl hlen k (i + 1) m (by omega) (by omega) hm0 hm1
        have step : runL T (.loop [0, 4, 7] s90b0) { s := [(0, .ptr b 0), (4, .v (.int .i64 n)), (7, .v (.int .i64 i))], d := [] } st =
            runL T (.loop [0, 4, 7] s90b0) { s := [(0, .ptr b 0), (4, .v (.int .i64 m)), (7, .v (.int .i64 (i + 1 : Nat)))], d := [] } st := by
          rw [runL_loop]
          generalize hL : SCode.loop [0, 4, 7] s90b0 = L
          simp only [s90b0]
          simp [h8, hc, hge, hlti, opLoad_ep, hget, a1, a2, hw1, hw2, hneg, hs, ho, hw3]
          subst hL
          refine loop_from ?_
          simp
        rw [step]
        exact ih
      · rw [if_neg hbig]
        rw [if_neg hbig] at a2
        by_cases hbad : (l[i] = 0 ∧ 0 < i) ∨ 9007199254740991 < m
        · rw [if_pos hbad]
          refine .inl ?_
          rw [runL_loop]
          simp only [s90b0]
          by_cases hz : l[i] = 0
          · have hz1 := eq_true hz
            by_cases hi0 : 0 < i
            · simp [h8, hc, hge, hlti, opLoad_ep, hget, a1, a2, hw1, hw2, hneg, hs, ho, hz1, hi0]
            · have hm9 : 9007199254740991 < m := by rcases hbad with h | h <;> omega
              simp [h8, hc, hge, hlti, opLoad_ep, hget, a1, a2, hw1, hw2, hneg, hs, ho, hz1, hi0, hm9]
          · have hm9 : 9007199254740991 < m := by rcases hbad with h | h <;> omega
            simp [h8, hc, hge, hlti, opLoad_ep, hget, a1, a2, hw1, hw2, hneg, hs, ho, hz, hm9]
        · rw [if_neg hbad]
          have hm9 : ¬ 9007199254740991 < m := fun h => hbad (.inr h)
          refine ⟨y, hyl, ?_⟩
          rw [runL_loop]
          simp only [s90b0]
          by_cases hz : l[i] = 0
          · have hi0 : ¬ 0 < i := fun h => hbad (.inl ⟨hz, h⟩)
            have hz1 := eq_true hz
            simp [h8, hc, hge, hlti, opLoad_ep, hget, a1, a2, hw1, hw2, hneg, hs, ho, hz1, hi0, hm9, hw3, hy, hst]
          · simp [h8, hc, hge, hlti, opLoad_ep, hget, a1, a2, hw1, hw2, hneg, hs, ho, hz, hm9, hw3, hy, hst]
    · have hd : l.drop i = [] := List.drop_eq_nil_of_le (by omega)
      rw [hd]
      refine .inl ?_
      have hk := hx.isL.len
      have hge : (l.length : Int) ≤ i := by omega
      rw [runL_loop]
      simp only [s90b0]
      simp [h8, hc, hk, hge]

end VS
end Go.Proofs.Ytkhekmmldnjenaa
/- The cursor: what a reader's call leaves as it was. -/
namespace Go.Proofs.Ytkhekmmldnjenaa
namespace VS

structure Cur (b : Nat) (st st' : St) : Prop where
  other : ∀ j, j ≠ b → j < st.H.length → st'.H[j]? = st.H[j]?
  len : st.H.length ≤ st'.H.length
  rows : Rows.Le st st'

theorem Cur.refl (b : Nat) (st : St) : Cur b st st := ⟨fun _ _ _ => rfl, Nat.le_refl _, Rows.Le.refl _⟩
theorem Cur.trans {b : Nat} {s t u : St} (h : Cur b s t) (k : Cur b t u) : Cur b s u :=
  ⟨fun j h1 h2 => (k.other j h1 (Nat.lt_of_lt_of_le h2 h.len)).trans (h.other j h1 h2), Nat.le_trans h.len k.len, h.rows.trans k.rows⟩
theorem Cur.alloc {b : Nat} {st : St} {m : List HB} : Cur b st { H := st.H ++ m, F := st.F } :=
  ⟨fun j _ h2 => by show (st.H ++ m)[j]? = _; rw [List.getElem?_append_left h2], by simp, fun _ _ h => h⟩
theorem Cur.set {b : Nat} {s st : St} {x : HB} (h : Cur b s st) : Cur b s { H := st.H.set b x, F := st.F } :=
  ⟨fun j h1 h2 => by show (st.H.set b x)[j]? = _; rw [List.getElem?_set_ne (Ne.symm h1)]; exact h.other j h1 h2, by simpa using h.len, h.rows⟩
theorem Cur.setNew {b j : Nat} {s st : St} {x : HB} (h : Cur b s st) (hj : s.H.length ≤ j) : Cur b s { H := st.H.set j x, F := st.F } :=
  ⟨fun i h1 h2 => by show (st.H.set j x)[i]? = _; rw [List.getElem?_set_ne (by omega)]; exact h.other i h1 h2, by simpa using h.len, h.rows⟩
theorem Cur.sameH {b : Nat} {s st st' : St} (h : Cur b s st) (hH : st'.H = st.H) (hr : Rows.Le s st') : Cur b s st' :=
  ⟨fun j h1 h2 => by rw [hH]; exact h.other j h1 h2, by rw [hH]; exact h.len, hr⟩

def At (b : Nat) (st : St) (l : List Int) : Prop := ∃ x, st.H[b]? = some { cells := [x], fz := false } ∧ IsB x l

theorem At.lt {b : Nat} {st : St} {l : List Int} (h : At b st l) : b < st.H.length := by
  obtain ⟨x, h, _⟩ := h
  exact (List.getElem?_eq_some_iff.1 h).1
theorem At.alloc {b : Nat} {st : St} {l : List Int} {m : List HB} {F : List (Nat × Nat)} (h : At b st l) : At b { H := st.H ++ m, F := F } l := by
  have hlt := h.lt
  obtain ⟨x, h, hx⟩ := h
  exact ⟨x, by show (st.H ++ m)[b]? = _; rw [List.getElem?_append_left hlt]; exact h, hx⟩
theorem At.setNe {b j : Nat} {st : St} {l : List Int} {x : HB} (h : At b st l) (hj : j ≠ b) : At b { H := st.H.set j x, F := st.F } l := by
  obtain ⟨y, h, hy⟩ := h
  exact ⟨y, by show (st.H.set j x)[b]? = _; rw [List.getElem?_set_ne hj]; exact h, hy⟩
theorem At.sameH {b : Nat} {st st' : St} {l : List Int} (h : At b st l) (hH : st'.H = st.H) : At b st' l := by
  obtain ⟨y, h, hy⟩ := h
  exact ⟨y, by rw [hH]; exact h, hy⟩

/-- A slice that was begun here. -/
inductive AppN (f0 : Nat) (st : St) (sz : Nat) : AV → List AV → Nat → Prop where
  | nil : AppN f0 st sz (.v (.slice none 0 0)) [] 0
  | own {cs : List AV} {n r e : Nat} : f0 ≤ r → cs.length = n * sz → st.F[r]? = some (e, sz) → AppN f0 st sz (.sl cs n (.own r e)) cs n

theorem AppN.app {f0 : Nat} {st : St} {sz : Nat} {x : AV} {cs : List AV} {n : Nat} (h : AppN f0 st sz x cs n) : App st sz x cs n := by
  cases h with
  | nil => exact .nil
  | own _ h1 h2 => exact .own h1 h2
theorem AppN.later {f0 : Nat} {st st' : St} {sz : Nat} {x : AV} {cs : List AV} {n : Nat} (h : AppN f0 st sz x cs n) (hr : Rows.Le st st') : AppN f0 st' sz x cs n := by
  cases h with
  | nil => exact .nil
  | own h0 h1 h2 => exact .own h0 h1 (hr _ _ h2)

theorem Rows.Le.length {s t : St} (h : Rows.Le s t) : s.F.length ≤ t.F.length := by
  rcases Nat.eq_zero_or_pos s.F.length with h0 | h0
  · omega
  · have : s.F[s.F.length - 1]? = some s.F[s.F.length - 1] := by simp
    have := (List.getElem?_eq_some_iff.1 (h _ _ this)).1
    omega

theorem appN_append {s st : St} {sz bytes : Nat} {x y : AV} {cs ds : List AV} {n m : Nat} (hs : Rows.Le s st) (hx : AppN s.F.length st sz x cs n) (hy : IsL sz y ds m) (hm0 : 0 < m) (hsz : 0 < sz) (hb : (n + m) * bytes ≤ most47) (hm : n + m ≤ 1099511627776) :
    ∃ z st', opAppend st sz bytes x y = some (z, st') ∧ AppN s.F.length st' sz z (cs ++ ds) (n + m) ∧ st'.H = st.H ∧ Rows.Le s st' := by
  have hmax : ∀ k, k ≤ n + m → k ≤ maxLen := fun k hk => by simp only [maxLen]; omega
  have hsrc : srcOf st y sz = some (ds, m) := by
    cases hy with
    | nil => rfl
    | sl ht hl => simp [srcOf, ht]
  have hlen := hy.cells
  have hb2 : m * bytes ≤ most47 := Nat.le_trans (Nat.mul_le_mul_right _ (by omega)) hb
  have h0 : ¬ m = 0 := by omega
  have hfl := hs.length
  unfold opAppend
  rw [hsrc]
  cases hx with
  | nil =>
    refine ⟨.sl ds m (.own st.F.length ds.length), { st with F := st.F ++ [(ds.length, sz)] }, by simp [hlen, hsz, h0, hb2, hmax m (by omega)], ?_, rfl, fun i p hp => ?_⟩
    · simp only [List.nil_append, Nat.zero_add]
      exact .own hfl hlen (by simp)
    · have := hs i p hp
      show (st.F ++ _)[i]? = _
      rw [List.getElem?_append_left (List.getElem?_eq_some_iff.1 this).1]; exact this
  | own hr h hF =>
    rename_i r e
    have hlt := (List.getElem?_eq_some_iff.1 hF).1
    refine ⟨.sl (cs ++ ds) (n + m) (.own r (e + ds.length)), { st with F := st.F.set r (e + ds.length, sz) }, by simp [hlen, hsz, h0, hb, hmax (n + m) (by omega), h, hF], .own hr (by simp [h, hlen, Nat.add_mul]) (by simp [hlt]), rfl, fun i p hp => ?_⟩
    have hi := (List.getElem?_eq_some_iff.1 hp).1
    show (st.F.set r _)[i]? = _
    rw [List.getElem?_set_ne (by omega)]; exact hs i p hp

/-- A reader: what it answers; what it leaves. -/
def Rd {α : Type} (f : FuncId) (R : List Int → Except Int (α × List Int)) (rep : St → α → AV → Prop) (bad : AV → Prop) : Prop :=
  ∀ (b : Nat) (st : St) (l : List Int), At b st l → Byt l → l.length ≤ 1099511627776 →
    (∀ a r, R l = .ok (a, r) → ∃ v st', callL T f [.ptr b 0] st = some (.ret (.tup [v, .v (.int .i64 0)]), st') ∧ At b st' r ∧ Byt r ∧ r.length ≤ l.length ∧ Cur b st st' ∧ rep st' a v) ∧
    (∀ e, R l = .error e → e ≠ 0 ∧ ∃ v st', callL T f [.ptr b 0] st = some (.ret (.tup [v, .v (.int .i64 e)]), st') ∧ Cur b st st' ∧ bad v)

theorem numS_ok : ∀ (k i : Nat) (n : Int) (l : List Int) (m : Int) (r : List Int), 0 ≤ n → Byt l → numS k i n l = .ok (m, r) → 0 ≤ m ∧ m ≤ 9007199254740991 ∧ ∃ p, l = p ++ r
  | 0, _, _, _, _, _, _, _, h => by simp [numS] at h
  | k + 1, i, n, [], m, r, _, _, h => by simp [numS] at h
  | k + 1, i, n, b :: t, m, r, h0, hb, h => by
    have hp : (0 : Int) ≤ b % 128 * 128 ^ i := Int.mul_nonneg (by omega) (by have : (0 : Int) < 128 ^ i := Int.pow_pos (by omega); omega)
    simp only [numS] at h
    generalize b % 128 * 128 ^ i = q at h hp
    split at h
    · obtain ⟨h1, h2, p, rfl⟩ := numS_ok k (i + 1) _ t m r (by omega) (fun x hx => hb x (by simp [hx])) h
      exact ⟨h1, h2, b :: p, rfl⟩
    · split at h
      · cases h
      · rename_i hn
        cases h
        exact ⟨by omega, by omega, [b], rfl⟩

theorem num_ok {l r : List Int} {n : Int} (hb : Byt l) (h : num l = .ok (n, r)) : 0 ≤ n ∧ n ≤ 9007199254740991 ∧ ∃ p, l = p ++ r := numS_ok 8 0 0 l n r (by omega) hb h

theorem numS_err : ∀ (k i : Nat) (n : Int) (l : List Int) (e : Int), numS k i n l = .error e → e = 3 ∨ e = 10
  | 0, _, _, _, _, h => by simp [numS] at h; omega
  | k + 1, i, n, [], _, h => by simp [numS] at h; omega
  | k + 1, i, n, b :: t, e, h => by
    simp only [numS] at h
    split at h
    · exact numS_err _ _ _ _ _ h
    · split at h
      · cases h; exact .inl rfl
      · cases h

theorem Byt.right {p r : List Int} (h : Byt (p ++ r)) : Byt r := fun b hb => h b (by simp [hb])

/-- (*cursor).number -/
theorem number : Rd 90 num (fun _ n v => v = .v (.int .i64 n)) (fun v => v = .v (.int .i64 0)) := by
  intro b st l hat hb hlen
  obtain ⟨x, hH, hx⟩ := id hat
  have h := numLoop61 hH hx hb hlen 8 0 0 rfl (by omega) (by omega) (by omega)
  rw [List.drop_zero] at h
  have hc : ∀ o, runL T (.loop [0, 4, 7] s90b0) { s := [(0, .ptr b 0), (4, .v (.int .i64 0)), (7, .v (.int .i64 (0 : Nat)))], d := [] } st = o → callL T 90 [.ptr b 0] st = endR [.tmp 2, .tmp 3] (thenR (blockR 0 o) (seqK T [] (.seq [2, 3] (.region [⟨(some 2), none, (.mv (.c (.v (.int .i64 0))))⟩, ⟨(some 3), none, (.mv (.c (.v (.int .i64 3))))⟩] false) .ret))) := by
    intro o ho
    rw [call_whole T90 (.inl rfl) rfl]
    have hu := loop_use ho
    simp [inner_eq, s90, -runL_seq', -runL_cond']
    simp only [runL_seq', runL_region]
    simp
    rw [hu _ (by simp)]
  refine ⟨fun n r hn => ?_, fun e he => ?_⟩
  · change numS 8 0 0 l = .ok (n, r) at hn
    rw [hn] at h
    obtain ⟨y, hy, ho⟩ := h
    obtain ⟨_, _, p, hp⟩ := num_ok hb hn
    have hlt := hat.lt
    refine ⟨_, { H := st.H.set b { cells := [y], fz := false }, F := st.F }, ?_, ⟨y, by simp [hlt], hy⟩, ?_, ?_, (Cur.refl b st).set, rfl⟩
    · rw [hc _ ho]
      simp
    · rw [hp] at hb; exact hb.right
    · rw [hp]; simp
  · change numS 8 0 0 l = .error e at he
    have h3 := numS_err _ _ _ _ _ he
    rw [he] at h
    refine ⟨by omega, _, st, ?_, Cur.refl b st, rfl⟩
    rcases h with ho | ⟨rfl, fr', ho, hfr⟩
    · rw [hc _ ho]
      simp
    · rw [hc _ ho]
      simp [hfr]

end VS
end Go.Proofs.Ytkhekmmldnjenaa
/- The cursor's readers: lengths, pairs, bytes, sectors, extents, writes, lists. -/
namespace Go.Proofs.Ytkhekmmldnjenaa
namespace VS

def lenR (l : List Int) : Except Int (Int × List Int) := match num l with
  | .ok (n, r) => if 65536 < n then .error 5 else .ok (n, r)
  | .error e => .error e

theorem lenR_ok {l r : List Int} {n : Int} (h : lenR l = .ok (n, r)) : num l = .ok (n, r) ∧ n ≤ 65536 := by
  unfold lenR at h
  split at h
  · rename_i m r' hn
    split at h
    · cases h
    · cases h; exact ⟨hn, by omega⟩
  · cases h

theorem lenR_err {l : List Int} {e : Int} (h : lenR l = .error e) : num l = .error e ∨ (e = 5 ∧ ∃ n r, num l = .ok (n, r) ∧ 65536 < n) := by
  unfold lenR at h
  split at h
  · rename_i m r' hn
    split at h
    · cases h; exact .inr ⟨rfl, m, r', hn, by assumption⟩
    · cases h
  · rename_i hn; cases h; exact .inl hn

/-- (*cursor).length -/
theorem length84 : Rd 103 lenR (fun _ n v => v = .v (.int .i64 n)) (fun v => ∃ n, v = .v (.int .i64 n)) := by
  intro b st l hat hb hlen
  obtain ⟨ok, er⟩ := number b st l hat hb hlen
  refine ⟨fun n r h => ?_, fun e h => ?_⟩
  · obtain ⟨hn, hle⟩ := lenR_ok h
    obtain ⟨v, st', h1, h2, h3, h4, h5, rfl⟩ := ok _ _ hn
    refine ⟨_, st', ?_, h2, h3, h4, h5, rfl⟩
    rw [call_whole T103 (.inl rfl) rfl]
    have : ¬ 65536 < n := by omega
    simp [inner_eq, s103, h1, this]
  · rcases lenR_err h with hn | ⟨rfl, n, r, hn, hgt⟩
    · obtain ⟨h0, v, st', h1, h2, rfl⟩ := er _ hn
      refine ⟨h0, .v (.int .i64 0), st', ?_, h2, 0, rfl⟩
      rw [call_whole T103 (.inl rfl) rfl]
      simp [inner_eq, s103, h1, h0]
    · obtain ⟨v, st', h1, h2, h3, h4, h5, rfl⟩ := ok _ _ hn
      refine ⟨by omega, .v (.int .i64 n), st', ?_, h5, n, rfl⟩
      rw [call_whole T103 (.inl rfl) rfl]
      simp [inner_eq, s103, h1, hgt]

def pairR (l : List Int) : Except Int ((Int × Int) × List Int) := match num l with
  | .ok (a, r) => (match num r with
    | .ok (c, r2) => .ok ((a, c), r2)
    | .error e => .error e)
  | .error e => .error e

theorem pairR_ok {l r : List Int} {p : Int × Int} (h : pairR l = .ok (p, r)) : ∃ m, num l = .ok (p.1, m) ∧ num m = .ok (p.2, r) := by
  unfold pairR at h
  split at h
  · rename_i a m hn
    split at h
    · rename_i c r2 hm; cases h; exact ⟨m, hn, hm⟩
    · cases h
  · cases h
theorem pairR_err {l : List Int} {e : Int} (h : pairR l = .error e) : num l = .error e ∨ ∃ a m, num l = .ok (a, m) ∧ num m = .error e := by
  unfold pairR at h
  split at h
  · rename_i a m hn
    split at h
    · cases h
    · rename_i hm; cases h; exact .inr ⟨a, m, hn, hm⟩
  · rename_i hn; cases h; exact .inl hn

/-- (*cursor).pair -/
theorem pair85 (b : Nat) (st : St) (l : List Int) (hat : At b st l) (hb : Byt l) (hlen : l.length ≤ 1099511627776) :
    (∀ p r, pairR l = .ok (p, r) → ∃ st', callL T 104 [.ptr b 0] st = some (.ret (.tup [.v (.int .i64 p.1), .v (.int .i64 p.2), .v (.int .i64 0)]), st') ∧ At b st' r ∧ Byt r ∧ r.length ≤ l.length ∧ Cur b st st') ∧
    (∀ e, pairR l = .error e → e ≠ 0 ∧ ∃ x y st', callL T 104 [.ptr b 0] st = some (.ret (.tup [.v (.int .i64 x), .v (.int .i64 y), .v (.int .i64 e)]), st') ∧ Cur b st st') := by
  obtain ⟨ok, er⟩ := number b st l hat hb hlen
  refine ⟨fun p r h => ?_, fun e h => ?_⟩
  · obtain ⟨m, hn, hm⟩ := pairR_ok h
    obtain ⟨v, st1, h1, h2, h3, h4, h5, rfl⟩ := ok _ _ hn
    obtain ⟨ok2, _⟩ := number b st1 m h2 h3 (by omega)
    obtain ⟨v, st2, k1, k2, k3, k4, k5, rfl⟩ := ok2 _ _ hm
    refine ⟨st2, ?_, k2, k3, by omega, h5.trans k5⟩
    rw [call_whole T104 (.inl rfl) rfl]
    simp [inner_eq, s104, h1, k1]
  · rcases pairR_err h with hn | ⟨a, m, hn, hm⟩
    · obtain ⟨h0, v, st', h1, h2, rfl⟩ := er _ hn
      refine ⟨h0, 0, 0, st', ?_, h2⟩
      rw [call_whole T104 (.inl rfl) rfl]
      simp [inner_eq, s104, h1, h0]
    · obtain ⟨v, st1, h1, h2, h3, h4, h5, rfl⟩ := ok _ _ hn
      obtain ⟨_, er2⟩ := number b st1 m h2 h3 (by omega)
      obtain ⟨h0, v, st2, k1, k2, rfl⟩ := er2 _ hm
      refine ⟨h0, a, 0, st2, ?_, h5.trans k2⟩
      rw [call_whole T104 (.inl rfl) rfl]
      simp [inner_eq, s104, h1, k1]

theorem Byt.take {l : List Int} (h : Byt l) (n : Nat) : Byt (l.take n) := fun b hb => h b (List.mem_of_mem_take hb)
theorem Byt.drop {l : List Int} (h : Byt l) (n : Nat) : Byt (l.drop n) := fun b hb => h b (List.mem_of_mem_drop hb)

/-- (*cursor).bytes -/
theorem bytes88 {b : Nat} {st : St} {l : List Int} (hat : At b st l) (n : Nat) :
    (n ≤ l.length → ∃ v st', callL T 105 [.ptr b 0, .v (.int .i64 n)] st = some (.ret (.tup [v, .v (.int .i64 0)]), st') ∧ IsB v (l.take n) ∧ At b st' (l.drop n) ∧ Cur b st st') ∧
    (l.length < n → callL T 105 [.ptr b 0, .v (.int .i64 n)] st = some (.ret (.tup [.v (.slice none 0 0), .v (.int .i64 10)]), st)) := by
  have hlt := hat.lt
  obtain ⟨x, hH, hx⟩ := id hat
  have hc := cur_load hH
  have hk := hx.isL.len
  refine ⟨fun hn => ?_, fun hn => ?_⟩
  · obtain ⟨u, hu, hul⟩ := slice_to (k := .i64) hx hn
    obtain ⟨v, hv, hvl⟩ := slice_from (k := .i64) hx hn
    have hst := cur_store hH hvl.one
    have h1 : ¬ (l.length : Int) < n := by omega
    refine ⟨u, { H := st.H.set b { cells := [v], fz := false }, F := st.F }, ?_, hul, ⟨v, by simp [hlt], hvl⟩, (Cur.refl b st).set⟩
    rw [call_whole T105 (.inl rfl) rfl]
    simp [inner_eq, s105, hc, hk, h1, hu, hv, hst]
  · have h1 : (l.length : Int) < n := by omega
    rw [call_whole T105 (.inl rfl) rfl]
    simp [inner_eq, s105, hc, hk, h1]

theorem store_at {st : St} {j k : Nat} {z l : List AV} (h : st.H[j]? = some { cells := z, fz := false }) (hz : z.length = k) (hl : l.length = k) : opStore st k (.ptr j 0) (.agg l) = some { H := st.H.set j { cells := l, fz := false }, F := st.F } := by
  subst hz
  simp [opStore, h, hl]

/-- An element, read. -/
def El {α β : Type} (c : Nat) (g : β → List AV) (pl : β → α) (ok : β → Prop) (a : α) (v : AV) : Prop := ∃ (x : β) (cs : List AV), pl x = a ∧ v = .agg cs ∧ cs.length = c ∧ (∀ st, expL st cs = some (g x, st)) ∧ ok x
def Bad (c : Nat) (v : AV) : Prop := ∃ cs, v = .agg cs ∧ cs.length = c

theorem expL_bys : ∀ (s : List Int) (st : St), expL st (bys s) = some (bys s, st)
  | [], _ => rfl
  | _ :: r, st => expL_cons rfl (expL_bys r st)

def secR (l : List Int) : Except Int (List Int × List Int) := if l.length < 8 then .error 10 else .ok (l.take 8, l.drop 8)

end VS
end Go.Proofs.Ytkhekmmldnjenaa
/- Lists, read by the cursor. -/
namespace Go.Proofs.Ytkhekmmldnjenaa
namespace VS

def lst {α : Type} (R : List Int → Except Int (α × List Int)) : Nat → List Int → Except Int (List α × List Int)
  | 0, l => .ok ([], l)
  | k + 1, l => match R l with
    | .ok (a, r) => (match lst R k r with
      | .ok (zs, r2) => .ok (a :: zs, r2)
      | .error e => .error e)
    | .error e => .error e

def lists {α : Type} (R : List Int → Except Int (α × List Int)) (l : List Int) : Except Int (List α × List Int) := match lenR l with
  | .ok (n, r) => lst R n.toNat r
  | .error e => .error e

theorem lists_ok {α : Type} {R : List Int → Except Int (α × List Int)} {l r : List Int} {zs : List α} (h : lists R l = .ok (zs, r)) : ∃ n m, lenR l = .ok (n, m) ∧ lst R n.toNat m = .ok (zs, r) := by
  unfold lists at h
  split at h
  · rename_i n m hn; exact ⟨n, m, hn, h⟩
  · cases h
theorem lists_err {α : Type} {R : List Int → Except Int (α × List Int)} {l : List Int} {e : Int} (h : lists R l = .error e) : lenR l = .error e ∨ ∃ n m, lenR l = .ok (n, m) ∧ lst R n.toNat m = .error e := by
  unfold lists at h
  split at h
  · rename_i n m hn; exact .inr ⟨n, m, hn, h⟩
  · rename_i hn; cases h; exact .inl hn

/-- A list, read. -/
def Li {α β : Type} (c : Nat) (g : β → List AV) (pl : β → α) (ok : β → Prop) (st : St) (zs : List α) (v : AV) : Prop := ∃ xs : List β, xs.map pl = zs ∧ App st c v (xs.flatMap g) xs.length ∧ ∀ x ∈ xs, ok x
def nilV (v : AV) : Prop := v = .v (.slice none 0 0)

theorem list75Loop {α β : Type} {g : β → List AV} {pl : β → α} {ok : β → Prop} {F : FuncId} {R : List Int → Except Int (α × List Int)} (hg : ∀ x, ok x → (g x).length = 2) (hF : Rd F R (fun _ a v => El 2 g pl ok a v) (Bad 2)) (b : Nat) (s : St) (n : Nat) (hn : n ≤ 65536) :
    ∀ (k i : Nat) (x : AV) (xs : List β) (st : St) (l : List Int), i + k = n → xs.length = i → (∀ y ∈ xs, ok y) → At b st l → Byt l → l.length ≤ 1099511627776 → Cur b s st → AppN s.F.length st 2 x (xs.flatMap g) xs.length →
    (∀ zs r, lst R k l = .ok (zs, r) → ∃ y ys fr' st', runL T (.loop [0, 1, 8, 19, 20] s93b0) { s := [(0, .ptr b 0), (1, .fn F []), (8, x), (19, .v (.int .i64 n)), (20, .v (.int .i64 i))], d := [] } st = some (.ex 0, fr', st') ∧ fr'.only [8] = { s := [(8, y)], d := [] } ∧
      At b st' r ∧ Byt r ∧ r.length ≤ l.length ∧ Cur b s st' ∧ ys.map pl = zs ∧ AppN s.F.length st' 2 y ((xs ++ ys).flatMap g) (xs ++ ys).length ∧ ∀ y ∈ ys, ok y) ∧
    (∀ e, lst R k l = .error e → e ≠ 0 ∧ ∃ st', runL T (.loop [0, 1, 8, 19, 20] s93b0) { s := [(0, .ptr b 0), (1, .fn F []), (8, x), (19, .v (.int .i64 n)), (20, .v (.int .i64 i))], d := [] } st = some (.rt, { s := [(4, .v (.slice none 0 0)), (5, .v (.int .i64 e))], d := [] }, st') ∧ Cur b s st')
  | 0, i, x, xs, st, l, hi, _, _, hat, hb, _, hcur, hx => by
    refine ⟨fun zs r h => ?_, fun e h => by simp [lst] at h⟩
    simp only [lst, Except.ok.injEq, Prod.mk.injEq] at h
    obtain ⟨rfl, rfl⟩ := h
    refine ⟨x, [], ?s, st, ?a, ?b, hat, hb, Nat.le_refl _, hcur, rfl, by simpa using hx, by simp⟩
    case a =>
      rw [runL_loop]
      have : ¬ (i : Int) < n := by omega
      simp [s93b0, this]
      rfl
    case b => simp
  | k + 1, i, x, xs, st, l, hi, hxi, hxo, hat, hb, hlen, hcur, hx => by
    obtain ⟨okF, erF⟩ := hF b st l hat hb hlen
    have h1 : (i : Int) < n := by omega
    have hw : IntKind.wrap .i64 ((i : Int) + 1) = ((i + 1 : Nat) : Int) := by rw [wrap_i64 (by omega) (by omega)]; omega
    cases hR : R l with
    | error e =>
      refine ⟨fun zs r h => by simp [lst, hR] at h, fun e' h => ?_⟩
      simp only [lst, hR, Except.error.injEq] at h
      subst h
      obtain ⟨he, v, st1, hcall, hc1, cs, rfl, hcs⟩ := erF _ hR
      have hst := opStore_new (H := st1.H) (F := st1.F) (z := [.v (.int .i64 0), .v (.int .i64 0)]) (l := cs) (k := 2) rfl hcs
      refine ⟨he, { H := st1.H ++ [{ cells := cs, fz := false }], F := st1.F }, ?_, (hcur.trans hc1).trans Cur.alloc⟩
      rw [runL_loop]
      simp only [s93b0]
      simp [h1, hcall, hst, he]
    | ok p =>
      obtain ⟨a, m⟩ := p
      obtain ⟨v, st1, hcall, hat1, hb1, hm1, hc1, x1, cs, hpl, rfl, hcs, hexp, hok⟩ := okF _ _ hR
      have hst := opStore_new (H := st1.H) (F := st1.F) (z := [.v (.int .i64 0), .v (.int .i64 0)]) (l := cs) (k := 2) rfl hcs
      have hld := opLoad_new (H := st1.H) (F := st1.F) (l := cs) (b := false) hcs
      have hex := hexp { H := st1.H ++ [{ cells := cs, fz := false }], F := st1.F }
      have hgl := hg x1 hok
      obtain ⟨y, st2, hap, hA, hH, hrw⟩ := appN_append (s := s) (st := { H := st1.H ++ [{ cells := cs, fz := false }], F := st1.F }) (bytes := 16) (hcur.rows.trans hc1.rows) ((hx.later hc1.rows).later (st' := { H := st1.H ++ [{ cells := cs, fz := false }], F := st1.F }) (Rows.Le.refl st1)) (y := .sl (g x1) 1 .full) (ds := g x1) (m := 1) (.sl (by simp) (by omega)) (by omega) (by omega) (by simp only [most47]; omega) (by omega)
      have hcur2 : Cur b s st2 := (((hcur.trans hc1).trans Cur.alloc).sameH hH hrw)
      have hat2 : At b st2 m := (hat1.alloc (m := [{ cells := cs, fz := false }]) (F := st1.F)).sameH hH
      have hA' : AppN s.F.length st2 2 y ((xs ++ [x1]).flatMap g) (xs ++ [x1]).length := by simpa using hA
      have ih := list75Loop hg hF b s n hn k (i + 1) y (xs ++ [x1]) st2 m (by omega) (by simp [hxi]) (fun z hz => by
        rcases List.mem_append.1 hz with h | h
        · exact hxo z h
        · simp at h; subst h; exact hok) hat2 hb1 (by omega) hcur2 hA'
      have step : runL T (.loop [0, 1, 8, 19, 20] s93b0) { s := [(0, .ptr b 0), (1, .fn F []), (8, x), (19, .v (.int .i64 n)), (20, .v (.int .i64 i))], d := [] } st =
          runL T (.loop [0, 1, 8, 19, 20] s93b0) { s := [(0, .ptr b 0), (1, .fn F []), (8, y), (19, .v (.int .i64 n)), (20, .v (.int .i64 (i + 1 : Nat)))], d := [] } st2 := by
        rw [runL_loop]
        generalize hL : SCode.loop [0, 1, 8, 19, 20] s93b0 = L
        simp only [s93b0]
        simp [h1, hcall, hst, hld, hcs, hex, hap, hw, -expL]
        subst hL
        refine loop_from ?_
        simp
      rw [step]
      refine ⟨fun zs r h => ?_, fun e h => ?_⟩
      · simp only [lst, hR] at h
        split at h
        · rename_i zs' r2 hr2
          cases h
          obtain ⟨y', ys, fr', st', k1, k2, k3, k4, k5, k6, k7, k8, k9⟩ := ih.1 _ _ hr2
          refine ⟨y', x1 :: ys, fr', st', k1, k2, k3, k4, by omega, k6, by simp [k7, hpl], by simpa using k8, fun z hz => ?_⟩
          rcases List.mem_cons.1 hz with rfl | hz
          · exact hok
          · exact k9 z hz
        · cases h
      · simp only [lst, hR] at h
        split at h
        · cases h
        · rename_i hr2
          cases h
          exact ih.2 _ hr2

theorem list75 {α β : Type} {g : β → List AV} {pl : β → α} {ok : β → Prop} {F : FuncId} {R : List Int → Except Int (α × List Int)} (hg : ∀ x, ok x → (g x).length = 2) (hF : Rd F R (fun _ a v => El 2 g pl ok a v) (Bad 2)) :
    ∀ (b : Nat) (st : St) (l : List Int), At b st l → Byt l → l.length ≤ 1099511627776 →
    (∀ zs r, lists R l = .ok (zs, r) → ∃ v st', callL T 93 [.ptr b 0, .fn F []] st = some (.ret (.tup [v, .v (.int .i64 0)]), st') ∧ At b st' r ∧ Byt r ∧ r.length ≤ l.length ∧ Cur b st st' ∧ Li 2 g pl ok st' zs v) ∧
    (∀ e, lists R l = .error e → e ≠ 0 ∧ ∃ v st', callL T 93 [.ptr b 0, .fn F []] st = some (.ret (.tup [v, .v (.int .i64 e)]), st') ∧ Cur b st st' ∧ nilV v) := by
  intro b st l hat hb hlen
  obtain ⟨ok1, er1⟩ := length84 b st l hat hb hlen
  have main : ∀ n m, lenR l = .ok (n, m) → ∃ st1 : St, callL T 103 [.ptr b 0] st = some (.ret (.tup [.v (.int .i64 n), .v (.int .i64 0)]), st1) ∧ m.length ≤ l.length ∧
      (∀ zs r, lst R n.toNat m = .ok (zs, r) → ∃ v st', (∃ fr', (∀ fr : Fr, fr.only [0, 1, 8, 19, 20] = { s := [(0, .ptr b 0), (1, .fn F []), (8, .v (.slice none 0 0)), (19, .v (.int .i64 n)), (20, .v (.int .i64 0))], d := [] } → runL T (.loop [0, 1, 8, 19, 20] s93b0) fr st1 = some (.ex 0, fr', st')) ∧ fr'.only [8] = { s := [(8, v)], d := [] }) ∧ At b st' r ∧ Byt r ∧ r.length ≤ m.length ∧ Cur b st st' ∧ Li 2 g pl ok st' zs v) ∧
      (∀ e, lst R n.toNat m = .error e → e ≠ 0 ∧ ∃ st', (∀ fr : Fr, fr.only [0, 1, 8, 19, 20] = { s := [(0, .ptr b 0), (1, .fn F []), (8, .v (.slice none 0 0)), (19, .v (.int .i64 n)), (20, .v (.int .i64 0))], d := [] } → runL T (.loop [0, 1, 8, 19, 20] s93b0) fr st1 = some (.rt, { s := [(4, .v (.slice none 0 0)), (5, .v (.int .i64 e))], d := [] }, st')) ∧ Cur b st st') := by
    intro n m hn
    obtain ⟨v, st1, h1, h2, h3, h4, h5, rfl⟩ := ok1 _ _ hn
    obtain ⟨hnum, hle⟩ := lenR_ok hn
    obtain ⟨h0, _⟩ := num_ok hb hnum
    have e1 : ((n.toNat : Nat) : Int) = n := by omega
    have L := list75Loop hg hF b st n.toNat (by omega) n.toNat 0 (.v (.slice none 0 0)) [] st1 m (Nat.zero_add _) rfl (by simp) h2 h3 (by omega) h5 .nil
    rw [e1] at L
    refine ⟨st1, h1, h4, fun zs r h => ?_, fun e h => ?_⟩
    · obtain ⟨y, ys, fr', st', k1, k2, k3, k4, k5, k6, k7, k8, k9⟩ := L.1 _ _ h
      refine ⟨y, st', ⟨fr', fun fr hfr => loop_use k1 fr (by rw [hfr]; simp), k2⟩, k3, k4, k5, k6, ys, k7, by simpa using k8.app, k9⟩
    · obtain ⟨he, st', k1, k2⟩ := L.2 _ h
      exact ⟨he, st', fun fr hfr => loop_use k1 fr (by rw [hfr]; simp), k2⟩
  refine ⟨fun zs r h => ?_, fun e h => ?_⟩
  · obtain ⟨n, m, hn, hl⟩ := lists_ok h
    obtain ⟨st1, h1, h2, h3, _⟩ := main n m hn
    obtain ⟨v, st', ⟨fr', k1, k2⟩, k3, k4, k5, k6, k7⟩ := h3 _ _ hl
    refine ⟨v, st', ?_, k3, k4, by omega, k6, k7⟩
    rw [call_whole T93 (.inl rfl) rfl]
    simp [inner_eq, s93, h1]
    rw [k1 _ (by simp)]
    simp [k2]
  · rcases lists_err h with hn | ⟨n, m, hn, hl⟩
    · obtain ⟨h0, v, st', h1, h2, n, rfl⟩ := er1 _ hn
      refine ⟨h0, _, st', ?_, h2, rfl⟩
      rw [call_whole T93 (.inl rfl) rfl]
      simp [inner_eq, s93, h1, h0]
    · obtain ⟨st1, h1, h2, _, h3⟩ := main n m hn
      obtain ⟨he, st', k1, k2⟩ := h3 _ hl
      refine ⟨he, _, st', ?_, k2, rfl⟩
      rw [call_whole T93 (.inl rfl) rfl]
      simp [inner_eq, s93, h1]
      rw [k1 _ (by simp)]
      simp

def gi (n : Int) : List AV := [.v (.int .i64 n)]

theorem list70Loop (b : Nat) (s : St) (n : Nat) (hn : n ≤ 65536) :
    ∀ (k i : Nat) (x : AV) (xs : List Int) (st : St) (l : List Int), i + k = n → xs.length = i → At b st l → Byt l → l.length ≤ 1099511627776 → Cur b s st → AppN s.F.length st 1 x (xs.flatMap gi) xs.length →
    (∀ zs r, lst num k l = .ok (zs, r) → ∃ y ys fr' st', runL T (.loop [0, 1, 8, 19, 20] s100b0) { s := [(0, .ptr b 0), (1, .fn 90 []), (8, x), (19, .v (.int .i64 n)), (20, .v (.int .i64 i))], d := [] } st = some (.ex 0, fr', st') ∧ fr'.only [8] = { s := [(8, y)], d := [] } ∧
      At b st' r ∧ Byt r ∧ r.length ≤ l.length ∧ Cur b s st' ∧ ys = zs ∧ AppN s.F.length st' 1 y ((xs ++ ys).flatMap gi) (xs ++ ys).length) ∧
    (∀ e, lst num k l = .error e → e ≠ 0 ∧ ∃ st', runL T (.loop [0, 1, 8, 19, 20] s100b0) { s := [(0, .ptr b 0), (1, .fn 90 []), (8, x), (19, .v (.int .i64 n)), (20, .v (.int .i64 i))], d := [] } st = some (.rt, { s := [(4, .v (.slice none 0 0)), (5, .v (.int .i64 e))], d := [] }, st') ∧ Cur b s st')
  | 0, i, x, xs, st, l, hi, _, hat, hb, _, hcur, hx => by
    refine ⟨fun zs r h => ?_, fun e h => by simp [lst] at h⟩
    simp only [lst, Except.ok.injEq, Prod.mk.injEq] at h
    obtain ⟨rfl, rfl⟩ := h
    refine ⟨x, [], ?s, st, ?a, ?b, hat, hb, Nat.le_refl _, hcur, rfl, by simpa using hx⟩
    case a =>
      rw [runL_loop]
      have : ¬ (i : Int) < n := by omega
      simp [s100b0, this]
      rfl
    case b => simp
  | k + 1, i, x, xs, st, l, hi, hxi, hat, hb, hlen, hcur, hx => by
    obtain ⟨okF, erF⟩ := number b st l hat hb hlen
    have h1 : (i : Int) < n := by omega
    have hw : IntKind.wrap .i64 ((i : Int) + 1) = ((i + 1 : Nat) : Int) := by rw [wrap_i64 (by omega) (by omega)]; omega
    cases hR : num l with
    | error e =>
      refine ⟨fun zs r h => by simp [lst, hR] at h, fun e' h => ?_⟩
      simp only [lst, hR, Except.error.injEq] at h
      subst h
      obtain ⟨he, v, st1, hcall, hc1, rfl⟩ := erF _ hR
      refine ⟨he, st1, ?_, hcur.trans hc1⟩
      rw [runL_loop]
      simp only [s100b0]
      simp [h1, hcall, he]
    | ok p =>
      obtain ⟨a, m⟩ := p
      obtain ⟨v, st1, hcall, hat1, hb1, hm1, hc1, rfl⟩ := okF _ _ hR
      obtain ⟨y, st2, hap, hA, hH, hrw⟩ := appN_append (s := s) (st := st1) (bytes := 8) (hcur.rows.trans hc1.rows) (hx.later hc1.rows) (y := .sl (gi a) 1 .full) (ds := gi a) (m := 1) (.sl (by simp) (by simp [gi])) (by omega) (by omega) (by simp only [most47]; omega) (by omega)
      simp only [gi] at hap
      have hcur2 : Cur b s st2 := ((hcur.trans hc1).sameH hH hrw)
      have hat2 : At b st2 m := hat1.sameH hH
      have hA' : AppN s.F.length st2 1 y ((xs ++ [a]).flatMap gi) (xs ++ [a]).length := by simpa using hA
      have ih := list70Loop b s n hn k (i + 1) y (xs ++ [a]) st2 m (by omega) (by simp [hxi]) hat2 hb1 (by omega) hcur2 hA'
      have step : runL T (.loop [0, 1, 8, 19, 20] s100b0) { s := [(0, .ptr b 0), (1, .fn 90 []), (8, x), (19, .v (.int .i64 n)), (20, .v (.int .i64 i))], d := [] } st =
          runL T (.loop [0, 1, 8, 19, 20] s100b0) { s := [(0, .ptr b 0), (1, .fn 90 []), (8, y), (19, .v (.int .i64 n)), (20, .v (.int .i64 (i + 1 : Nat)))], d := [] } st2 := by
        rw [runL_loop]
        generalize hL : SCode.loop [0, 1, 8, 19, 20] s100b0 = L
        simp only [s100b0]
        simp [h1, hcall, hap, hw]
        subst hL
        refine loop_from ?_
        simp
      rw [step]
      refine ⟨fun zs r h => ?_, fun e h => ?_⟩
      · simp only [lst, hR] at h
        split at h
        · rename_i zs' r2 hr2
          cases h
          obtain ⟨y', ys, fr', st', k1, k2, k3, k4, k5, k6, k7, k8⟩ := ih.1 _ _ hr2
          refine ⟨y', a :: ys, fr', st', k1, k2, k3, k4, by omega, k6, by simp [k7], by simpa using k8⟩
        · cases h
      · simp only [lst, hR] at h
        split at h
        · cases h
        · rename_i hr2
          cases h
          exact ih.2 _ hr2

theorem list70  :
    ∀ (b : Nat) (st : St) (l : List Int), At b st l → Byt l → l.length ≤ 1099511627776 →
    (∀ zs r, lists num l = .ok (zs, r) → ∃ v st', callL T 100 [.ptr b 0, .fn 90 []] st = some (.ret (.tup [v, .v (.int .i64 0)]), st') ∧ At b st' r ∧ Byt r ∧ r.length ≤ l.length ∧ Cur b st st' ∧ Li 1 gi id (fun _ => True) st' zs v) ∧
    (∀ e, lists num l = .error e → e ≠ 0 ∧ ∃ v st', callL T 100 [.ptr b 0, .fn 90 []] st = some (.ret (.tup [v, .v (.int .i64 e)]), st') ∧ Cur b st st' ∧ nilV v) := by
  intro b st l hat hb hlen
  obtain ⟨ok1, er1⟩ := length84 b st l hat hb hlen
  have main : ∀ n m, lenR l = .ok (n, m) → ∃ st1 : St, callL T 103 [.ptr b 0] st = some (.ret (.tup [.v (.int .i64 n), .v (.int .i64 0)]), st1) ∧ m.length ≤ l.length ∧
      (∀ zs r, lst num n.toNat m = .ok (zs, r) → ∃ v st', (∃ fr', (∀ fr : Fr, fr.only [0, 1, 8, 19, 20] = { s := [(0, .ptr b 0), (1, .fn 90 []), (8, .v (.slice none 0 0)), (19, .v (.int .i64 n)), (20, .v (.int .i64 0))], d := [] } → runL T (.loop [0, 1, 8, 19, 20] s100b0) fr st1 = some (.ex 0, fr', st')) ∧ fr'.only [8] = { s := [(8, v)], d := [] }) ∧ At b st' r ∧ Byt r ∧ r.length ≤ m.length ∧ Cur b st st' ∧ Li 1 gi id (fun _ => True) st' zs v) ∧
      (∀ e, lst num n.toNat m = .error e → e ≠ 0 ∧ ∃ st', (∀ fr : Fr, fr.only [0, 1, 8, 19, 20] = { s := [(0, .ptr b 0), (1, .fn 90 []), (8, .v (.slice none 0 0)), (19, .v (.int .i64 n)), (20, .v (.int .i64 0))], d := [] } → runL T (.loop [0, 1, 8, 19, 20] s100b0) fr st1 = some (.rt, { s := [(4, .v (.slice none 0 0)), (5, .v (.int .i64 e))], d := [] }, st')) ∧ Cur b st st') := by
    intro n m hn
    obtain ⟨v, st1, h1, h2, h3, h4, h5, rfl⟩ := ok1 _ _ hn
    obtain ⟨hnum, hle⟩ := lenR_ok hn
    obtain ⟨h0, _⟩ := num_ok hb hnum
    have e1 : ((n.toNat : Nat) : Int) = n := by omega
    have L := list70Loop  b st n.toNat (by omega) n.toNat 0 (.v (.slice none 0 0)) [] st1 m (Nat.zero_add _) rfl h2 h3 (by omega) h5 .nil
    rw [e1] at L
    refine ⟨st1, h1, h4, fun zs r h => ?_, fun e h => ?_⟩
    · obtain ⟨y, ys, fr', st', k1, k2, k3, k4, k5, k6, k7, k8⟩ := L.1 _ _ h
      refine ⟨y, st', ⟨fr', fun fr hfr => loop_use k1 fr (by rw [hfr]; simp), k2⟩, k3, k4, k5, k6, ys, by simp [k7], by simpa using k8.app, by simp⟩
    · obtain ⟨he, st', k1, k2⟩ := L.2 _ h
      exact ⟨he, st', fun fr hfr => loop_use k1 fr (by rw [hfr]; simp), k2⟩
  refine ⟨fun zs r h => ?_, fun e h => ?_⟩
  · obtain ⟨n, m, hn, hl⟩ := lists_ok h
    obtain ⟨st1, h1, h2, h3, _⟩ := main n m hn
    obtain ⟨v, st', ⟨fr', k1, k2⟩, k3, k4, k5, k6, k7⟩ := h3 _ _ hl
    refine ⟨v, st', ?_, k3, k4, by omega, k6, k7⟩
    rw [call_whole T100 (.inl rfl) rfl]
    simp [inner_eq, s100, h1]
    rw [k1 _ (by simp)]
    simp [k2]
  · rcases lists_err h with hn | ⟨n, m, hn, hl⟩
    · obtain ⟨h0, v, st', h1, h2, n, rfl⟩ := er1 _ hn
      refine ⟨h0, _, st', ?_, h2, rfl⟩
      rw [call_whole T100 (.inl rfl) rfl]
      simp [inner_eq, s100, h1, h0]
    · obtain ⟨st1, h1, h2, _, h3⟩ := main n m hn
      obtain ⟨he, st', k1, k2⟩ := h3 _ hl
      refine ⟨he, _, st', ?_, k2, rfl⟩
      rw [call_whole T100 (.inl rfl) rfl]
      simp [inner_eq, s100, h1]
      rw [k1 _ (by simp)]
      simp

end VS
end Go.Proofs.Ytkhekmmldnjenaa
/- WireLists, WireAppends: the laws. -/
namespace Go.Proofs.Ytkhekmmldnjenaa
namespace VS

theorem ext_byt (l : List (Int × Int)) : Byt (enc l.length ++ l.flatMap ex) := (enc_byt _).append (flatMap_byt fun p _ => ex_byt p)
theorem wr_byt {l : List Wr} (h : ∀ w ∈ l, w.Ok) : Byt (enc l.length ++ l.flatMap ew) := (enc_byt _).append (flatMap_byt fun w hw => ew_byt (h w hw))

theorem mt_H : St.mt.H = [] := by simp [St.mt]
theorem mt_F : St.mt.F = [] := by simp [St.mt]
theorem expA_cons {st : St} {a a' : AV} {r l : List AV} (h : exp1 st a = some (a', st)) (hr : expA st r = some (l, st)) : expA st (a :: r) = some (a' :: l, st) := by
  simp only [expA, h, hr]
theorem exp1_agg {st : St} {cs l : List AV} (h : expL st cs = some (l, st)) : exp1 st (.agg cs) = some (.agg l, st) := by
  simp only [exp1, h]

theorem flat_le {α : Type} {e : α → List Int} {B : Nat} : ∀ {l : List α}, (∀ x ∈ l, (e x).length ≤ B) → (l.flatMap e).length ≤ B * l.length
  | [], _ => by simp
  | x :: r, h => by
    have h1 := h x (by simp)
    have h2 := flat_le (l := r) fun y hy => h y (by simp [hy])
    rw [List.flatMap_cons, List.length_append, List.length_cons, Nat.mul_add]; omega

end VS
end Go.Proofs.Ytkhekmmldnjenaa
/- Extents, writes, texts; read; the public readers. -/
namespace Go.Proofs.Ytkhekmmldnjenaa
namespace VS

def plw (w : Wr) : (Int × Int) × List (List Int) := ((w.vol, w.start), w.secs)
def wrR (l : List Int) : Except Int (((Int × Int) × List (List Int)) × List Int) := match pairR l with
  | .ok (p, r) => (match lists secR r with
    | .ok (d, r2) => .ok ((p, d), r2)
    | .error e => .error e)
  | .error e => .error e
theorem wrR_ok {l r : List Int} {q : (Int × Int) × List (List Int)} (h : wrR l = .ok (q, r)) : ∃ m, pairR l = .ok (q.1, m) ∧ lists secR m = .ok (q.2, r) := by
  unfold wrR at h
  split at h
  · rename_i p m hn
    split at h
    · rename_i d r2 hm; cases h; exact ⟨m, hn, hm⟩
    · cases h
  · cases h
theorem wrR_err {l : List Int} {e : Int} (h : wrR l = .error e) : pairR l = .error e ∨ ∃ p m, pairR l = .ok (p, m) ∧ lists secR m = .error e := by
  unfold wrR at h
  split at h
  · rename_i p m hn
    split at h
    · cases h
    · rename_i hm; cases h; exact .inr ⟨p, m, hn, hm⟩
  · rename_i hn; cases h; exact .inl hn

def textR (l : List Int) : Except Int (List Int × List Int) := match lenR l with
  | .ok (n, r) => if (r.length : Int) < n then .error 10 else .ok (r.take n.toNat, r.drop n.toNat)
  | .error e => .error e

/-- (*cursor).extent -/
theorem extent76 : Rd 94 pairR (fun _ a v => El 2 gx id (fun _ => True) a v) (Bad 2) := by
  intro b st l hat hb hlen
  have hlt := hat.lt
  have hat1 := hat.alloc (m := [{ cells := [.v (.int .i64 0), .v (.int .i64 0)], fz := false }]) (F := st.F)
  obtain ⟨ok, er⟩ := pair85 b _ l hat1 hb hlen
  refine ⟨fun p r h => ?_, fun e h => ?_⟩
  · obtain ⟨st', h1, h2, h3, h4, h5⟩ := ok _ _ h
    have hblk : st'.H[st.H.length]? = some { cells := [.v (.int .i64 0), .v (.int .i64 0)], fz := false } := (h5.other _ (by omega) (by simp)).trans (by simp)
    have hlt2 := (List.getElem?_eq_some_iff.1 hblk).1
    have hst := store_at (k := 2) (l := [.v (.int .i64 p.1), .v (.int .i64 p.2)]) hblk rfl rfl
    refine ⟨.agg (gx p), { H := st'.H.set st.H.length { cells := [.v (.int .i64 p.1), .v (.int .i64 p.2)], fz := false }, F := st'.F }, ?_, h2.setNe (by omega), h3, h4, (Cur.alloc.trans h5).setNew (Nat.le_refl _), ⟨p, gx p, rfl, rfl, rfl, fun st => rfl, trivial⟩⟩
    rw [call_whole T94 (.inl rfl) rfl]
    simp [inner_eq, s94, h1, hst, hlt2, gx]
  · obtain ⟨h0, x, y, st', h1, h5⟩ := er _ h
    have hblk : st'.H[st.H.length]? = some { cells := [.v (.int .i64 0), .v (.int .i64 0)], fz := false } := (h5.other _ (by omega) (by simp)).trans (by simp)
    have hlt2 := (List.getElem?_eq_some_iff.1 hblk).1
    have hst := store_at (k := 2) (l := [.v (.int .i64 x), .v (.int .i64 y)]) hblk rfl rfl
    refine ⟨h0, .agg [.v (.int .i64 x), .v (.int .i64 y)], { H := st'.H.set st.H.length { cells := [.v (.int .i64 x), .v (.int .i64 y)], fz := false }, F := st'.F }, ?_, (Cur.alloc.trans h5).setNew (Nat.le_refl _), _, rfl, rfl⟩
    rw [call_whole T94 (.inl rfl) rfl]
    simp [inner_eq, s94, h1, hst, hlt2]

theorem IsL.exps {sz : Nat} {x : AV} {cs : List AV} {n : Nat} (h : IsL sz x cs n) : ∃ y, (∀ st, exp1 st x = some (y, st)) ∧ IsL sz y cs n ∧ (∀ st, exp0 st x = some (y, st)) := by
  cases h with
  | nil => exact ⟨_, fun _ => rfl, .nil, fun _ => rfl⟩
  | sl ht hl => exact ⟨.sl cs n .ro, fun st => by simp [exp1, ht], .sl (by simp) hl, fun st => by simp [ht]⟩
theorem IsL.one {sz : Nat} {x : AV} {cs : List AV} {n : Nat} (h : IsL sz x cs n) : x.isTup = false ∧ x.cells = [x] := by
  cases h <;> simp
theorem IsB.exps {x : AV} {l : List Int} (h : IsB x l) : ∃ y, (∀ st, exp1 st x = some (y, st)) ∧ IsB y l ∧ (∀ st, exp0 st x = some (y, st)) := by
  obtain ⟨y, h1, h2, h3⟩ := h.isL.exps
  exact ⟨y, h1, isB_of h2, h3⟩

/-- (*cursor).text -/
theorem text72 : Rd 96 textR (fun st a v => ∃ n, App st 1 v (bys a) n ∧ n = a.length ∧ Byt a) nilV := by
  intro b st l hat hb hlen
  obtain ⟨ok, er⟩ := length84 b st l hat hb hlen
  refine ⟨fun a r h => ?_, fun e h => ?_⟩
  · unfold textR at h
    split at h
    · rename_i n m hn
      split at h
      · cases h
      · rename_i hge
        cases h
        obtain ⟨v, st1, h1, h2, h3, h4, h5, rfl⟩ := ok _ _ hn
        obtain ⟨hnum, hle⟩ := lenR_ok hn
        obtain ⟨h0, _⟩ := num_ok hb hnum
        obtain ⟨v, st2, k1, k2, k3, k4⟩ := (bytes88 h2 n.toNat).1 (by omega)
        rw [show ((n.toNat : Nat) : Int) = n by omega] at k1
        obtain ⟨y, st3, c1, c2, c3⟩ := clone k2.isL (by rw [List.length_take]; omega) st2
        have hrw := call_F T31 rfl c1
        refine ⟨y, st3, ?_, k3.sameH c3, h3.drop _, by rw [List.length_drop]; omega, (h5.trans k4).sameH c3 ((h5.trans k4).rows.trans hrw), _, c2, rfl, h3.take _⟩
        rw [call_whole T96 (.inl rfl) rfl]
        simp [inner_eq, s96, h1, k1, c1]
    · cases h
  · unfold textR at h
    split at h
    · rename_i n m hn
      split at h
      · rename_i hlt
        cases h
        obtain ⟨v, st1, h1, h2, h3, h4, h5, rfl⟩ := ok _ _ hn
        obtain ⟨hnum, hle⟩ := lenR_ok hn
        obtain ⟨h0, _⟩ := num_ok hb hnum
        have k1 := (bytes88 h2 n.toNat).2 (by omega)
        rw [show ((n.toNat : Nat) : Int) = n by omega] at k1
        obtain ⟨y, st3, c1, c2, c3⟩ := clone (IsL.nil (sz := 1) (q := none)) (by omega) st1
        have hy : callL T 31 [.v (.slice none 0 0)] st1 = some (.ret (.v (.slice none 0 0)), st1) := by
          rw [call_keep T31 rfl rfl (show expA st1 [.v (.slice none 0 0)] = some ([.v (.slice none 0 0)], st1) from rfl)]
          simp [inner_eq, s31, kept, expR]
        refine ⟨by omega, _, st1, ?_, h5, rfl⟩
        rw [call_whole T96 (.inl rfl) rfl]
        simp [inner_eq, s96, h1, k1, hy]
      · cases h
    · rename_i hn
      cases h
      obtain ⟨h0, v, st', h1, h2, n, rfl⟩ := er _ hn
      refine ⟨h0, _, st', ?_, h2, rfl⟩
      rw [call_whole T96 (.inl rfl) rfl]
      simp [inner_eq, s96, h1, h0]

theorem lists69 : Rd 99 (lists num) (Li 1 gi id (fun _ => True)) nilV := by
  intro b st l hat hb hlen
  obtain ⟨ok, er⟩ := list70 b st l hat hb hlen
  refine ⟨fun zs r h => ?_, fun e h => ?_⟩
  · obtain ⟨v, st', h1, h2⟩ := ok _ _ h
    refine ⟨v, st', ?_, h2⟩
    rw [call_whole T99 (.inl rfl) rfl]
    simp [inner_eq, s99, h1]
  · obtain ⟨h0, v, st', h1, h2, rfl⟩ := er _ h
    refine ⟨h0, _, st', ?_, h2, rfl⟩
    rw [call_whole T99 (.inl rfl) rfl]
    simp [inner_eq, s99, h1]

theorem lists74 : Rd 92 (lists pairR) (Li 2 gx id (fun _ => True)) nilV := by
  intro b st l hat hb hlen
  obtain ⟨ok, er⟩ := list75 (F := 94) (fun _ _ => rfl) extent76 b st l hat hb hlen
  refine ⟨fun zs r h => ?_, fun e h => ?_⟩
  · obtain ⟨v, st', h1, h2⟩ := ok _ _ h
    refine ⟨v, st', ?_, h2⟩
    rw [call_whole T92 (.inl rfl) rfl]
    simp [inner_eq, s92, h1]
  · obtain ⟨h0, v, st', h1, h2, rfl⟩ := er _ h
    refine ⟨h0, _, st', ?_, h2, rfl⟩
    rw [call_whole T92 (.inl rfl) rfl]
    simp [inner_eq, s92, h1]

theorem read60 {α : Type} {F : FuncId} {R : List Int → Except Int (α × List Int)} {rep : St → α → AV → Prop} {bad : AV → Prop} {fin : α → AV → Prop} (hF : Rd F R rep bad) (hfin : ∀ st a v, rep st a v → ∃ y, (∀ s, exp1 s v = some (y, s)) ∧ fin a y)
    {x : AV} {l : List Int} (hx : IsB x l) (hb : Byt l) (hlen : l.length ≤ 274877906944) (st : St) :
    (∀ a r, R l = .ok (a, r) → ∃ v y, callL T 89 [x, .fn F []] st = some (.ret (.tup [v, y, .v (.int .i64 0)]), st) ∧ IsB y r ∧ Byt r ∧ r.length ≤ l.length ∧ fin a v) ∧
    (∀ e, R l = .error e → e ≠ 0 ∧ callL T 89 [x, .fn F []] st = some (.ret (.tup [.v (.int .i64 0), .v (.slice none 0 0), .v (.int .i64 e)]), st)) := by
  obtain ⟨x', hx1, hx2, hx3⟩ := hx.exps
  have hone := hx2.one
  have hat : At 0 { H := [{ cells := [x'], fz := false }], F := [] } l := ⟨x', rfl, hx2⟩
  obtain ⟨ok, er⟩ := hF 0 _ l hat hb (by omega)
  rw [call_plain T89 rfl rfl (expA_cons (hx1 st) (expA_cons (exp1_fn _ _) rfl))]
  refine ⟨fun a r h => ?_, fun e h => ?_⟩
  · obtain ⟨v, st1, h1, ⟨u, hu, hul⟩, h3, h4, h5, hrep⟩ := ok _ _ h
    obtain ⟨w, hw, hwf⟩ := hfin _ _ _ hrep
    obtain ⟨y, st2, c1, c2, _⟩ := clone hul.isL (by omega) st1
    obtain ⟨y', hy1, hy2, _⟩ := c2.isB.exps
    refine ⟨w, y', ?_, hy2, h3, h4, hwf⟩
    simp [inner_eq, s89, mt_H, mt_F, hone.1, hone.2, h1, cur_load hu, c1, dropped, expR, expA, hw, hy1, -AV.cells, -AV.isTup, AV.cells.eq_1, AV.isTup.eq_2]
  · obtain ⟨h0, v, st1, h1, h2, _⟩ := er _ h
    refine ⟨h0, ?_⟩
    simp [inner_eq, s89, mt_H, mt_F, hone.1, hone.2, h1, h0, dropped, expR, expA, -AV.cells, -AV.isTup, AV.cells.eq_1, AV.isTup.eq_2]

theorem read68 {α : Type} {F : FuncId} {R : List Int → Except Int (α × List Int)} {rep : St → α → AV → Prop} {bad : AV → Prop} {fin : α → AV → Prop} (hF : Rd F R rep bad) (hfin : ∀ st a v, rep st a v → ∃ y, (∀ s, exp1 s v = some (y, s)) ∧ fin a y)
    {x : AV} {l : List Int} (hx : IsB x l) (hb : Byt l) (hlen : l.length ≤ 274877906944) (st : St) :
    (∀ a r, R l = .ok (a, r) → ∃ v y, callL T 98 [x, .fn F []] st = some (.ret (.tup [v, y, .v (.int .i64 0)]), st) ∧ IsB y r ∧ Byt r ∧ r.length ≤ l.length ∧ fin a v) ∧
    (∀ e, R l = .error e → e ≠ 0 ∧ callL T 98 [x, .fn F []] st = some (.ret (.tup [.v (.slice none 0 0), .v (.slice none 0 0), .v (.int .i64 e)]), st)) := by
  obtain ⟨x', hx1, hx2, hx3⟩ := hx.exps
  have hone := hx2.one
  have hat : At 0 { H := [{ cells := [x'], fz := false }], F := [] } l := ⟨x', rfl, hx2⟩
  obtain ⟨ok, er⟩ := hF 0 _ l hat hb (by omega)
  rw [call_plain T98 rfl rfl (expA_cons (hx1 st) (expA_cons (exp1_fn _ _) rfl))]
  refine ⟨fun a r h => ?_, fun e h => ?_⟩
  · obtain ⟨v, st1, h1, ⟨u, hu, hul⟩, h3, h4, h5, hrep⟩ := ok _ _ h
    obtain ⟨w, hw, hwf⟩ := hfin _ _ _ hrep
    obtain ⟨y, st2, c1, c2, _⟩ := clone hul.isL (by omega) st1
    obtain ⟨y', hy1, hy2, _⟩ := c2.isB.exps
    refine ⟨w, y', ?_, hy2, h3, h4, hwf⟩
    simp [inner_eq, s98, mt_H, mt_F, hone.1, hone.2, h1, cur_load hu, c1, dropped, expR, expA, hw, hy1, -AV.cells, -AV.isTup, AV.cells.eq_1, AV.isTup.eq_2]
  · obtain ⟨h0, v, st1, h1, h2, _⟩ := er _ h
    refine ⟨h0, ?_⟩
    simp [inner_eq, s98, mt_H, mt_F, hone.1, hone.2, h1, h0, dropped, expR, expA, -AV.cells, -AV.isTup, AV.cells.eq_1, AV.isTup.eq_2]

theorem read71 {α : Type} {F : FuncId} {R : List Int → Except Int (α × List Int)} {rep : St → α → AV → Prop} {bad : AV → Prop} {fin : α → AV → Prop} (hF : Rd F R rep bad) (hfin : ∀ st a v, rep st a v → ∃ y, (∀ s, exp1 s v = some (y, s)) ∧ fin a y)
    {x : AV} {l : List Int} (hx : IsB x l) (hb : Byt l) (hlen : l.length ≤ 274877906944) (st : St) :
    (∀ a r, R l = .ok (a, r) → ∃ v y, callL T 95 [x, .fn F []] st = some (.ret (.tup [v, y, .v (.int .i64 0)]), st) ∧ IsB y r ∧ Byt r ∧ r.length ≤ l.length ∧ fin a v) ∧
    (∀ e, R l = .error e → e ≠ 0 ∧ callL T 95 [x, .fn F []] st = some (.ret (.tup [.v (.slice none 0 0), .v (.slice none 0 0), .v (.int .i64 e)]), st)) := by
  obtain ⟨x', hx1, hx2, hx3⟩ := hx.exps
  have hone := hx2.one
  have hat : At 0 { H := [{ cells := [x'], fz := false }], F := [] } l := ⟨x', rfl, hx2⟩
  obtain ⟨ok, er⟩ := hF 0 _ l hat hb (by omega)
  rw [call_plain T95 rfl rfl (expA_cons (hx1 st) (expA_cons (exp1_fn _ _) rfl))]
  refine ⟨fun a r h => ?_, fun e h => ?_⟩
  · obtain ⟨v, st1, h1, ⟨u, hu, hul⟩, h3, h4, h5, hrep⟩ := ok _ _ h
    obtain ⟨w, hw, hwf⟩ := hfin _ _ _ hrep
    obtain ⟨y, st2, c1, c2, _⟩ := clone hul.isL (by omega) st1
    obtain ⟨y', hy1, hy2, _⟩ := c2.isB.exps
    refine ⟨w, y', ?_, hy2, h3, h4, hwf⟩
    simp [inner_eq, s95, mt_H, mt_F, hone.1, hone.2, h1, cur_load hu, c1, dropped, expR, expA, hw, hy1, -AV.cells, -AV.isTup, AV.cells.eq_1, AV.isTup.eq_2]
  · obtain ⟨h0, v, st1, h1, h2, _⟩ := er _ h
    refine ⟨h0, ?_⟩
    simp [inner_eq, s95, mt_H, mt_F, hone.1, hone.2, h1, h0, dropped, expR, expA, -AV.cells, -AV.isTup, AV.cells.eq_1, AV.isTup.eq_2]

theorem read73 {α : Type} {F : FuncId} {R : List Int → Except Int (α × List Int)} {rep : St → α → AV → Prop} {bad : AV → Prop} {fin : α → AV → Prop} (hF : Rd F R rep bad) (hfin : ∀ st a v, rep st a v → ∃ y, (∀ s, exp1 s v = some (y, s)) ∧ fin a y)
    {x : AV} {l : List Int} (hx : IsB x l) (hb : Byt l) (hlen : l.length ≤ 274877906944) (st : St) :
    (∀ a r, R l = .ok (a, r) → ∃ v y, callL T 91 [x, .fn F []] st = some (.ret (.tup [v, y, .v (.int .i64 0)]), st) ∧ IsB y r ∧ Byt r ∧ r.length ≤ l.length ∧ fin a v) ∧
    (∀ e, R l = .error e → e ≠ 0 ∧ callL T 91 [x, .fn F []] st = some (.ret (.tup [.v (.slice none 0 0), .v (.slice none 0 0), .v (.int .i64 e)]), st)) := by
  obtain ⟨x', hx1, hx2, hx3⟩ := hx.exps
  have hone := hx2.one
  have hat : At 0 { H := [{ cells := [x'], fz := false }], F := [] } l := ⟨x', rfl, hx2⟩
  obtain ⟨ok, er⟩ := hF 0 _ l hat hb (by omega)
  rw [call_plain T91 rfl rfl (expA_cons (hx1 st) (expA_cons (exp1_fn _ _) rfl))]
  refine ⟨fun a r h => ?_, fun e h => ?_⟩
  · obtain ⟨v, st1, h1, ⟨u, hu, hul⟩, h3, h4, h5, hrep⟩ := ok _ _ h
    obtain ⟨w, hw, hwf⟩ := hfin _ _ _ hrep
    obtain ⟨y, st2, c1, c2, _⟩ := clone hul.isL (by omega) st1
    obtain ⟨y', hy1, hy2, _⟩ := c2.isB.exps
    refine ⟨w, y', ?_, hy2, h3, h4, hwf⟩
    simp [inner_eq, s91, mt_H, mt_F, hone.1, hone.2, h1, cur_load hu, c1, dropped, expR, expA, hw, hy1, -AV.cells, -AV.isTup, AV.cells.eq_1, AV.isTup.eq_2]
  · obtain ⟨h0, v, st1, h1, h2, _⟩ := er _ h
    refine ⟨h0, ?_⟩
    simp [inner_eq, s91, mt_H, mt_F, hone.1, hone.2, h1, h0, dropped, expR, expA, -AV.cells, -AV.isTup, AV.cells.eq_1, AV.isTup.eq_2]

end VS
end Go.Proofs.Ytkhekmmldnjenaa
/- The plain laws of the readers: what is put is read; what is read was put; a beginning is torn. -/
namespace Go.Proofs.Ytkhekmmldnjenaa
namespace VS

/-- A beginning of what is read is torn, or is read alike. -/
def Pre {α : Type} (R : List Int → Except Int (α × List Int)) : Prop := ∀ l1 l2 a r, R (l1 ++ l2) = .ok (a, r) → (∃ r1, R l1 = .ok (a, r1) ∧ r = r1 ++ l2) ∨ R l1 = .error 10

theorem numS_pre : ∀ (k i : Nat) (n : Int) (l1 l2 : List Int) (a : Int) (r : List Int), numS k i n (l1 ++ l2) = .ok (a, r) → (∃ r1, numS k i n l1 = .ok (a, r1) ∧ r = r1 ++ l2) ∨ numS k i n l1 = .error 10
  | 0, _, _, _, _, _, _, h => by simp [numS] at h
  | k + 1, i, n, [], l2, a, r, _ => .inr rfl
  | k + 1, i, n, b :: t, l2, a, r, h => by
    simp only [List.cons_append, numS] at h ⊢
    split at h
    · rename_i hb
      rw [if_pos hb]
      exact numS_pre k (i + 1) _ t l2 a r h
    · rename_i hb
      rw [if_neg hb]
      split at h
      · cases h
      · rename_i hc
        rw [if_neg hc]
        cases h
        exact .inl ⟨t, rfl, rfl⟩

theorem num_pre : Pre num := fun l1 l2 a r h => numS_pre 8 0 0 l1 l2 a r h

theorem lenR_pre : Pre lenR := by
  intro l1 l2 a r h
  obtain ⟨hn, hle⟩ := lenR_ok h
  rcases num_pre _ _ _ _ hn with ⟨r1, h1, rfl⟩ | h1
  · refine .inl ⟨r1, ?_, rfl⟩
    unfold lenR
    rw [h1]
    simp only
    rw [if_neg (by omega)]
  · exact .inr (by unfold lenR; rw [h1])

theorem pairR_pre : Pre pairR := by
  intro l1 l2 a r h
  obtain ⟨m, hn, hm⟩ := pairR_ok h
  unfold pairR
  rcases num_pre _ _ _ _ hn with ⟨r1, h1, rfl⟩ | h1
  · rw [h1]
    rcases num_pre _ _ _ _ hm with ⟨r2, h2, rfl⟩ | h2
    · exact .inl ⟨r2, by simp only [h2], rfl⟩
    · exact .inr (by simp only [h2])
  · exact .inr (by rw [h1])

theorem secR_pre : Pre secR := by
  intro l1 l2 a r h
  unfold secR at h ⊢
  split at h
  · cases h
  · cases h
    by_cases h8 : l1.length < 8
    · exact .inr (by rw [if_pos h8])
    · refine .inl ⟨l1.drop 8, ?_, ?_⟩
      · rw [if_neg h8, List.take_append_of_le_length (by omega)]
      · rw [List.drop_append_of_le_length (by omega)]

theorem lst_pre {α : Type} {R : List Int → Except Int (α × List Int)} (hR : Pre R) : ∀ (k : Nat), Pre (lst R k)
  | 0 => fun l1 l2 a r h => by
    simp only [lst, Except.ok.injEq, Prod.mk.injEq] at h ⊢
    obtain ⟨rfl, rfl⟩ := h
    exact .inl ⟨l1, ⟨rfl, rfl⟩, rfl⟩
  | k + 1 => fun l1 l2 a r h => by
    simp only [lst] at h ⊢
    split at h
    · rename_i x m hx
      split at h
      · rename_i zs r2 hz
        cases h
        rcases hR _ _ _ _ hx with ⟨m1, h1, rfl⟩ | h1
        · rw [h1]
          rcases lst_pre hR k _ _ _ _ hz with ⟨r1, h2, rfl⟩ | h2
          · exact .inl ⟨r1, by simp only [h2], rfl⟩
          · exact .inr (by simp only [h2])
        · exact .inr (by rw [h1])
      · cases h
    · cases h

theorem lists_pre {α : Type} {R : List Int → Except Int (α × List Int)} (hR : Pre R) : Pre (lists R) := by
  intro l1 l2 a r h
  obtain ⟨n, m, hn, hl⟩ := lists_ok h
  unfold lists
  rcases lenR_pre _ _ _ _ hn with ⟨m1, h1, rfl⟩ | h1
  · rw [h1]
    exact lst_pre hR _ _ _ _ _ hl
  · exact .inr (by rw [h1])

theorem wrR_pre : Pre wrR := by
  intro l1 l2 a r h
  obtain ⟨m, hn, hm⟩ := wrR_ok h
  unfold wrR
  rcases pairR_pre _ _ _ _ hn with ⟨r1, h1, rfl⟩ | h1
  · rw [h1]
    rcases lists_pre secR_pre _ _ _ _ hm with ⟨r2, h2, rfl⟩ | h2
    · exact .inl ⟨r2, by simp only [h2], rfl⟩
    · exact .inr (by simp only [h2])
  · exact .inr (by rw [h1])

/-- A proper beginning of all that is read is torn. -/
theorem torn {α : Type} {R : List Int → Except Int (α × List Int)} (hR : Pre R) {l : List Int} {a : α} (h : R l = .ok (a, [])) {k : Nat} (hk : k < l.length) : R (l.take k) = .error 10 := by
  rw [← List.take_append_drop k l] at h
  rcases hR _ _ _ _ h with ⟨r1, _, h2⟩ | h1
  · have := congrArg List.length h2
    simp at this
    omega
  · exact h1

theorem numS_back : ∀ (k i : Nat) (K : Nat) (acc n : Int) (r : List Int), k ≤ K → 0 ≤ n → n < 128 ^ (k + 1) → (0 < i → 0 < n) → acc + n * 128 ^ i ≤ 9007199254740991 → numS (k + 1) i acc (encF K n ++ r) = .ok (acc + n * 128 ^ i, r)
  | 0, i, K, acc, n, r, _, h0, h1, hi, hm => by
    have hn : n < 128 := by simpa using h1
    have he : encF K n = [n] := by cases K <;> simp [encF, hn]
    rw [he]
    have e1 : n % 128 = n := by omega
    simp only [List.cons_append, List.nil_append, numS, e1]
    rw [if_neg (by omega), if_neg (by
      rintro (⟨h, h'⟩ | h)
      · have := hi h'; omega
      · omega)]
  | k + 1, i, 0, acc, n, r, hK, _, _, _, _ => by omega
  | k + 1, i, K + 1, acc, n, r, hK, h0, h1, hi, hm => by
    by_cases hn : n < 128
    · have he : encF (K + 1) n = [n] := by simp [encF, hn]
      rw [he]
      have e1 : n % 128 = n := by omega
      simp only [List.cons_append, List.nil_append, numS, e1]
      rw [if_neg (by omega), if_neg (by
        rintro (⟨h, h'⟩ | h)
        · have := hi h'; omega
        · omega)]
    · have he : encF (K + 1) n = (n % 128 + 128) :: encF K (n / 128) := by simp [encF, hn]
      have hp : (128 : Int) ^ (k + 1 + 1) = 128 ^ (k + 1) * 128 := by rw [Int.pow_succ]
      have e2 : (n % 128 + 128) % 128 = n % 128 := by omega
      have hpow : (128 : Int) ^ (i + 1) = 128 ^ i * 128 := by rw [Int.pow_succ]
      have e3 : n % 128 * 128 ^ i + n / 128 * (128 ^ i * 128) = n * 128 ^ i := by
        have hd : n = n % 128 + 128 * (n / 128) := by omega
        generalize n % 128 = u at hd ⊢
        generalize n / 128 = v at hd ⊢
        subst hd
        rw [Int.add_mul, Int.mul_comm (128 ^ i) 128, ← Int.mul_assoc, Int.mul_comm v 128]
      have e4 : acc + n % 128 * 128 ^ i + n / 128 * 128 ^ (i + 1) = acc + n * 128 ^ i := by rw [hpow]; omega
      have ih := numS_back k (i + 1) K (acc + n % 128 * 128 ^ i) (n / 128) r (by omega) (by omega) (by omega) (by omega) (by rw [e4]; exact hm)
      rw [he, List.cons_append, numS, if_pos (by omega), e2, ih, e4]

theorem num_enc (n : Int) (r : List Int) : num (enc n ++ r) = .ok (norm n, r) := by
  have hn := norm_in n
  have hm : norm n ≤ 9007199254740991 := by unfold norm; split <;> omega
  have := numS_back 7 0 8 0 (norm n) r (by omega) hn.1 (by omega) (by omega) (by simpa using hm)
  simpa [num, enc] using this

theorem norm_nat {k : Nat} (h : k ≤ 65536) : norm (k : Int) = k := norm_id (by omega) (by omega)

theorem lenR_enc {k : Nat} (h : k ≤ 65536) (r : List Int) : lenR (enc k ++ r) = .ok ((k : Int), r) := by
  unfold lenR
  rw [num_enc, norm_nat h]
  simp only
  rw [if_neg (by omega)]

theorem pairR_ex (p : Int × Int) (r : List Int) : pairR (ex p ++ r) = .ok ((norm p.1, norm p.2), r) := by
  unfold pairR ex
  rw [List.append_assoc, num_enc]
  simp only [num_enc]

theorem secR_sec {s : List Int} (h : Sec s) (r : List Int) : secR (id s ++ r) = .ok (s, r) := by
  have h8 := h.1
  unfold secR
  rw [if_neg (by simp only [id, List.length_append]; omega)]
  simp only [id]
  rw [List.take_append_of_le_length (by omega), List.drop_append_of_le_length (by omega), List.take_of_length_le (by omega), List.drop_eq_nil_of_le (by omega), List.nil_append]

theorem lst_back {α β : Type} {R : List Int → Except Int (α × List Int)} {e : β → List Int} {f : β → α} : ∀ {l : List β} (r : List Int), (∀ x ∈ l, ∀ r, R (e x ++ r) = .ok (f x, r)) → lst R l.length (l.flatMap e ++ r) = .ok (l.map f, r)
  | [], r, _ => by simp [lst]
  | x :: t, r, h => by
    have h1 := h x (by simp) (t.flatMap e ++ r)
    have h2 := lst_back (l := t) r fun y hy => h y (by simp [hy])
    rw [List.flatMap_cons, List.append_assoc, List.length_cons, lst, h1]
    simp only [h2, List.map_cons]

theorem lists_back {α β : Type} {R : List Int → Except Int (α × List Int)} {e : β → List Int} {f : β → α} {l : List β} (hl : l.length ≤ 65536) (r : List Int) (h : ∀ x ∈ l, ∀ r, R (e x ++ r) = .ok (f x, r)) : lists R (enc l.length ++ l.flatMap e ++ r) = .ok (l.map f, r) := by
  unfold lists
  rw [List.append_assoc, lenR_enc hl]
  simp only [Int.toNat_natCast]
  exact lst_back r h

theorem secs_back {l : List (List Int)} (hs : ∀ s ∈ l, Sec s) (hl : l.length ≤ 65536) (r : List Int) : lists secR (es l ++ r) = .ok (l, r) := by
  have := lists_back (R := secR) (e := id) (f := id) hl r fun s h r => secR_sec (hs s h) r
  rw [List.map_id] at this
  exact this

theorem wrR_back {w : Wr} (h : w.Ok) (r : List Int) : wrR (ew w ++ r) = .ok (((norm w.vol, norm w.start), w.secs), r) := by
  have hf := h.few
  unfold wrR ew
  have := pairR_ex (w.vol, w.start) (es w.secs ++ r)
  simp only [ex] at this
  rw [List.append_assoc, this]
  simp only [secs_back h.sec (by omega)]

theorem numS_once : ∀ (k i K : Nat) (acc m : Int) (l r : List Int), k ≤ K → Byt l → numS k i acc l = .ok (m, r) → ∃ n, m = acc + n * 128 ^ i ∧ l = encF K n ++ r ∧ 0 ≤ n ∧ (0 < i → 0 < n)
  | 0, _, _, _, _, _, _, _, _, h => by simp [numS] at h
  | k + 1, i, K, acc, m, [], r, _, _, h => by simp [numS] at h
  | k + 1, i, 0, acc, m, b :: t, r, hK, _, _ => by omega
  | k + 1, i, K + 1, acc, m, b :: t, r, hK, hb, h => by
    obtain ⟨hb0, hb1⟩ := hb b (by simp)
    simp only [numS] at h
    split at h
    · rename_i h128
      obtain ⟨n, rfl, rfl, h0, hpos⟩ := numS_once k (i + 1) K _ m t r (by omega) (fun x hx => hb x (by simp [hx])) h
      have hp := hpos (by omega)
      refine ⟨b % 128 + 128 * n, ?_, ?_, by omega, fun _ => by omega⟩
      · rw [Int.pow_succ, Int.add_mul, Int.mul_comm (128 ^ i) 128, ← Int.mul_assoc, Int.mul_comm n 128]
        omega
      · have e1 : ¬ b % 128 + 128 * n < 128 := by omega
        have e2 : (b % 128 + 128 * n) % 128 + 128 = b := by omega
        have e3 : (b % 128 + 128 * n) / 128 = n := by omega
        rw [encF, if_neg e1, e2, e3, List.cons_append]
    · rename_i h128
      split at h
      · cases h
      · rename_i hc
        cases h
        have e1 : b % 128 = b := by omega
        refine ⟨b, by rw [e1], ?_, hb0, fun hi => ?_⟩
        · rw [encF, if_pos (by omega)]; rfl
        · rcases Int.lt_or_eq_of_le hb0 with h | h
          · exact h
          · exact absurd (.inl ⟨h.symm, hi⟩) hc

theorem num_once {l r : List Int} {n : Int} (hb : Byt l) (h : num l = .ok (n, r)) : l = enc n ++ r := by
  obtain ⟨m, rfl, hl, h0, _⟩ := numS_once 8 0 8 0 n l r (Nat.le_refl _) hb h
  obtain ⟨h1, h2, _⟩ := num_ok hb h
  have e : (0 : Int) + m * 128 ^ 0 = m := by simp
  rw [e] at h1 h2 ⊢
  rw [enc, norm_id h1 (by omega)]
  exact hl

/-- What is read was put. -/
def Once {α : Type} (R : List Int → Except Int (α × List Int)) (e : α → List Int) : Prop := ∀ l r a, Byt l → R l = .ok (a, r) → l = e a ++ r

theorem pairR_once : Once pairR ex := by
  intro l r a hb h
  obtain ⟨m, hn, hm⟩ := pairR_ok h
  have h1 := num_once hb hn
  rw [h1] at hb
  have h2 := num_once hb.right hm
  rw [h1, h2, ex, List.append_assoc]

theorem secR_once : Once secR id := by
  intro l r a _ h
  unfold secR at h
  split at h
  · cases h
  · cases h; simp

theorem lst_once {α : Type} {R : List Int → Except Int (α × List Int)} {e : α → List Int} (hR : Once R e) : ∀ (k : Nat) (l r : List Int) (zs : List α), Byt l → lst R k l = .ok (zs, r) → l = zs.flatMap e ++ r ∧ zs.length = k
  | 0, l, r, zs, _, h => by
    simp only [lst, Except.ok.injEq, Prod.mk.injEq] at h
    obtain ⟨rfl, rfl⟩ := h
    exact ⟨rfl, rfl⟩
  | k + 1, l, r, zs, hb, h => by
    simp only [lst] at h
    split at h
    · rename_i x m hx
      split at h
      · rename_i ys r2 hz
        cases h
        have h1 := hR _ _ _ hb hx
        rw [h1] at hb
        obtain ⟨h2, h3⟩ := lst_once hR k _ _ _ hb.right hz
        refine ⟨?_, by simp [h3]⟩
        rw [h1, h2, List.flatMap_cons, List.append_assoc]
      · cases h
    · cases h

theorem lists_once {α : Type} {R : List Int → Except Int (α × List Int)} {e : α → List Int} (hR : Once R e) {l r : List Int} {zs : List α} (hb : Byt l) (h : lists R l = .ok (zs, r)) : l = enc zs.length ++ zs.flatMap e ++ r ∧ zs.length ≤ 65536 := by
  obtain ⟨n, m, hn, hl⟩ := lists_ok h
  obtain ⟨hnum, hle⟩ := lenR_ok hn
  obtain ⟨h0, _⟩ := num_ok hb hnum
  have h1 := num_once hb hnum
  rw [h1] at hb
  obtain ⟨h2, h3⟩ := lst_once hR _ _ _ _ hb.right hl
  have e1 : (zs.length : Int) = n := by omega
  refine ⟨?_, by omega⟩
  rw [e1, h1, h2, List.append_assoc]

def ewp (q : (Int × Int) × List (List Int)) : List Int := ex q.1 ++ es q.2
theorem wrR_once : Once wrR ewp := by
  intro l r a hb h
  obtain ⟨m, hn, hm⟩ := wrR_ok h
  have h1 := pairR_once _ _ _ hb hn
  rw [h1] at hb
  obtain ⟨h2, _⟩ := lists_once secR_once hb.right hm
  rw [h1, h2]
  simp [ewp, es]

theorem textR_once {l r a : List Int} (hb : Byt l) (h : textR l = .ok (a, r)) : l = enc a.length ++ a ++ r ∧ a.length ≤ 65536 := by
  unfold textR at h
  split at h
  · rename_i n m hn
    split at h
    · cases h
    · cases h
      obtain ⟨hnum, hle⟩ := lenR_ok hn
      obtain ⟨h0, _⟩ := num_ok hb hnum
      have h1 := num_once hb hnum
      have hl : (m.take n.toNat).length = n.toNat := by rw [List.length_take]; omega
      have e1 : ((m.take n.toNat).length : Int) = n := by omega
      refine ⟨?_, by omega⟩
      rw [e1, List.append_assoc, List.take_append_drop]
      exact h1
  · cases h

theorem textR_back {a : List Int} (hl : a.length ≤ 65536) (r : List Int) : textR (enc a.length ++ a ++ r) = .ok (a, r) := by
  unfold textR
  rw [List.append_assoc, lenR_enc hl]
  simp only [Int.toNat_natCast]
  rw [if_neg (by rw [List.length_append]; omega), List.take_left, List.drop_left]

end VS
end Go.Proofs.Ytkhekmmldnjenaa
/- The public readers of wire. -/
namespace Go.Proofs.Ytkhekmmldnjenaa
namespace VS

/-- A public reader. -/
def Pub {α : Type} (f : FuncId) (R : List Int → Except Int (α × List Int)) (fin : α → AV → Prop) (z : AV) : Prop :=
  ∀ {x : AV} {l : List Int}, IsB x l → Byt l → l.length ≤ 274877906944 → ∀ st : St,
    (∀ a r, R l = .ok (a, r) → ∃ v y, callL T f [x] st = some (.ret (.tup [v, y, .v (.int .i64 0)]), st) ∧ IsB y r ∧ Byt r ∧ r.length ≤ l.length ∧ fin a v) ∧
    (∀ e, R l = .error e → e ≠ 0 ∧ callL T f [x] st = some (.ret (.tup [z, .v (.slice none 0 0), .v (.int .i64 e)]), st))

def fInt (n : Int) (v : AV) : Prop := v = .v (.int .i64 n)
def fBytes (a : List Int) (v : AV) : Prop := IsB v a ∧ Byt a
def fInts (ns : List Int) (v : AV) : Prop := IsL 1 v (ints ns) ns.length
def fSecs (ss : List (List Int)) (v : AV) : Prop := IsL 8 v (ss.flatMap bys) ss.length ∧ ∀ s ∈ ss, Sec s
def fExts (xs : List (Int × Int)) (v : AV) : Prop := IsL 2 v (xs.flatMap gx) xs.length
def fWrs (zs : List ((Int × Int) × List (List Int))) (v : AV) : Prop := ∃ ws : List Wr, ws.map plw = zs ∧ IsL 3 v (ws.flatMap gw) ws.length ∧ ∀ w ∈ ws, w.Fit

theorem ints_flat (l : List Int) : l.flatMap gi = ints l := by
  induction l with
  | nil => rfl
  | cons n r ih => rw [List.flatMap_cons, ih]; rfl

theorem sInt (n : Int) (v : AV) (h : fInt n v) : ∃ y, (∀ s, exp1 s v = some (y, s)) ∧ fInt n y := by
  cases h; exact ⟨_, fun _ => rfl, rfl⟩
theorem sBytes (a : List Int) (v : AV) (h : fBytes a v) : ∃ y, (∀ s, exp1 s v = some (y, s)) ∧ fBytes a y := by
  obtain ⟨y, h1, h2, _⟩ := h.1.exps; exact ⟨y, h1, h2, h.2⟩
theorem sInts (a : List Int) (v : AV) (h : fInts a v) : ∃ y, (∀ s, exp1 s v = some (y, s)) ∧ fInts a y := by
  obtain ⟨y, h1, h2, _⟩ := h.exps; exact ⟨y, h1, h2⟩
theorem sSecs (a : List (List Int)) (v : AV) (h : fSecs a v) : ∃ y, (∀ s, exp1 s v = some (y, s)) ∧ fSecs a y := by
  obtain ⟨y, h1, h2, _⟩ := h.1.exps; exact ⟨y, h1, h2, h.2⟩
theorem sExts (a : List (Int × Int)) (v : AV) (h : fExts a v) : ∃ y, (∀ s, exp1 s v = some (y, s)) ∧ fExts a y := by
  obtain ⟨y, h1, h2, _⟩ := IsL.exps h; exact ⟨y, h1, h2⟩
theorem sWrs (a : List ((Int × Int) × List (List Int))) (v : AV) (h : fWrs a v) : ∃ y, (∀ s, exp1 s v = some (y, s)) ∧ fWrs a y := by
  obtain ⟨ws, k0, k1, k2⟩ := h
  obtain ⟨y, h1, h2, _⟩ := k1.exps; exact ⟨y, h1, ws, k0, h2, k2⟩

theorem oInt (_ : St) (n : Int) (v : AV) (h : v = .v (.int .i64 n)) : ∃ y, (∀ s, exp1 s v = some (y, s)) ∧ fInt n y := sInt n v h
theorem oBytes (st : St) (a : List Int) (v : AV) (h : ∃ n, App st 1 v (bys a) n ∧ n = a.length ∧ Byt a) : ∃ y, (∀ s, exp1 s v = some (y, s)) ∧ fBytes a y := by
  obtain ⟨n, h1, rfl, h2⟩ := h
  exact sBytes a v ⟨h1.isB, h2⟩
theorem oInts (st : St) (a : List Int) (v : AV) (h : Li 1 gi id (fun _ => True) st a v) : ∃ y, (∀ s, exp1 s v = some (y, s)) ∧ fInts a y := by
  obtain ⟨xs, h1, h2, _⟩ := h
  rw [List.map_id] at h1
  subst h1
  rw [ints_flat] at h2
  exact sInts xs v h2.isL
theorem oSecs (st : St) (a : List (List Int)) (v : AV) (h : Li 8 bys id Sec st a v) : ∃ y, (∀ s, exp1 s v = some (y, s)) ∧ fSecs a y := by
  obtain ⟨xs, h1, h2, h3⟩ := h
  rw [List.map_id] at h1
  subst h1
  exact sSecs xs v ⟨h2.isL, h3⟩
theorem oExts (st : St) (a : List (Int × Int)) (v : AV) (h : Li 2 gx id (fun _ => True) st a v) : ∃ y, (∀ s, exp1 s v = some (y, s)) ∧ fExts a y := by
  obtain ⟨xs, h1, h2, _⟩ := h
  rw [List.map_id] at h1
  subst h1
  exact sExts xs v h2.isL
theorem oWrs (st : St) (a : List ((Int × Int) × List (List Int))) (v : AV) (h : Li 3 gw plw Wr.Fit st a v) : ∃ y, (∀ s, exp1 s v = some (y, s)) ∧ fWrs a y := by
  obtain ⟨xs, h1, h2, h3⟩ := h
  exact sWrs a v ⟨xs, h1, h2.isL, h3⟩

theorem pub28 : Pub 73 num fInt (.v (.int .i64 0)) := by
  intro x l hx hb hlen st
  obtain ⟨x', hx1, hx2, _⟩ := hx.exps
  obtain ⟨ok, er⟩ := read60 (F := 90) number oInt hx2 hb hlen .mt
  rw [call_plain T73 rfl rfl (expA_cons (hx1 st) rfl)]
  refine ⟨fun a r h => ?_, fun e h => ?_⟩
  · obtain ⟨v, y, h1, h2, h3, h4, h5⟩ := ok _ _ h
    obtain ⟨v', hv1, hv2⟩ := sInt _ _ h5
    obtain ⟨y', hy1, hy2, _⟩ := h2.exps
    refine ⟨v', y', ?_, hy2, h3, h4, hv2⟩
    simp [inner_eq, s73, h1, dropped, expR, expA, hv1, hy1]
  · obtain ⟨h0, h1⟩ := er _ h
    refine ⟨h0, ?_⟩
    simp [inner_eq, s73, h1, dropped, expR, expA]

theorem pub33 : Pub 77 textR fBytes (.v (.slice none 0 0)) := by
  intro x l hx hb hlen st
  obtain ⟨x', hx1, hx2, _⟩ := hx.exps
  obtain ⟨ok, er⟩ := read71 (F := 96) text72 oBytes hx2 hb hlen .mt
  rw [call_plain T77 rfl rfl (expA_cons (hx1 st) rfl)]
  refine ⟨fun a r h => ?_, fun e h => ?_⟩
  · obtain ⟨v, y, h1, h2, h3, h4, h5⟩ := ok _ _ h
    obtain ⟨v', hv1, hv2⟩ := sBytes _ _ h5
    obtain ⟨y', hy1, hy2, _⟩ := h2.exps
    refine ⟨v', y', ?_, hy2, h3, h4, hv2⟩
    simp [inner_eq, s77, h1, dropped, expR, expA, hv1, hy1]
  · obtain ⟨h0, h1⟩ := er _ h
    refine ⟨h0, ?_⟩
    simp [inner_eq, s77, h1, dropped, expR, expA]

theorem pub31 : Pub 82 (lists num) fInts (.v (.slice none 0 0)) := by
  intro x l hx hb hlen st
  obtain ⟨x', hx1, hx2, _⟩ := hx.exps
  obtain ⟨ok, er⟩ := read68 (F := 99) lists69 oInts hx2 hb hlen .mt
  rw [call_plain T82 rfl rfl (expA_cons (hx1 st) rfl)]
  refine ⟨fun a r h => ?_, fun e h => ?_⟩
  · obtain ⟨v, y, h1, h2, h3, h4, h5⟩ := ok _ _ h
    obtain ⟨v', hv1, hv2⟩ := sInts _ _ h5
    obtain ⟨y', hy1, hy2, _⟩ := h2.exps
    refine ⟨v', y', ?_, hy2, h3, h4, hv2⟩
    simp [inner_eq, s82, h1, dropped, expR, expA, hv1, hy1]
  · obtain ⟨h0, h1⟩ := er _ h
    refine ⟨h0, ?_⟩
    simp [inner_eq, s82, h1, dropped, expR, expA]

theorem pub34 : Pub 75 (lists pairR) fExts (.v (.slice none 0 0)) := by
  intro x l hx hb hlen st
  obtain ⟨x', hx1, hx2, _⟩ := hx.exps
  obtain ⟨ok, er⟩ := read73 (F := 92) lists74 oExts hx2 hb hlen .mt
  rw [call_plain T75 rfl rfl (expA_cons (hx1 st) rfl)]
  refine ⟨fun a r h => ?_, fun e h => ?_⟩
  · obtain ⟨v, y, h1, h2, h3, h4, h5⟩ := ok _ _ h
    obtain ⟨v', hv1, hv2⟩ := sExts _ _ h5
    obtain ⟨y', hy1, hy2, _⟩ := h2.exps
    refine ⟨v', y', ?_, hy2, h3, h4, hv2⟩
    simp [inner_eq, s75, h1, dropped, expR, expA, hv1, hy1]
  · obtain ⟨h0, h1⟩ := er _ h
    refine ⟨h0, ?_⟩
    simp [inner_eq, s75, h1, dropped, expR, expA]

end VS
end Go.Proofs.Ytkhekmmldnjenaa
/- WireOnce, WireTears: the laws. -/
namespace Go.Proofs.Ytkhekmmldnjenaa
namespace VS

def sndC : SCode → SCode
  | .seq _ _ b => b
  | c => c
def fstC : SCode → SCode
  | .seq _ a _ => a
  | c => c
def c8 : Nat → SCode
  | 0 => s8.body
  | n + 1 => sndC (c8 n)

theorem mem_le {α : Type} {e : α → List Int} : ∀ {l : List α} {x : α}, x ∈ l → (e x).length ≤ (l.flatMap e).length
  | y :: r, x, h => by
    rw [List.flatMap_cons, List.length_append]
    rcases List.mem_cons.1 h with rfl | h
    · omega
    · have := mem_le (e := e) h; omega
theorem sec_len {l : List (List Int)} (h : ∀ s ∈ l, Sec s) : (l.flatMap id).length = 8 * l.length := by
  induction l with
  | nil => simp
  | cons s r ih =>
    have h1 := (h s (by simp)).1
    have := ih fun x hx => h x (by simp [hx])
    rw [List.flatMap_cons, List.length_append, List.length_cons]
    simp only [id]; omega

theorem ewp_plw (w : Wr) : ewp (plw w) = ew w := by simp [ewp, plw, ew, ex]

theorem torn_cut {m : Nat} {A : List Int} (h : A ≠ []) : m % A.length < A.length := Nat.mod_lt _ (List.length_pos_iff.2 h)

theorem pub_torn {α : Type} {f : FuncId} {R : List Int → Except Int (α × List Int)} {fin : α → AV → Prop} {z : AV} (hf : Pub f R fin z) (hR : Pre R) {x : AV} {A : List Int} {a : α} (h : R A = .ok (a, [])) (hb : Byt A) (hl : A.length ≤ 1000000) {k : Nat} (hk : k < A.length) (hx : IsB x (A.take k)) (st : St) :
    callL T f [x] st = some (.ret (.tup [z, .v (.slice none 0 0), .v (.int .i64 10)]), st) :=
  ((hf hx (hb.take k) (by rw [List.length_take]; omega) st).2 _ (torn hR h hk)).2

end VS
end Go.Proofs.Ytkhekmmldnjenaa
/- slices.Equal, SameSectors, SameWrites, of lists that are equal. -/
namespace Go.Proofs.Ytkhekmmldnjenaa
namespace VS

theorem same_bys : ∀ (s : List Int), sameCells (bys s) (bys s) = some true
  | [] => rfl
  | b :: r => by
    have := same_bys r
    unfold bys at this ⊢
    simp [sameCells, this]
theorem same_gx (p : Int × Int) : sameCells (gx p) (gx p) = some true := by simp [gx, sameCells]
theorem bin_same {l : List AV} {n : Nat} (hl : l.length = n) (hs : sameCells l l = some true) : binAV .neq (.cells n) (.agg l) (.agg l) = some (.bool false) := by
  simp [hl, hs]
theorem ints_flat' (l : List Int) : Flat gi 1 l (ints l) := by
  rw [← ints_flat]
  exact flat_of fun _ _ => rfl

theorem IsL.form2 {sz : Nat} {x : AV} {cs : List AV} {n : Nat} (h : IsL sz x cs n) (hn : 0 < n) : ∃ t, x = .sl cs n t := by
  cases h with
  | nil => omega
  | sl _ _ => exact ⟨_, rfl⟩

theorem eq42Loop {α : Type} {g : α → List AV} {l : List α} {ds : List AV} (t u : Tag) (hf : Flat g 2 l ds) (hg : ∀ x ∈ l, (g x).length = 2) (hs : ∀ x ∈ l, sameCells (g x) (g x) = some true) (hlen : l.length ≤ 1000000) : ∀ (k i : Nat) (st : St), i + k = l.length →
    ∃ fr', runL T (.loop [0, 1, 12, 13] s15b0) { s := [(0, .sl ds l.length t), (1, .sl ds l.length u), (12, .v (.int .i64 l.length)), (13, .v (.int .i64 i))], d := [] } st = some (.ex 0, fr', st) ∧ fr'.only [] = { s := [], d := [] }
  | 0, i, st, hi => by
    refine ⟨?s, ?a, ?b⟩
    case a =>
      rw [runL_loop]
      have : ¬ (i : Int) < l.length := by omega
      simp [s15b0, this]
      rfl
    case b => simp
  | k + 1, i, st, hi => by
    have hlt : i < l.length := by omega
    have hmem : l[i] ∈ l := List.getElem_mem hlt
    have hw : IntKind.wrap .i64 ((i : Int) + 1) = ((i + 1 : Nat) : Int) := by rw [wrap_i64 (by omega) (by omega)]; omega
    have h1 : (i : Int) < l.length := by omega
    have hfl := hf.len
    have h2 : partOf ds (i * 2) (some 2) = some (.agg (g l[i])) := partOf_some (by omega) (hf.at_ i hlt)
    have h3 := hg _ hmem
    have h4 := hs _ hmem
    obtain ⟨fr', hr, hfr⟩ := eq42Loop t u hf hg hs hlen k (i + 1) st (by omega)
    refine ⟨fr', ?_, hfr⟩
    rw [runL_loop]
    generalize hL : SCode.loop [0, 1, 12, 13] s15b0 = L
    simp only [s15b0]
    simp [h1, opLoad_ep, h2, h3, h4, hw, -partOf]
    subst hL
    refine (loop_from ?_).trans hr
    simp

theorem eq42 {α : Type} {g : α → List AV} {l : List α} {ds : List AV} {x y : AV} (hf : Flat g 2 l ds) (hg : ∀ x ∈ l, (g x).length = 2) (hs : ∀ x ∈ l, sameCells (g x) (g x) = some true) (hlen : l.length ≤ 1000000) (hx : IsL 2 x ds l.length) (hy : IsL 2 y ds l.length) (st : St) : callL T 15 [x, y] st = some (.ret (.v (.bool true)), st) := by
  obtain ⟨x', hx1, hx2, _⟩ := hx.exps
  obtain ⟨y', hy1, hy2, _⟩ := hy.exps
  rw [call_plain T15 rfl rfl (expA_cons (hx1 st) (expA_cons (hy1 st) rfl))]
  have k1 := hx2.len
  have k2 := hy2.len
  by_cases h0 : l.length = 0
  · rw [h0] at k1 k2
    simp only [Int.natCast_zero] at k1 k2
    simp [inner_eq, s15, k1, k2]
    rw [runL_loop]
    simp [s15b0, dropped, expR]
  · obtain ⟨t, rfl⟩ := hx2.form2 (by omega)
    obtain ⟨u, rfl⟩ := hy2.form2 (by omega)
    obtain ⟨fr', hr, hfr⟩ := eq42Loop t u hf hg hs hlen l.length 0 .mt (Nat.zero_add _)
    have hu := loop_use hr
    simp [inner_eq, s15]
    rw [hu _ (by simp)]
    simp [hfr, dropped, expR]

theorem eqExts {x y : AV} {xs : List (Int × Int)} (hx : IsL 2 x (xs.flatMap gx) xs.length) (hy : IsL 2 y (xs.flatMap gx) xs.length) (hlen : xs.length ≤ 1000000) (st : St) : callL T 15 [x, y] st = some (.ret (.v (.bool true)), st) :=
  eq42 (flat_ext xs) (fun _ _ => rfl) (fun p _ => same_gx p) hlen hx hy st

end VS
end Go.Proofs.Ytkhekmmldnjenaa
/- The reference's readers. -/
namespace Go.Proofs.Ytkhekmmldnjenaa
namespace VS

def Num77 (l : List Int) (st : St) (o : Option Out) : Except Int (Int × List Int) → Prop
  | .ok (m, r) => ∃ j : Nat, r = l.drop j ∧ j ≤ l.length ∧ o = some (.rt, { s := [(2, .v (.int .i64 m)), (3, .v (.int .i64 j)), (4, .v (.int .i64 0))], d := [] }, st)
  | .error e => o = some (.rt, { s := [(2, .v (.int .i64 0)), (3, .v (.int .i64 0)), (4, .v (.int .i64 e))], d := [] }, st) ∨ (e = 3 ∧ ∃ fr', o = some (.ex 0, fr', st) ∧ fr'.only [] = { s := [], d := [] })

theorem numLoop77 {st : St} {x : AV} {l : List Int} (hx : IsB x l) (hl : Byt l) : ∀ (k i : Nat) (n : Int), i + k = 8 → i ≤ l.length → 0 ≤ n → n < 128 ^ i →
    Num77 l st (runL T (.loop [0, 5, 6, 7] s97b0) { s := [(0, x), (5, .v (.int .i64 n)), (6, .v (.int .i64 (128 ^ i))), (7, .v (.int .i64 i))], d := [] } st) (numS k i n (l.drop i))
  | 0, i, n, hi, _, _, _ => by
    have : i = 8 := by omega
    subst this
    refine .inr ⟨rfl, ?s, ?a, ?b⟩
    case a =>
      rw [runL_loop]
      simp [s97b0]
      rfl
    case b => simp
  | k + 1, i, n, hi, hil, h0, h1 => by
    have h8 : (i : Int) < 8 := by omega
    by_cases hlt : i < l.length
    · have hd : l.drop i = l[i] :: l.drop (i + 1) := List.drop_eq_getElem_cons hlt
      obtain ⟨t, rfl, ht⟩ := hx.form (by omega)
      obtain ⟨hb0, hb1⟩ := hl l[i] (List.getElem_mem hlt)
      have hget := bys_get l i hlt
      have hge : ¬ (l.length : Int) ≤ i := by omega
      have hlti : (i : Int) < l.length := by omega
      have hw1 : IntKind.wrap .i64 l[i] = l[i] := wrap_i64 (by omega) (by omega)
      have hmod : Int.tmod l[i] 128 = l[i] % 128 := Int.tmod_eq_emod_of_nonneg hb0
      have hw3 : IntKind.wrap .i64 ((i : Int) + 1) = ((i + 1 : Nat) : Int) := by rw [wrap_i64 (by omega) (by omega)]; omega
      have hp : (128 : Int) ^ i ≤ 128 ^ 7 := by exact_mod_cast Nat.pow_le_pow_right (by omega : 0 < 128) (by omega)
      have hp0 : (0 : Int) < 128 ^ i := Int.pow_pos (by omega)
      have h7 : (128 : Int) ^ 7 = 562949953421312 := by decide
      have hle : l[i] % 128 * 128 ^ i ≤ 127 * 128 ^ i := Int.mul_le_mul_of_nonneg_right (by omega) (by omega)
      have hge0 : 0 ≤ l[i] % 128 * 128 ^ i := Int.mul_nonneg (by omega) (by omega)
      obtain ⟨hm0, hm1⟩ := acc_lt (x := l[i] % 128) h0 h1 (by omega) (by omega)
      have hw2 : IntKind.wrap .i64 (l[i] % 128 * 128 ^ i) = l[i] % 128 * 128 ^ i := wrap_i64 (by omega) (by omega)
      have hw4 : IntKind.wrap .i64 (n + l[i] % 128 * 128 ^ i) = n + l[i] % 128 * 128 ^ i := wrap_i64 (by omega) (by omega)
      have hw5 : IntKind.wrap .i64 (128 ^ i * 128) = 128 ^ (i + 1) := by rw [wrap_i64 (by omega) (by omega), Int.pow_succ]
      rw [hd]
      simp only [numS]
      generalize hq : l[i] % 128 * 128 ^ i = q at *
      generalize hmm : n + q = m at *
      by_cases hbig : 128 ≤ l[i]
      · rw [if_pos hbig]
        have hn : ¬ l[i] < 128 := by omega
        have ih := numLoop77 (st := st) hx hl k (i + 1) m (by omega) (by omega) hm0 hm1
        have step : runL T (.loop [0, 5, 6, 7] s97b0) { s := [(0, .sl (bys l) l.length t), (5, .v (.int .i64 n)), (6, .v (.int .i64 (128 ^ i))), (7, .v (.int .i64 i))], d := [] } st =
            runL T (.loop [0, 5, 6, 7] s97b0) { s := [(0, .sl (bys l) l.length t), (5, .v (.int .i64 m)), (6, .v (.int .i64 (128 ^ (i + 1)))), (7, .v (.int .i64 (i + 1 : Nat)))], d := [] } st := by
          rw [runL_loop]
          generalize hL : SCode.loop [0, 5, 6, 7] s97b0 = L
          generalize (128 : Int) ^ (i + 1) = w2 at *
          generalize (128 : Int) ^ i = w1 at *
          simp only [s97b0]
          simp [h8, hge, hlti, opLoad_ep, hget, hw1, hmod, hq, hw2, hmm, hw4, hn, hw5, hw3]
          subst hL
          refine loop_from ?_
          simp
        rw [step]
        exact ih
      · rw [if_neg hbig]
        have hn : l[i] < 128 := by omega
        by_cases hbad : (l[i] = 0 ∧ 0 < i) ∨ 9007199254740991 < m
        · rw [if_pos hbad]
          refine .inl ?_
          rw [runL_loop]
          generalize (128 : Int) ^ i = w1 at *
          simp only [s97b0]
          by_cases hz : l[i] = 0
          · have hz1 := eq_true hz
            by_cases hi0 : 0 < i
            · simp [h8, hge, hlti, opLoad_ep, hget, hw1, hmod, hq, hw2, hmm, hw4, hn, hz1, hi0]
            · have hm9 : 9007199254740991 < m := by rcases hbad with h | h <;> omega
              simp [h8, hge, hlti, opLoad_ep, hget, hw1, hmod, hq, hw2, hmm, hw4, hn, hz1, hi0, hm9]
          · have hm9 : 9007199254740991 < m := by rcases hbad with h | h <;> omega
            simp [h8, hge, hlti, opLoad_ep, hget, hw1, hmod, hq, hw2, hmm, hw4, hn, hz, hm9]
        · rw [if_neg hbad]
          have hm9 : ¬ 9007199254740991 < m := fun h => hbad (.inr h)
          refine ⟨i + 1, rfl, by omega, ?_⟩
          rw [runL_loop]
          generalize (128 : Int) ^ i = w1 at *
          simp only [s97b0]
          by_cases hz : l[i] = 0
          · have hi0 : ¬ 0 < i := fun h => hbad (.inl ⟨hz, h⟩)
            have hz1 := eq_true hz
            simp [h8, hge, hlti, opLoad_ep, hget, hw1, hmod, hq, hw2, hmm, hw4, hn, hz1, hi0, hm9, hw3]
          · simp [h8, hge, hlti, opLoad_ep, hget, hw1, hmod, hq, hw2, hmm, hw4, hn, hz, hm9, hw3]
    · have hd : l.drop i = [] := List.drop_eq_nil_of_le (by omega)
      rw [hd]
      refine .inl ?_
      have hk := hx.isL.len
      have hge : (l.length : Int) ≤ i := by omega
      rw [runL_loop]
      simp only [s97b0]
      simp [h8, hk, hge]

/-- ref.number -/
theorem number77 {x : AV} {l : List Int} (hx : IsB x l) (hl : Byt l) (st : St) :
    (∀ n r, num l = .ok (n, r) → ∃ j : Nat, r = l.drop j ∧ j ≤ l.length ∧ callL T 97 [x] st = some (.ret (.tup [.v (.int .i64 n), .v (.int .i64 j), .v (.int .i64 0)]), st)) ∧
    (∀ e, num l = .error e → e ≠ 0 ∧ callL T 97 [x] st = some (.ret (.tup [.v (.int .i64 0), .v (.int .i64 0), .v (.int .i64 e)]), st)) := by
  obtain ⟨x', hx1, hx2, _⟩ := hx.exps
  have h := numLoop77 (st := .mt) hx2 hl 8 0 0 rfl (by omega) (by omega) (by omega)
  rw [List.drop_zero] at h
  have hc : ∀ o, runL T (.loop [0, 5, 6, 7] s97b0) { s := [(0, x'), (5, .v (.int .i64 0)), (6, .v (.int .i64 (128 ^ 0))), (7, .v (.int .i64 (0 : Nat)))], d := [] } .mt = o → callL T 97 [x] st = dropped st (endR [.tmp 2, .tmp 3, .tmp 4] (thenR (blockR 0 o) (seqK T [] (.seq [2, 3, 4] (.region [⟨(some 2), none, (.mv (.c (.v (.int .i64 0))))⟩, ⟨(some 3), none, (.mv (.c (.v (.int .i64 0))))⟩, ⟨(some 4), none, (.mv (.c (.v (.int .i64 3))))⟩] false) .ret)))) := by
    intro o ho
    rw [call_plain T97 rfl rfl (expA_cons (hx1 st) rfl)]
    have hu := loop_use ho
    simp [inner_eq, s97]
    rw [hu _ (by simp)]
  refine ⟨fun n r hn => ?_, fun e he => ?_⟩
  · change numS 8 0 0 l = .ok (n, r) at hn
    rw [hn] at h
    obtain ⟨j, hj, hjl, ho⟩ := h
    refine ⟨j, hj, hjl, ?_⟩
    rw [hc _ ho]
    simp [dropped, expR, expA]
  · change numS 8 0 0 l = .error e at he
    have h3 := numS_err _ _ _ _ _ he
    rw [he] at h
    refine ⟨by omega, ?_⟩
    rcases h with ho | ⟨rfl, fr', ho, hfr⟩
    · rw [hc _ ho]
      simp [dropped, expR, expA]
    · rw [hc _ ho]
      simp [hfr, dropped, expR, expA]

theorem IsL.expR {sz : Nat} {x : AV} {cs : List AV} {n : Nat} (h : IsL sz x cs n) (st : St) : expR st x = (exp1 st x).map fun p => p.1 := by
  cases h <;> rfl

/-- ref.rest -/
theorem rest78 {x : AV} {l : List Int} (hx : IsB x l) (hlen : l.length ≤ 274877906944) {n : Nat} (hn : n ≤ l.length) (st : St) : ∃ y, callL T 80 [x, .v (.int .i64 n)] st = some (.ret y, st) ∧ IsB y (l.drop n) := by
  obtain ⟨x', hx1, hx2, _⟩ := hx.exps
  obtain ⟨u, hu, hul⟩ := slice_from (k := .i64) hx2 hn
  obtain ⟨z, st1, hap, hA, _⟩ := app_append (st := .mt) (bytes := 1) .nil hul.isL (by omega) (by simp only [most47]; rw [List.length_drop]; omega) (by rw [List.length_drop]; omega)
  rw [List.nil_append, Nat.zero_add] at hA
  obtain ⟨y, hy1, hy2, _⟩ := hA.isB.exps
  refine ⟨y, ?_, hy2⟩
  rw [call_plain T80 rfl rfl (expA_cons (hx1 st) (expA_cons (exp1_v _ _) rfl))]
  simp [inner_eq, s80, hu, hap, dropped, hA.isL.expR, hy1]

/-- ref.Int -/
theorem ref35 : Pub 78 num fInt (.v (.int .i64 0)) := by
  intro x l hx hb hlen st
  obtain ⟨x', hx1, hx2, _⟩ := hx.exps
  obtain ⟨ok, er⟩ := number77 hx2 hb .mt
  rw [call_plain T78 rfl rfl (expA_cons (hx1 st) rfl)]
  refine ⟨fun n r h => ?_, fun e h => ?_⟩
  · obtain ⟨j, rfl, hj, h1⟩ := ok _ _ h
    obtain ⟨y, h2, h3⟩ := rest78 hx2 hlen hj .mt
    obtain ⟨y', hy1, hy2, _⟩ := h3.exps
    refine ⟨_, y', ?_, hy2, hb.drop j, by rw [List.length_drop]; omega, rfl⟩
    simp [inner_eq, s78, h1, h2, dropped, expR, expA, hy1]
  · obtain ⟨h0, h1⟩ := er _ h
    refine ⟨h0, ?_⟩
    simp [inner_eq, s78, h1, h0, dropped, expR, expA]

/-- ref.length -/
theorem ref79 : Pub 79 lenR fInt (.v (.int .i64 0)) := by
  intro x l hx hb hlen st
  obtain ⟨x', hx1, hx2, _⟩ := hx.exps
  obtain ⟨ok, er⟩ := ref35 hx2 hb hlen .mt
  rw [call_plain T79 rfl rfl (expA_cons (hx1 st) rfl)]
  refine ⟨fun n r h => ?_, fun e h => ?_⟩
  · obtain ⟨hn, hle⟩ := lenR_ok h
    obtain ⟨v, y, h1, h2, h3, h4, rfl⟩ := ok _ _ hn
    obtain ⟨y', hy1, hy2, _⟩ := h2.exps
    have : ¬ 65536 < n := by omega
    refine ⟨_, y', ?_, hy2, h3, h4, rfl⟩
    simp [inner_eq, s79, h1, this, dropped, expR, expA, hy1]
  · rcases lenR_err h with hn | ⟨rfl, n, r, hn, hgt⟩
    · obtain ⟨h0, h1⟩ := er _ hn
      refine ⟨h0, ?_⟩
      simp [inner_eq, s79, h1, h0, dropped, expR, expA]
    · obtain ⟨v, y, h1, h2, h3, h4, rfl⟩ := ok _ _ hn
      refine ⟨by omega, ?_⟩
      simp [inner_eq, s79, h1, hgt, dropped, expR, expA]

/-- ref.Bytes -/
theorem ref36 : Pub 56 textR fBytes (.v (.slice none 0 0)) := by
  intro x l hx hb hlen st
  obtain ⟨x', hx1, hx2, _⟩ := hx.exps
  obtain ⟨ok, er⟩ := ref79 hx2 hb hlen .mt
  rw [call_plain T56 rfl rfl (expA_cons (hx1 st) rfl)]
  refine ⟨fun a r h => ?_, fun e h => ?_⟩
  · unfold textR at h
    split at h
    · rename_i n m hn
      split at h
      · cases h
      · rename_i hge
        cases h
        obtain ⟨v, y, h1, h2, h3, h4, rfl⟩ := ok _ _ hn
        obtain ⟨hnum, hle⟩ := lenR_ok hn
        obtain ⟨h0, _⟩ := num_ok hb hnum
        have hk := h2.isL.len
        obtain ⟨u, hu, hul⟩ := slice_to (k := .i64) h2 (i := n.toNat) (by omega)
        obtain ⟨w, st1, hap, hA, _⟩ := app_append (st := .mt) (bytes := 1) .nil hul.isL (by omega) (by simp only [most47]; rw [List.length_take]; omega) (by rw [List.length_take]; omega)
        rw [List.nil_append, Nat.zero_add] at hA
        obtain ⟨w', hw1, hw2, _⟩ := hA.isB.exps
        obtain ⟨z, hz, hzl⟩ := rest78 h2 (by omega) (n := n.toNat) (by omega) st1
        obtain ⟨z', hz1, hz2, _⟩ := hzl.exps
        have e1 : ((n.toNat : Nat) : Int) = n := by omega
        rw [e1] at hz
        simp only [e1] at hu
        refine ⟨w', z', ?_, hz2, h3.drop _, by rw [List.length_drop]; omega, hw2, h3.take _⟩
        simp [inner_eq, s56, h1, hk, hge, hu, hap, hz, dropped, expR, expA, hw1, hz1]
    · cases h
  · unfold textR at h
    split at h
    · rename_i n m hn
      split at h
      · rename_i hlt
        cases h
        obtain ⟨v, y, h1, h2, h3, h4, rfl⟩ := ok _ _ hn
        have hk := h2.isL.len
        refine ⟨by omega, ?_⟩
        simp [inner_eq, s56, h1, hk, hlt, dropped, expR, expA]
      · cases h
    · rename_i hn
      cases h
      obtain ⟨h0, h1⟩ := er _ hn
      refine ⟨h0, ?_⟩
      simp [inner_eq, s56, h1, h0, dropped, expR, expA]

/-- A list's loop in the reference. -/
def rfr (x : AV) (n : Int) (out : AV) (i : Int) : Fr := { s := [(0, x), (5, .v (.int .i64 n)), (7, out), (8, .v (.int .i64 i))], d := [] }

def RStep {α β : Type} (L : SCode) (c : Nat) (g : β → List AV) (pl : β → α) (ok : β → Prop) (R : List Int → Except Int (α × List Int)) : Prop :=
  ∀ (i n : Nat) (x out : AV) (l : List Int) (xs : List β) (st : St), i < n → n ≤ 65536 → xs.length = i → IsB x l → Byt l → l.length ≤ 274877906944 → App st c out (xs.flatMap g) xs.length →
    (∀ a r, R l = .ok (a, r) → ∃ x' out' x1 st', runL T L (rfr x n out i) st = runL T L (rfr x' n out' (i + 1 : Nat)) st' ∧ IsB x' r ∧ Byt r ∧ r.length ≤ l.length ∧ App st' c out' ((xs ++ [x1]).flatMap g) (xs ++ [x1]).length ∧ pl x1 = a ∧ ok x1) ∧
    (∀ e, R l = .error e → e ≠ 0 ∧ ∃ st', runL T L (rfr x n out i) st = some (.rt, { s := [(2, .v (.slice none 0 0)), (3, .v (.slice none 0 0)), (4, .v (.int .i64 e))], d := [] }, st'))

theorem refList {α β : Type} {L : SCode} {c : Nat} {g : β → List AV} {pl : β → α} {ok : β → Prop} {R : List Int → Except Int (α × List Int)} (hS : RStep L c g pl ok R)
    (hstop : ∀ (n : Nat) (x out : AV) (st : St), ∃ fr', runL T L (rfr x n out n) st = some (.ex 0, fr', st) ∧ fr'.only [0, 7] = { s := [(0, x), (7, out)], d := [] }) (n : Nat) (hn : n ≤ 65536) :
    ∀ (k i : Nat) (x out : AV) (l : List Int) (xs : List β) (st : St), i + k = n → xs.length = i → (∀ y ∈ xs, ok y) → IsB x l → Byt l → l.length ≤ 274877906944 → App st c out (xs.flatMap g) xs.length →
    (∀ zs r, lst R k l = .ok (zs, r) → ∃ x' out' ys fr' st', runL T L (rfr x n out i) st = some (.ex 0, fr', st') ∧ fr'.only [0, 7] = { s := [(0, x'), (7, out')], d := [] } ∧ IsB x' r ∧ Byt r ∧ r.length ≤ l.length ∧ ys.map pl = zs ∧ App st' c out' ((xs ++ ys).flatMap g) (xs ++ ys).length ∧ ∀ y ∈ ys, ok y) ∧
    (∀ e, lst R k l = .error e → e ≠ 0 ∧ ∃ st', runL T L (rfr x n out i) st = some (.rt, { s := [(2, .v (.slice none 0 0)), (3, .v (.slice none 0 0)), (4, .v (.int .i64 e))], d := [] }, st'))
  | 0, i, x, out, l, xs, st, hi, _, _, hx, hb, _, hA => by
    refine ⟨fun zs r h => ?_, fun e h => by simp [lst] at h⟩
    simp only [lst, Except.ok.injEq, Prod.mk.injEq] at h
    obtain ⟨rfl, rfl⟩ := h
    have : i = n := by omega
    subst this
    obtain ⟨fr', h1, h2⟩ := hstop i x out st
    exact ⟨x, out, [], fr', st, h1, h2, hx, hb, Nat.le_refl _, rfl, by simpa using hA, by simp⟩
  | k + 1, i, x, out, l, xs, st, hi, hxi, hxo, hx, hb, hlen, hA => by
    obtain ⟨ok1, er1⟩ := hS i n x out l xs st (by omega) hn hxi hx hb hlen hA
    cases hR : R l with
    | error e =>
      refine ⟨fun zs r h => by simp [lst, hR] at h, fun e' h => ?_⟩
      simp only [lst, hR, Except.error.injEq] at h
      subst h
      exact er1 _ hR
    | ok p =>
      obtain ⟨a, m⟩ := p
      obtain ⟨x', out', x1, st1, h1, h2, h3, h4, h5, h6, h7⟩ := ok1 _ _ hR
      have ih := refList hS hstop n hn k (i + 1) x' out' m (xs ++ [x1]) st1 (by omega) (by simp [hxi]) (fun z hz => by
        rcases List.mem_append.1 hz with h | h
        · exact hxo z h
        · simp at h; subst h; exact h7) h2 h3 (by omega) h5
      rw [h1]
      refine ⟨fun zs r h => ?_, fun e h => ?_⟩
      · simp only [lst, hR] at h
        split at h
        · rename_i zs' r2 hr2
          cases h
          obtain ⟨y', o', ys, fr', st', k1, k2, k3, k4, k5, k6, k7, k8⟩ := ih.1 _ _ hr2
          refine ⟨y', o', x1 :: ys, fr', st', k1, k2, k3, k4, by omega, by simp [k6, h6], by simpa using k7, fun z hz => ?_⟩
          rcases List.mem_cons.1 hz with rfl | hz
          · exact h7
          · exact k8 z hz
        · cases h
      · simp only [lst, hR] at h
        split at h
        · cases h
        · rename_i hr2
          cases h
          exact ih.2 _ hr2

theorem step37 : RStep (.loop [0, 5, 7, 8] s60b0) 1 gi id (fun _ => True) num := by
  intro i n x out l xs st hi hn hxs hx hb hlen hA
  obtain ⟨ok, er⟩ := ref35 hx hb hlen st
  have h1 : (i : Int) < n := by omega
  have hw : IntKind.wrap .i64 ((i : Int) + 1) = ((i + 1 : Nat) : Int) := by rw [wrap_i64 (by omega) (by omega)]; omega
  refine ⟨fun a r h => ?_, fun e h => ?_⟩
  · obtain ⟨v, y, c1, c2, c3, c4, rfl⟩ := ok _ _ h
    obtain ⟨o, st', hap, hB, _⟩ := app_append (bytes := 8) hA (y := .sl [.v (.int .i64 a)] 1 .full) (ds := [.v (.int .i64 a)]) (m := 1) (.sl (by simp) (by simp)) (by omega) (by simp only [most47]; omega) (by omega)
    refine ⟨y, o, a, st', ?_, c2, c3, c4, by simpa [gi] using hB, rfl, trivial⟩
    rw [runL_loop]
    generalize hL : SCode.loop [0, 5, 7, 8] s60b0 = L
    simp only [s60b0, rfr]
    simp [h1, c1, hap, hw]
    subst hL
    refine loop_from ?_
    simp
  · obtain ⟨h0, c1⟩ := er _ h
    refine ⟨h0, st, ?_⟩
    rw [runL_loop]
    simp only [s60b0, rfr]
    simp [h1, c1, h0]

theorem stop37 (n : Nat) (x out : AV) (st : St) : ∃ fr', runL T (.loop [0, 5, 7, 8] s60b0) (rfr x n out n) st = some (.ex 0, fr', st) ∧ fr'.only [0, 7] = { s := [(0, x), (7, out)], d := [] } := by
  refine ⟨?s, ?a, ?b⟩
  case a =>
    rw [runL_loop]
    simp [s60b0, rfr]
    rfl
  case b => simp

theorem ref37 : Pub 60 (lists num) fInts (.v (.slice none 0 0)) := by
  intro x l hx hb hlen st
  obtain ⟨x', hx1, hx2, _⟩ := hx.exps
  obtain ⟨ok, er⟩ := ref79 hx2 hb hlen .mt
  rw [call_plain T60 rfl rfl (expA_cons (hx1 st) rfl)]
  have main : ∀ n m, lenR l = .ok (n, m) → ∃ y, callL T 79 [x'] .mt = some (.ret (.tup [.v (.int .i64 n), y, .v (.int .i64 0)]), .mt) ∧ m.length ≤ l.length ∧
      (∀ zs r, lst num n.toNat m = .ok (zs, r) → ∃ v u w st', (∃ fr', (∀ fr : Fr, fr.only [0, 5, 7, 8] = { s := [(0, y), (5, .v (.int .i64 n)), (7, .v (.slice none 0 0)), (8, .v (.int .i64 0))], d := [] } → runL T (.loop [0, 5, 7, 8] s60b0) fr .mt = some (.ex 0, fr', st')) ∧ fr'.only [0, 7] = { s := [(0, u), (7, v)], d := [] }) ∧ IsB u r ∧ Byt r ∧ r.length ≤ m.length ∧ (∀ s, exp1 s v = some (w, s)) ∧ fInts zs w) ∧
      (∀ e, lst num n.toNat m = .error e → e ≠ 0 ∧ ∃ st', (∀ fr : Fr, fr.only [0, 5, 7, 8] = { s := [(0, y), (5, .v (.int .i64 n)), (7, .v (.slice none 0 0)), (8, .v (.int .i64 0))], d := [] } → runL T (.loop [0, 5, 7, 8] s60b0) fr .mt = some (.rt, { s := [(2, .v (.slice none 0 0)), (3, .v (.slice none 0 0)), (4, .v (.int .i64 e))], d := [] }, st'))) := by
    intro n m hn
    obtain ⟨v, y, h1, h2, h3, h4, rfl⟩ := ok _ _ hn
    obtain ⟨hnum, hle⟩ := lenR_ok hn
    obtain ⟨h0, _⟩ := num_ok hb hnum
    have e1 : ((n.toNat : Nat) : Int) = n := by omega
    have L := refList step37 stop37 n.toNat (by omega) n.toNat 0 y (.v (.slice none 0 0)) m [] .mt (Nat.zero_add _) rfl (by simp) h2 h3 (by omega) .nil
    rw [e1] at L
    refine ⟨y, h1, h4, fun zs r h => ?_, fun e h => ?_⟩
    · obtain ⟨u, v, ys, fr', st', k1, k2, k3, k4, k5, k6, k7, k8⟩ := L.1 _ _ h
      obtain ⟨w, hw1, hw2⟩ := oInts st' zs v ⟨ys, k6, by simpa using k7, k8⟩
      exact ⟨v, u, w, st', ⟨fr', fun fr hfr => loop_use k1 fr (by rw [hfr]; simp [rfr]), k2⟩, k3, k4, k5, hw1, hw2⟩
    · obtain ⟨he, st', k1⟩ := L.2 _ h
      exact ⟨he, st', fun fr hfr => loop_use k1 fr (by rw [hfr]; simp [rfr])⟩
  refine ⟨fun zs r h => ?_, fun e h => ?_⟩
  · obtain ⟨n, m, hn, hl⟩ := lists_ok h
    obtain ⟨y, h1, h2, h3, _⟩ := main n m hn
    obtain ⟨v, u, w, st', ⟨fr', k1, k2⟩, k3, k4, k5, k6, k7⟩ := h3 _ _ hl
    obtain ⟨u', hu1, hu2, _⟩ := k3.exps
    refine ⟨w, u', ?_, hu2, k4, by omega, k7⟩
    simp [inner_eq, s60, h1]
    rw [k1 _ (by simp)]
    simp [k2, dropped, expR, expA, k6, hu1]
  · rcases lists_err h with hn | ⟨n, m, hn, hl⟩
    · obtain ⟨h0, h1⟩ := er _ hn
      refine ⟨h0, ?_⟩
      simp [inner_eq, s60, h1, h0, dropped, expR, expA]
    · obtain ⟨y, h1, h2, _, h3⟩ := main n m hn
      obtain ⟨he, st', k1⟩ := h3 _ hl
      refine ⟨he, ?_⟩
      simp [inner_eq, s60, h1]
      rw [k1 _ (by simp)]
      simp [dropped, expR, expA]

theorem step41 : RStep (.loop [0, 5, 7, 8] s55b0) 2 gx id (fun _ => True) pairR := by
  intro i n x out l xs st hi hn hxs hx hb hlen hA
  obtain ⟨ok, er⟩ := ref35 hx hb hlen st
  have h1 : (i : Int) < n := by omega
  have hw : IntKind.wrap .i64 ((i : Int) + 1) = ((i + 1 : Nat) : Int) := by rw [wrap_i64 (by omega) (by omega)]; omega
  refine ⟨fun p r h => ?_, fun e h => ?_⟩
  · obtain ⟨m, hn1, hn2⟩ := pairR_ok h
    obtain ⟨v, y, c1, c2, c3, c4, rfl⟩ := ok _ _ hn1
    obtain ⟨v, z, d1, d2, d3, d4, rfl⟩ := (ref35 c2 c3 (by omega) st).1 _ _ hn2
    obtain ⟨o, st', hap, hB, _⟩ := app_append (bytes := 16) hA (y := .sl [.v (.int .i64 p.1), .v (.int .i64 p.2)] 1 .full) (ds := gx p) (m := 1) (.sl (by simp) rfl) (by omega) (by simp only [most47]; omega) (by omega)
    refine ⟨z, o, p, st', ?_, d2, d3, by omega, by simpa using hB, rfl, trivial⟩
    rw [runL_loop]
    generalize hL : SCode.loop [0, 5, 7, 8] s55b0 = L
    simp only [s55b0, rfr]
    simp [h1, c1, d1, hap, hw]
    subst hL
    refine loop_from ?_
    simp
  · rcases pairR_err h with hn1 | ⟨a, m, hn1, hn2⟩
    · obtain ⟨h0, c1⟩ := er _ hn1
      refine ⟨h0, st, ?_⟩
      rw [runL_loop]
      simp only [s55b0, rfr]
      simp [h1, c1, h0]
    · obtain ⟨v, y, c1, c2, c3, c4, rfl⟩ := ok _ _ hn1
      obtain ⟨h0, d1⟩ := (ref35 c2 c3 (by omega) st).2 _ hn2
      refine ⟨h0, st, ?_⟩
      rw [runL_loop]
      simp only [s55b0, rfr]
      simp [h1, c1, d1, h0]

theorem stop41 (n : Nat) (x out : AV) (st : St) : ∃ fr', runL T (.loop [0, 5, 7, 8] s55b0) (rfr x n out n) st = some (.ex 0, fr', st) ∧ fr'.only [0, 7] = { s := [(0, x), (7, out)], d := [] } := by
  refine ⟨?s, ?a, ?b⟩
  case a =>
    rw [runL_loop]
    simp [s55b0, rfr]
    rfl
  case b => simp

theorem ref41 : Pub 55 (lists pairR) fExts (.v (.slice none 0 0)) := by
  intro x l hx hb hlen st
  obtain ⟨x', hx1, hx2, _⟩ := hx.exps
  obtain ⟨ok, er⟩ := ref79 hx2 hb hlen .mt
  rw [call_plain T55 rfl rfl (expA_cons (hx1 st) rfl)]
  have main : ∀ n m, lenR l = .ok (n, m) → ∃ y, callL T 79 [x'] .mt = some (.ret (.tup [.v (.int .i64 n), y, .v (.int .i64 0)]), .mt) ∧ m.length ≤ l.length ∧
      (∀ zs r, lst pairR n.toNat m = .ok (zs, r) → ∃ v u w st', (∃ fr', (∀ fr : Fr, fr.only [0, 5, 7, 8] = { s := [(0, y), (5, .v (.int .i64 n)), (7, .v (.slice none 0 0)), (8, .v (.int .i64 0))], d := [] } → runL T (.loop [0, 5, 7, 8] s55b0) fr .mt = some (.ex 0, fr', st')) ∧ fr'.only [0, 7] = { s := [(0, u), (7, v)], d := [] }) ∧ IsB u r ∧ Byt r ∧ r.length ≤ m.length ∧ (∀ s, exp1 s v = some (w, s)) ∧ fExts zs w) ∧
      (∀ e, lst pairR n.toNat m = .error e → e ≠ 0 ∧ ∃ st', (∀ fr : Fr, fr.only [0, 5, 7, 8] = { s := [(0, y), (5, .v (.int .i64 n)), (7, .v (.slice none 0 0)), (8, .v (.int .i64 0))], d := [] } → runL T (.loop [0, 5, 7, 8] s55b0) fr .mt = some (.rt, { s := [(2, .v (.slice none 0 0)), (3, .v (.slice none 0 0)), (4, .v (.int .i64 e))], d := [] }, st'))) := by
    intro n m hn
    obtain ⟨v, y, h1, h2, h3, h4, rfl⟩ := ok _ _ hn
    obtain ⟨hnum, hle⟩ := lenR_ok hn
    obtain ⟨h0, _⟩ := num_ok hb hnum
    have e1 : ((n.toNat : Nat) : Int) = n := by omega
    have L := refList step41 stop41 n.toNat (by omega) n.toNat 0 y (.v (.slice none 0 0)) m [] .mt (Nat.zero_add _) rfl (by simp) h2 h3 (by omega) .nil
    rw [e1] at L
    refine ⟨y, h1, h4, fun zs r h => ?_, fun e h => ?_⟩
    · obtain ⟨u, v, ys, fr', st', k1, k2, k3, k4, k5, k6, k7, k8⟩ := L.1 _ _ h
      obtain ⟨w, hw1, hw2⟩ := oExts st' zs v ⟨ys, k6, by simpa using k7, k8⟩
      exact ⟨v, u, w, st', ⟨fr', fun fr hfr => loop_use k1 fr (by rw [hfr]; simp [rfr]), k2⟩, k3, k4, k5, hw1, hw2⟩
    · obtain ⟨he, st', k1⟩ := L.2 _ h
      exact ⟨he, st', fun fr hfr => loop_use k1 fr (by rw [hfr]; simp [rfr])⟩
  refine ⟨fun zs r h => ?_, fun e h => ?_⟩
  · obtain ⟨n, m, hn, hl⟩ := lists_ok h
    obtain ⟨y, h1, h2, h3, _⟩ := main n m hn
    obtain ⟨v, u, w, st', ⟨fr', k1, k2⟩, k3, k4, k5, k6, k7⟩ := h3 _ _ hl
    obtain ⟨u', hu1, hu2, _⟩ := k3.exps
    refine ⟨w, u', ?_, hu2, k4, by omega, k7⟩
    simp [inner_eq, s55, h1]
    rw [k1 _ (by simp)]
    simp [k2, dropped, expR, expA, k6, hu1]
  · rcases lists_err h with hn | ⟨n, m, hn, hl⟩
    · obtain ⟨h0, h1⟩ := er _ hn
      refine ⟨h0, ?_⟩
      simp [inner_eq, s55, h1, h0, dropped, expR, expA]
    · obtain ⟨y, h1, h2, _, h3⟩ := main n m hn
      obtain ⟨he, st', k1⟩ := h3 _ hl
      refine ⟨he, ?_⟩
      simp [inner_eq, s55, h1]
      rw [k1 _ (by simp)]
      simp [dropped, expR, expA]

end VS
end Go.Proofs.Ytkhekmmldnjenaa
/- Arguments of the laws of this seat. -/
namespace Go.Proofs.Ytkhekmmldnjenaa
open Go.ChangeShapes Go.WideShapes Go.ChangeAt Go.RowKit
theorem Try.own : ownKnob Try.prog.godebug = none := by kernel_rfl
theorem Try.laidOut : laidOutB Try.prog = true := by kernel_rfl

namespace VS

theorem len1 {α : Type} : ∀ {l : List α}, l.length = 1 → ∃ a, l = [a]
  | [a], _ => ⟨a, rfl⟩
theorem len2 {α : Type} : ∀ {l : List α}, l.length = 2 → ∃ a b, l = [a, b]
  | [a, b], _ => ⟨a, b, rfl⟩
theorem len3 {α : Type} : ∀ {l : List α}, l.length = 3 → ∃ a b c, l = [a, b, c]
  | [a, b, c], _ => ⟨a, b, c, rfl⟩

theorem trodAll_len {H : Type} {enc : TypeId × Value → H} {P : Program} {w : World} {base : Nat} {sp : Nat → Bool} {held : Bool} : ∀ {ts : List TypeId} {vs : List Value} {ds : List (DataW H)} {ps : List MemPlace}, DataW.TrodAll enc P w base sp held ts vs ds ps → ds.length = ts.length
  | [], vs, ds, ps, h => by obtain ⟨_, rfl, _⟩ := trodAll_nil h; rfl
  | t :: ts, vs, ds, ps, h => by
    obtain ⟨v, vs', d, ds', p, q, _, rfl, _, _, h2⟩ := trodAll_cons h
    simp [trodAll_len h2]

theorem fit_bytes {a : AV} (h : FitA (.one (.list [.int .u8])) a) : ∃ l, IsB a l ∧ Byt l := by
  cases h with
  | one h =>
    cases h with
    | nil => exact ⟨[], .nil, fun b hb => by simp at hb⟩
    | list h =>
      obtain ⟨l, rfl, rfl, hl⟩ := fitN_nums h
      refine ⟨l, .sl (by simp), fun b hb => ?_⟩
      have := hl b hb
      simp only [IntKind.min, IntKind.max, IntKind.signed, IntKind.bits] at this
      simp at this
      omega

theorem fit_ints {a : AV} (h : Fit (.list [.int .i64]) a) : ∃ ns, IsL 1 a (ints ns) ns.length := by
  cases h with
  | nil => exact ⟨[], .nil⟩
  | list h =>
    obtain ⟨l, rfl, rfl, _⟩ := fitN_nums h
    exact ⟨l, .sl (by simp) (by simp)⟩

end VS
end Go.Proofs.Ytkhekmmldnjenaa
/- The values of a law, read from the row. -/
namespace Go.Proofs.Ytkhekmmldnjenaa
namespace VS

def sec8 : List Sh := List.replicate 8 (.int .u8)
def valsSh : List Sh := [.list [.int .i64], .list sec8, .list [.int .i64, .int .i64], .list [.int .i64, .int .i64, .list sec8]]

theorem byte_of {b : Int} (h : (Lit.int .u8 b).wf = true) : 0 ≤ b ∧ b < 256 := by
  simp only [Lit.wf, IntKind.min, IntKind.max, IntKind.signed, IntKind.bits] at h
  simp at h
  omega

theorem fit_rep : ∀ {k : Nat} {a : List AV}, FitL (List.replicate k (.int .u8)) a → ∃ s, a = bys s ∧ s.length = k ∧ Byt s
  | 0, _, .nil => ⟨[], rfl, rfl, fun b hb => by simp at hb⟩
  | k + 1, _, .cons (.int (n := x) hw) h => by
    obtain ⟨s, rfl, rfl, hs⟩ := fit_rep h
    refine ⟨x :: s, rfl, rfl, fun b hb => ?_⟩
    rcases List.mem_cons.1 hb with rfl | hb
    · exact byte_of hw
    · exact hs b hb

theorem fitN_sec : ∀ {n : Nat} {cs : List AV}, FitN sec8 n cs → ∃ ss : List (List Int), cs = ss.flatMap bys ∧ ss.length = n ∧ ∀ s ∈ ss, Sec s
  | _, _, .nil => ⟨[], rfl, rfl, by simp⟩
  | _, _, .cons h1 h2 => by
    obtain ⟨s, rfl, h8, hb⟩ := fit_rep h1
    obtain ⟨ss, rfl, rfl, hs⟩ := fitN_sec h2
    refine ⟨s :: ss, rfl, rfl, fun y hy => ?_⟩
    rcases List.mem_cons.1 hy with rfl | hy
    · exact ⟨h8, hb⟩
    · exact hs y hy

theorem fit_secs {a : AV} (h : Fit (.list sec8) a) : ∃ ss : List (List Int), IsL 8 a (ss.flatMap bys) ss.length ∧ ∀ s ∈ ss, Sec s := by
  cases h with
  | nil => exact ⟨[], .nil, by simp⟩
  | list h =>
    obtain ⟨ss, rfl, rfl, hs⟩ := fitN_sec h
    exact ⟨ss, .sl (by simp) (flat_sec hs).len, hs⟩

theorem fitN_ext : ∀ {n : Nat} {cs : List AV}, FitN [.int .i64, .int .i64] n cs → ∃ xs : List (Int × Int), cs = xs.flatMap gx ∧ xs.length = n
  | _, _, .nil => ⟨[], rfl, rfl⟩
  | _, _, .cons (.cons (.int (n := x) _) (.cons (.int (n := y) _) .nil)) h => by
    obtain ⟨l, rfl, rfl⟩ := fitN_ext h
    exact ⟨(x, y) :: l, rfl, rfl⟩

theorem fit_exts {a : AV} (h : Fit (.list [.int .i64, .int .i64]) a) : ∃ xs : List (Int × Int), IsL 2 a (xs.flatMap gx) xs.length := by
  cases h with
  | nil => exact ⟨[], .nil⟩
  | list h =>
    obtain ⟨xs, rfl, rfl⟩ := fitN_ext h
    exact ⟨xs, .sl (by simp) (flat_ext xs).len⟩

theorem fitN_wr : ∀ {n : Nat} {cs : List AV}, FitN [.int .i64, .int .i64, .list sec8] n cs → ∃ ws : List Wr, cs = ws.flatMap gw ∧ ws.length = n ∧ ∀ w ∈ ws, w.Fit
  | _, _, .nil => ⟨[], rfl, rfl, by simp⟩
  | _, _, .cons (.cons (.int (n := x) _) (.cons (.int (n := y) _) (.cons (a := a) h0 .nil))) h => by
    obtain ⟨l, rfl, rfl, hl⟩ := fitN_wr h
    obtain ⟨ss, h1, h2⟩ := fit_secs h0
    refine ⟨⟨x, y, a, ss⟩ :: l, rfl, rfl, fun w hw => ?_⟩
    rcases List.mem_cons.1 hw with rfl | hw
    · exact ⟨h1, h2⟩
    · exact hl w hw

theorem fit_wrs {a : AV} (h : Fit (.list [.int .i64, .int .i64, .list sec8]) a) : ∃ ws : List Wr, IsL 3 a (ws.flatMap gw) ws.length ∧ ∀ w ∈ ws, w.Fit := by
  cases h with
  | nil => exact ⟨[], .nil, by simp⟩
  | list h =>
    obtain ⟨ws, rfl, rfl, hs⟩ := fitN_wr h
    exact ⟨ws, .sl (by simp) (flat_wr ws).len, hs⟩

theorem exp0_clean {st : St} {a b : AV} (h : clean1 a = some b) : exp0 st a = some (b, st) := by
  unfold exp0
  split
  · simp [clean1] at h
  · rw [h]

theorem fit_vals {x : AV} (h : FitA (.agg valsSh) x) : ∃ a b c d ns ss xs ws, x = .agg [a, b, c, d] ∧ Vals a b c d ns ss xs ws := by
  cases h with
  | agg h =>
    cases h with
    | @cons _ _ a _ h0 h => cases h with
      | @cons _ _ b _ h1 h => cases h with
        | @cons _ _ c _ h2 h => cases h with
          | @cons _ _ d _ h3 h =>
            cases h
            obtain ⟨ns, k0⟩ := fit_ints h0
            obtain ⟨ss, k1, k1'⟩ := fit_secs h1
            obtain ⟨xs, k2⟩ := fit_exts h2
            obtain ⟨ws, k3, k3'⟩ := fit_wrs h3
            refine ⟨a, b, c, d, ns, ss, xs, ws, rfl, ⟨fun st => ?_, k0, k1, k1', k2, k3, k3'⟩⟩
            exact expL_cons (exp0_clean h0.clean.1) (expL_cons (exp0_clean h1.clean.1) (expL_cons (exp0_clean h2.clean.1) (expL_cons (exp0_clean h3.clean.1) rfl)))

theorem fit_int {a : AV} {k : IntKind} (h : FitA (.one (.int k)) a) : ∃ n, a = .v (.int k n) ∧ k.min ≤ n ∧ n ≤ k.max := by
  cases h with
  | one h => cases h with
    | int hw => exact ⟨_, rfl, by simpa [Lit.wf] using hw⟩

end VS
end Go.Proofs.Ytkhekmmldnjenaa
