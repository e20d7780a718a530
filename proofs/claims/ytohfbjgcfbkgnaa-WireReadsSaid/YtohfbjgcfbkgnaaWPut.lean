/- What putInt and its like compute. -/
import Derived.Test.YtohfbjgcfbkgnaaWAwake
namespace Go.Proofs.Ytohfbjgcfbkgnaa
namespace VS

def bys (l : List Int) : List AV := l.map fun b => .v (.int .u8 b)
@[simp] theorem bys_length (l : List Int) : (bys l).length = l.length := by simp [bys]
@[simp] theorem bys_nil : bys [] = [] := rfl
theorem bys_append (l m : List Int) : bys (l ++ m) = bys l ++ bys m := by simp [bys]

/-- The encoding of a number, groups of 7 digits; 'k' more groups at most. -/
def encF : Nat → Int → List Int
  | 0, n => [n]
  | k + 1, n => if n < 128 then [n] else (n % 128 + 128) :: encF k (n / 128)

def norm (n : Int) : Int := if n < 0 ∨ 9007199254740991 < n then 0 else n
def enc (n : Int) : List Int := encF 8 (norm n)

theorem putLoop (k : Nat) : ∀ (n : Int) (x : AV) (cs : List AV) (m : Nat) (st : St), App st 1 x cs m → 0 ≤ n → n < 128 ^ (k + 1) → k ≤ 8 → m + k ≤ 1099511627776 →
    ∃ y c l st', runL T (.loop [0, 1] s51b0) { s := [(0, x), (1, .v (.int .i64 n))], d := [] } st = some (.ex 0, { s := [(0, y), (1, .v (.int .i64 c)), (12, .v (.bool false))], d := [] }, st') ∧
      encF k n = l ++ [c] ∧ 0 ≤ c ∧ c < 128 ∧ App st' 1 y (cs ++ bys l) (m + l.length) ∧ st'.H = st.H := by
  induction k with
  | zero =>
    intro n x cs m st hx h0 h1 hk hm
    refine ⟨x, n, [], st, ?_, by simp [encF], h0, by simpa using h1, by simpa using hx, rfl⟩
    rw [runL_loop]
    have : ¬ (128 ≤ n) := by omega
    simp [s51b0, this]
  | succ k ih =>
    intro n x cs m st hx h0 h1 hk hm
    by_cases hn : n < 128
    · refine ⟨x, n, [], st, ?_, by simp [encF, hn], h0, hn, by simpa using hx, rfl⟩
      rw [runL_loop]
      have : ¬ (128 ≤ n) := by omega
      simp [s51b0, this]
    · have hge : 128 ≤ n := by omega
      have h2 : Int.tmod n 128 = n % 128 := Int.tmod_eq_emod_of_nonneg h0
      have h3 : IntKind.wrap .u8 (n % 128) = n % 128 := by rw [wrap_u8]; omega
      have h4 : orI .u8 (n % 128) 128 = n % 128 + 128 := orI_u8_128 (by omega) (by omega)
      obtain ⟨z, st1, happ, hA, hH⟩ := app_append (bytes := 1) hx (y := .sl [.v (.int .u8 (n % 128 + 128))] 1 .full) (ds := [.v (.int .u8 (n % 128 + 128))]) (m := 1) (.sl (by simp) (by simp)) (by omega) (by simp only [most47]; omega) (by omega)
      have hq : Int.tdiv n 128 = n / 128 := Int.tdiv_eq_ediv_of_nonneg h0
      have hqw : IntKind.wrap .i64 (n / 128) = n / 128 := wrap_i64 (by omega) (by
        have : (128 : Int) ^ (k + 1 + 1) ≤ 128 ^ 9 := by exact_mod_cast Nat.pow_le_pow_right (by omega : 0 < 128) (by omega)
        omega)
      have hlt : n / 128 < 128 ^ (k + 1) := by
        have : (128 : Int) ^ (k + 1 + 1) = 128 ^ (k + 1) * 128 := by rw [Int.pow_succ]
        omega
      obtain ⟨y, c, l, st', hr, he, h5, h6, h7, h8⟩ := ih (n / 128) z _ (m + 1) st1 hA (by omega) hlt (by omega) (by omega)
      refine ⟨y, c, (n % 128 + 128) :: l, st', ?_, by simp [encF, hn, he], h5, h6, ?_, h8.trans hH⟩
      · rw [runL_loop]
        generalize hL : SCode.loop [0, 1] s51b0 = L
        simp [s51b0, hge, h2, h3, h4, happ, hq, hqw]
        subst hL
        exact (loop_from (by simp)).trans hr
      · have : cs ++ bys ((n % 128 + 128) :: l) = cs ++ [.v (.int .u8 (n % 128 + 128))] ++ bys l := by simp [bys]
        rw [this]
        simpa [Nat.add_assoc, Nat.add_comm 1] using h7
theorem norm_in (n : Int) : 0 ≤ norm n ∧ norm n < 128 ^ 9 := by unfold norm; split <;> omega

theorem encF_length : ∀ (k : Nat) (n : Int), 1 ≤ (encF k n).length ∧ (encF k n).length ≤ k + 1
  | 0, n => by simp [encF]
  | k + 1, n => by
    have := encF_length k (n / 128)
    simp only [encF]
    split <;> simp <;> omega

theorem enc_length (n : Int) : 1 ≤ (enc n).length ∧ (enc n).length ≤ 9 := encF_length 8 _

/-- wire.putInt -/
theorem putInt {st : St} {x : AV} {cs : List AV} {m : Nat} (n : Int) (hx : App st 1 x cs m) (hm : m ≤ 549755813888) :
    ∃ y st', callL T 51 [x, .v (.int .i64 n)] st = some (.ret y, st') ∧ App st' 1 y (cs ++ bys (enc n)) (m + (enc n).length) ∧ st'.H = st.H := by
  have hn := norm_in n
  obtain ⟨y, c, l, st1, hr, he, h0, h1, hA, hH⟩ := putLoop 8 (norm n) x cs m st hx hn.1 hn.2 (by omega) (by omega)
  have hl : l.length ≤ 8 := by
    have := (encF_length 8 (norm n)).2
    rw [he] at this; simp at this; exact this
  obtain ⟨z, st2, happ, hA2, hH2⟩ := app_append (bytes := 1) hA (y := .sl [.v (.int .u8 c)] 1 .full) (ds := [.v (.int .u8 c)]) (m := 1) (.sl (by simp) (by simp)) (by omega) (by simp only [most47]; omega) (by omega)
  refine ⟨z, st2, ?_, ?_, hH2.trans hH⟩
  · rw [call_whole T51 (.inr rfl) rfl]
    have hu := loop_use hr
    have hw : IntKind.wrap .u8 c = c := by rw [wrap_u8]; omega
    unfold norm at hu
    by_cases hlt : n < 0
    · simp [inner_eq, s51, hlt]
      rw [hu _ (by simp [hlt])]
      simp [happ, hw]
    · by_cases hgt : 9007199254740991 < n
      · simp [inner_eq, s51, hlt, hgt]
        rw [hu _ (by simp [hgt])]
        simp [happ, hw]
      · simp [inner_eq, s51, hlt, hgt]
        rw [hu _ (by simp [hlt, hgt])]
        simp [happ, hw]
  · have : enc n = l ++ [c] := he
    rw [this, bys_append, ← List.append_assoc]
    simpa [bys, Nat.add_assoc] using hA2
end VS
end Go.Proofs.Ytohfbjgcfbkgnaa
