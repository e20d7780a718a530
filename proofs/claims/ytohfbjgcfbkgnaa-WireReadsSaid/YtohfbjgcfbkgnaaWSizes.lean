/- WireSizes. -/
import Derived.Test.YtohfbjgcfbkgnaaWEqual
namespace Go.Proofs.Ytohfbjgcfbkgnaa
namespace VS

def cnt : Nat → Int → Nat
  | 0, _ => 0
  | k + 1, x => if 0 < x then 1 + cnt k (x / 128) else 0

theorem cnt_len : ∀ (k : Nat) (n : Int), 0 ≤ n → n < 128 ^ (k + 1) → 1 + cnt k (n / 128) = (encF k n).length
  | 0, n, _, _ => by simp [cnt, encF]
  | k + 1, n, h0, h1 => by
    simp only [cnt, encF]
    by_cases h : n < 128
    · have : ¬ 0 < n / 128 := by omega
      simp [h, this]
    · have h2 : 0 < n / 128 := by omega
      have h3 : n / 128 < 128 ^ (k + 1) := by
        have : (128 : Int) ^ (k + 1 + 1) = 128 ^ (k + 1) * 128 := by rw [Int.pow_succ]
        omega
      have := cnt_len k (n / 128) (by omega) h3
      simp [h, h2]; omega

theorem shr7 (x : Int) : shrI .i64 x 7 = x / 128 := by
  simp only [shrI]
  have : (2 : Int) ^ (min (Int.toNat 7) IntKind.i64.bits) = 128 := by decide
  rw [this, Int.fdiv_eq_ediv_of_nonneg _ (by omega)]

theorem szLoop (n m a b : AV) (st : St) : ∀ (k : Nat) (x : Int) (g : Int), 0 ≤ x → x < 128 ^ k → k ≤ 9 → 0 ≤ g → g + k ≤ 1000 →
    runL T (.loop [0, 1, 5, 6, 7, 8] s3b0) { s := [(0, n), (1, m), (5, a), (6, b), (7, .v (.int .i64 g)), (8, .v (.int .i64 x))], d := [] } st =
      some (.ex 0, { s := [(0, n), (1, m), (5, a), (6, b), (7, .v (.int .i64 (g + cnt k x))), (8, .v (.int .i64 0)), (30, .v (.bool false))], d := [] }, st)
  | 0, x, g, h0, h1, _, _, _ => by
    have hx : x = 0 := by simp at h1; omega
    subst hx
    rw [runL_loop]
    simp [s3b0, cnt]
  | k + 1, x, g, h0, h1, hk, hg, hgk => by
    by_cases hx : 0 < x
    · have hw : IntKind.wrap .i64 (g + 1) = g + 1 := wrap_i64 (by omega) (by omega)
      have ih := szLoop n m a b st k (x / 128) (g + 1) (by omega) (by
        have : (128 : Int) ^ (k + 1) = 128 ^ k * 128 := by rw [Int.pow_succ]
        omega) (by omega) (by omega) (by omega)
      rw [runL_loop]
      generalize hL : SCode.loop [0, 1, 5, 6, 7, 8] s3b0 = L
      simp [s3b0, hx, hw, shr7]
      subst hL
      refine (loop_from (by simp)).trans (ih.trans ?_)
      have : g + 1 + (cnt k (x / 128) : Int) = g + (cnt (k + 1) x : Int) := by simp only [cnt, if_pos hx]; omega
      rw [this]
    · have hx : x = 0 := by omega
      subst hx
      rw [runL_loop]
      simp [s3b0, cnt]

theorem encF_mono : ∀ (k : Nat) (n m : Int), 0 ≤ n → n ≤ m → (encF k n).length ≤ (encF k m).length
  | 0, _, _, _, _ => by simp [encF]
  | k + 1, n, m, h0, h => by
    have := encF_mono k (n / 128) (m / 128) (by omega) (by omega)
    simp only [encF]
    by_cases h1 : n < 128
    · have := (encF_length (k + 1) m).1
      simp only [encF] at this
      simpa [h1] using this
    · have : ¬ m < 128 := by omega
      simp [h1, this]; assumption

theorem encF_inj : ∀ (k : Nat) (n m : Int), 0 ≤ n → 0 ≤ m → encF k n = encF k m → n = m
  | 0, n, m, _, _, h => by simpa [encF] using h
  | k + 1, n, m, h0, h1, h => by
    simp only [encF] at h
    by_cases hn : n < 128 <;> by_cases hm : m < 128
    · simpa [hn, hm] using h
    · simp [hn, hm] at h; omega
    · simp [hn, hm] at h; omega
    · simp [hn, hm] at h
      have := encF_inj k (n / 128) (m / 128) (by omega) (by omega) h.2
      omega

theorem encF_byt : ∀ (k : Nat) (n : Int), 0 ≤ n → n < 128 ^ (k + 1) → Byt (encF k n)
  | 0, n, h0, h1 => by intro b hb; simp [encF] at hb; subst hb; simp at h1; omega
  | k + 1, n, h0, h1 => by
    have h2 : (128 : Int) ^ (k + 1 + 1) = 128 ^ (k + 1) * 128 := by rw [Int.pow_succ]
    intro b hb
    simp only [encF] at hb
    by_cases hn : n < 128
    · simp [hn] at hb; omega
    · simp [hn] at hb
      rcases hb with hb | hb
      · omega
      · exact encF_byt k (n / 128) (by omega) (by omega) b hb

theorem enc_byt (n : Int) : Byt (enc n) := encF_byt 8 _ (norm_in n).1 (norm_in n).2

theorem norm_id {n : Int} (h0 : 0 ≤ n) (h1 : n < 9007199254740992) : norm n = n := by
  unfold norm
  rw [if_neg (by omega)]

theorem App.isB {st : St} {x : AV} {l : List Int} (h : App st 1 x (bys l) l.length) : IsB x l := isB_of h.isL

set_option maxHeartbeats 1000000 in
theorem wireSizes (n m : Int) (st : St) : callL T 3 [.v (.int .i64 n), .v (.int .i64 m)] st = some (.ret (.v (.bool true)), st) := by
  rw [call_plain T3 rfl rfl rfl]
  have hout : ∀ st : St, ∃ y st', callL T 13 [.v (.slice none 0 0), .v (.int .i64 (-1))] st = some (.ret y, st') ∧ callL T 12 [y, .sl [.v (.int .u8 0)] 1 .full] st' = some (.ret (.v (.bool true)), st') := by
    intro st
    obtain ⟨y, st', h1, h2, _⟩ := PutInt (-1) (IsL.nil (sz := 1) (q := none)) (by omega) st
    simp only [List.nil_append, Nat.zero_add] at h2
    refine ⟨y, st', h1, ?_⟩
    rw [bytesEqual' h2.isB (show IsB (.sl [.v (.int .u8 0)] 1 .full) [0] from .sl (l := [0]) (by simp)) (enc_byt _) (by intro b hb; simp at hb; omega)]
    have : enc (-1) = [0] := by decide
    simp [this]
  obtain ⟨y, st', ho1, ho2⟩ := hout .mt
  by_cases hn : 0 ≤ n ∧ n < 9007199254740992
  · by_cases hm : 0 ≤ m ∧ m < 9007199254740992
    · obtain ⟨a, st1, ha, hA, _⟩ := PutInt n (IsL.nil (sz := 1) (q := none)) (by omega) .mt
      obtain ⟨b, st2, hb, hB, _⟩ := PutInt m (IsL.nil (sz := 1) (q := none)) (by omega) st1
      simp only [List.nil_append, Nat.zero_add] at hA hB
      have heq := bytesEqual' hA.isB hB.isB (enc_byt n) (enc_byt m) st2
      obtain ⟨ta, rfl, _⟩ := hA.form (enc_length n).1
      obtain ⟨tb, rfl, _⟩ := hB.form (enc_length m).1
      have hloop := loop_use (szLoop (.v (.int .i64 n)) (.v (.int .i64 m)) (.sl (bys (enc n)) (enc n).length ta) (.sl (bys (enc m)) (enc m).length tb) st2 8 (n / 128) 1 (by omega) (by omega) (by omega) (by omega) (by omega))
      have hlen := cnt_len 8 n hn.1 (by omega)
      have hen : enc n = encF 8 n := by unfold enc; rw [norm_id hn.1 hn.2]
      have hem : enc m = encF 8 m := by unfold enc; rw [norm_id hm.1 hm.2]
      simp [inner_eq, s3, inRange, hn, hm, ha, hb, shr7]
      rw [hloop _ (by simp)]
      have hgr : ((enc n).length : Int) = 1 + (cnt 8 (n / 128) : Int) := by rw [hen]; omega
      rcases Int.lt_trichotomy n m with h | h | h
      · have hle := encF_mono 8 n m hn.1 (by omega)
        rw [← hen, ← hem] at hle
        have h1 : ¬ m < n := by omega
        have h2 : ¬ n = m := by omega
        have h3 : ¬ (enc m).length < (enc n).length := by omega
        have h4 : ¬ enc n = enc m := fun e => h2 (encF_inj 8 n m hn.1 hm.1 (by rw [← hen, ← hem, e]))
        simp [h, h1, h2, h3, h4, heq, awake, dropped, expR, ← hgr]
      · subst h
        simp [heq, awake, dropped, expR, ← hgr]
      · have hle := encF_mono 8 m n hm.1 (by omega)
        rw [← hen, ← hem] at hle
        have h1 : ¬ n < m := by omega
        have h2 : ¬ n = m := by omega
        have h3 : ¬ (enc n).length < (enc m).length := by omega
        have h4 : ¬ enc n = enc m := fun e => h2 (encF_inj 8 n m hn.1 hm.1 (by rw [← hen, ← hem, e]))
        simp [h, h1, h2, h3, h4, heq, awake, dropped, expR, ← hgr]
    · simp [inner_eq, s3, inRange, hn, hm, ho1, ho2, awake, dropped, expR]
  · simp [inner_eq, s3, inRange, hn, ho1, ho2, awake, dropped, expR]

end VS
end Go.Proofs.Ytohfbjgcfbkgnaa
