/- Numbers, read: what is computed, and that the cursor's 'number' computes it. -/
import Derived.Test.YtohfbjgcfbkgnaaWFew
namespace Go.Proofs.Ytohfbjgcfbkgnaa
namespace VS

/-- A number's groups; 'k' more at most; 'i': how many were read; 'n': what they say. -/
def numS : Nat → Nat → Int → List Int → Except Int (Int × List Int)
  | 0, _, _, _ => .error 3
  | _ + 1, _, _, [] => .error 10
  | k + 1, i, n, b :: r =>
    if 128 ≤ b then numS k (i + 1) (n + b % 128 * 128 ^ i) r
    else if (b = 0 ∧ 0 < i) ∨ 9007199254740991 < n + b % 128 * 128 ^ i then .error 3
    else .ok (n + b % 128 * 128 ^ i, r)

def num (l : List Int) : Except Int (Int × List Int) := numS 8 0 0 l

theorem andI_127 {b : Int} (h0 : 0 ≤ b) (h1 : b < 256) : andI .u8 b 127 = b % 128 := by
  have h : ∀ k : Fin 256, andI .u8 (k.val : Int) 127 = k.val % 128 := by decide +kernel
  have := h ⟨b.toNat, by omega⟩
  rw [show ((⟨b.toNat, by omega⟩ : Fin 256).val : Int) = b from by simp; omega] at this
  exact this
theorem andI_128 {b : Int} (h0 : 0 ≤ b) (h1 : b < 256) : andI .u8 b 128 = if 128 ≤ b then 128 else 0 := by
  have h : ∀ k : Fin 256, andI .u8 (k.val : Int) 128 = if 128 ≤ (k.val : Int) then 128 else 0 := by decide +kernel
  have := h ⟨b.toNat, by omega⟩
  rw [show ((⟨b.toNat, by omega⟩ : Fin 256).val : Int) = b from by simp; omega] at this
  exact this

theorem orI_add {n m : Int} {k : Nat} (h0 : 0 ≤ n) (h1 : n < 2 ^ k) (h2 : 0 ≤ m) (h3 : n + m * 2 ^ k < 9223372036854775808) : orI .i64 n (m * 2 ^ k) = n + m * 2 ^ k := by
  obtain ⟨a, rfl⟩ := Int.eq_ofNat_of_zero_le h0
  obtain ⟨c, rfl⟩ := Int.eq_ofNat_of_zero_le h2
  have e1 : (c : Int) * 2 ^ k = ((c * 2 ^ k : Nat) : Int) := by push_cast; rfl
  rw [e1] at h3 ⊢
  have ha : a < 2 ^ k := by exact_mod_cast h1
  have hsum : a + c * 2 ^ k < 9223372036854775808 := by
    generalize c * 2 ^ k = d at h3 ⊢
    omega
  have key : a ||| c * 2 ^ k = a + c * 2 ^ k := by
    have := Nat.two_pow_add_eq_or_of_lt ha c
    rw [Nat.or_comm, Nat.mul_comm c, ← this, Nat.add_comm]
  unfold orI
  have hb : IntKind.i64.bits = 64 := rfl
  rw [hb]
  have e2 : (BitVec.ofInt 64 (a : Int) ||| BitVec.ofInt 64 ((c * 2 ^ k : Nat) : Int)).toNat = a + c * 2 ^ k := by
    rw [BitVec.toNat_or, BitVec.ofInt_natCast, BitVec.ofInt_natCast, BitVec.toNat_ofNat, BitVec.toNat_ofNat, Nat.mod_eq_of_lt (by omega), Nat.mod_eq_of_lt (by omega), key]
  rw [e2, wrap_i64 (by omega) (by omega)]
  push_cast; rfl

theorem pow_128 (i : Nat) : (128 : Int) ^ i = 2 ^ (7 * i) := by
  rw [Int.pow_mul]; rfl

theorem shl7 {x : Int} {i : Nat} (h0 : 0 ≤ x) (h1 : x < 128) (hi : i ≤ 7) : shlI .i64 x (7 * (i : Int)) = x * 128 ^ i := by
  unfold shlI
  have e : min (7 * (i : Int)).toNat IntKind.i64.bits = 7 * i := by
    have : (7 * (i : Int)).toNat = 7 * i := by omega
    rw [this, show IntKind.i64.bits = 64 from rfl]
    omega
  rw [e, ← pow_128]
  have hp : (128 : Int) ^ i ≤ 128 ^ 7 := by exact_mod_cast Nat.pow_le_pow_right (by omega : 0 < 128) hi
  have hp0 : (0 : Int) < 128 ^ i := Int.pow_pos (by omega)
  have h7 : (128 : Int) ^ 7 = 562949953421312 := by decide
  have hle : x * 128 ^ i ≤ 127 * 128 ^ i := Int.mul_le_mul_of_nonneg_right (by omega) (by omega)
  have hge : 0 ≤ x * 128 ^ i := Int.mul_nonneg h0 (by omega)
  exact wrap_i64 (by omega) (by omega)

theorem or7 {n x : Int} {i : Nat} (h0 : 0 ≤ n) (h1 : n < 128 ^ i) (h2 : 0 ≤ x) (h3 : x < 128) (hi : i ≤ 7) : orI .i64 n (x * 128 ^ i) = n + x * 128 ^ i := by
  have hp : (128 : Int) ^ i ≤ 128 ^ 7 := by exact_mod_cast Nat.pow_le_pow_right (by omega : 0 < 128) hi
  have h7 : (128 : Int) ^ 7 = 562949953421312 := by decide
  have hle : x * 128 ^ i ≤ 127 * 128 ^ i := Int.mul_le_mul_of_nonneg_right (by omega) (by omega)
  rw [pow_128] at *
  exact orI_add h0 h1 h2 (by omega)

theorem acc_lt {n x : Int} {i : Nat} (h0 : 0 ≤ n) (h1 : n < 128 ^ i) (h2 : 0 ≤ x) (h3 : x < 128) : 0 ≤ n + x * 128 ^ i ∧ n + x * 128 ^ i < 128 ^ (i + 1) := by
  have hp0 : (0 : Int) < 128 ^ i := Int.pow_pos (by omega)
  have hle : x * 128 ^ i ≤ 127 * 128 ^ i := Int.mul_le_mul_of_nonneg_right (by omega) (by omega)
  have hge : 0 ≤ x * 128 ^ i := Int.mul_nonneg h2 (by omega)
  rw [Int.pow_succ]
  omega

theorem IsB.form {x : AV} {l : List Int} (h : IsB x l) (hl : 0 < l.length) : ∃ t, x = .sl (bys l) l.length t ∧ t ≠ .ptrs := by
  cases h with
  | nil => simp at hl
  | sl ht => exact ⟨_, rfl, ht⟩

theorem tagCut_ne {t : Tag} {b : Bool} (h : t ≠ .ptrs) : tagCut t b ≠ .ptrs := by
  cases t <;> simp_all [tagCut] <;> split <;> simp

/-- What stands behind the first bytes. -/
theorem slice_from {x : AV} {l : List Int} (hx : IsB x l) {i : Nat} {k : IntKind} (hi : i ≤ l.length) : ∃ y, (∀ (fr : Fr) (s : SX), evX fr s = some (.v (.int k i)) → opSlice fr 1 (some s) none x = some y) ∧ IsB y (l.drop i) := by
  cases hx with
  | @nil q =>
    refine ⟨.v (.slice q 0 0), fun fr s hs => ?_, by simpa using IsB.nil⟩
    simp at hi
    subst hi
    simp [opSlice, hs]
  | @sl l t ht =>
    refine ⟨.sl (bys (l.drop i)) (l.drop i).length (tagCut t true), fun fr s hs => ?_, .sl (tagCut_ne ht)⟩
    have h1 : (i : Int) ≤ l.length := by omega
    have h2 : (List.drop i (bys l)).take (l.length - i) = bys (l.drop i) := by
      rw [List.take_of_length_le (by simp)]
      simp [bys]
    simp [opSlice, hs, h1, h2]

/-- The first bytes. -/
theorem slice_to {x : AV} {l : List Int} (hx : IsB x l) {i : Nat} {k : IntKind} (hi : i ≤ l.length) : ∃ y, (∀ (fr : Fr) (s : SX), evX fr s = some (.v (.int k i)) → opSlice fr 1 none (some s) x = some y) ∧ IsB y (l.take i) := by
  cases hx with
  | @nil q =>
    refine ⟨.v (.slice q 0 0), fun fr s hs => ?_, by simpa using IsB.nil⟩
    simp at hi
    subst hi
    simp [opSlice, hs]
  | @sl l t ht =>
    have hlen : (l.take i).length = i := by rw [List.length_take]; omega
    refine ⟨.sl (bys (l.take i)) (l.take i).length (tagCut t (i == l.length)), fun fr s hs => ?_, .sl (tagCut_ne ht)⟩
    have h1 : (i : Int) ≤ l.length := by omega
    have h2 : (bys l).take i = bys (l.take i) := by simp [bys]
    simp [opSlice, hs, h1, h2, hlen]

theorem IsB.one {x : AV} {l : List Int} (h : IsB x l) : x.isTup = false ∧ x.cells = [x] := by
  cases h <;> simp

theorem cur_store {st : St} {b : Nat} {x y : AV} (hb : st.H[b]? = some { cells := [x], fz := false }) (hy : y.isTup = false ∧ y.cells = [y]) : opStore st 1 (.ptr b 0) y = some { H := st.H.set b { cells := [y], fz := false }, F := st.F } := by
  simp [opStore, hb, hy.1, hy.2, putAt, -AV.cells, -AV.isTup]
theorem cur_load {st : St} {b : Nat} {x : AV} (hb : st.H[b]? = some { cells := [x], fz := false }) : opLoad st none (.ptr b 0) = some x := by
  simp [opLoad, hb, partOf]

def NumOut (b : Nat) (st : St) (o : Option Out) : Except Int (Int × List Int) → Prop
  | .ok (m, r) => ∃ y, IsB y r ∧ o = some (.rt, { s := [(2, .v (.int .i64 m)), (3, .v (.int .i64 0))], d := [] }, { H := st.H.set b { cells := [y], fz := false }, F := st.F })
  | .error e => o = some (.rt, { s := [(2, .v (.int .i64 0)), (3, .v (.int .i64 e))], d := [] }, st) ∨ (e = 3 ∧ ∃ fr', o = some (.ex 0, fr', st) ∧ fr'.only [] = { s := [], d := [] })

theorem numLoop61 {st : St} {b : Nat} {x : AV} {l : List Int} (hb : st.H[b]? = some { cells := [x], fz := false }) (hx : IsB x l) (hl : Byt l) (hlen : l.length ≤ 1099511627776) : ∀ (k i : Nat) (n : Int), i + k = 8 → i ≤ l.length → 0 ≤ n → n < 128 ^ i →
    NumOut b st (runL T (.loop [0, 4, 7] s61b0) { s := [(0, .ptr b 0), (4, .v (.int .i64 n)), (7, .v (.int .i64 i))], d := [] } st) (numS k i n (l.drop i))
  | 0, i, n, hi, _, _, _ => by
    have : i = 8 := by omega
    subst this
    refine .inr ⟨rfl, ?s, ?a, ?b⟩
    case a =>
      rw [runL_loop]
      simp [s61b0]
      rfl
    case b => simp
  | k + 1, i, n, hi, hil, h0, h1 => by
    have hc := cur_load hb
    have h8 : (i : Int) < 8 := by omega
    by_cases hlt : i < l.length
    · have hd : l.drop i = l[i] :: l.drop (i + 1) := List.drop_eq_getElem_cons hlt
      obtain ⟨t, rfl, ht⟩ := hx.form (by omega)
      obtain ⟨y, hy, hyl⟩ := slice_from (k := .i64) hx (i := i + 1) (by omega)
      have hst := cur_store hb hyl.one
      obtain ⟨hb0, hb1⟩ := hl l[i] (List.getElem_mem hlt)
      have hget := bys_get l i hlt
      have hge : ¬ (l.length : Int) ≤ i := by omega
      have hlti : (i : Int) < l.length := by omega
      have a1 := andI_127 hb0 hb1
      have a2 := andI_128 hb0 hb1
      have hw1 : IntKind.wrap .i64 (l[i] % 128) = l[i] % 128 := wrap_i64 (by omega) (by omega)
      have hw2 : IntKind.wrap .i64 (7 * (i : Int)) = 7 * (i : Int) := wrap_i64 (by omega) (by omega)
      have hw3 : IntKind.wrap .i64 ((i : Int) + 1) = ((i + 1 : Nat) : Int) := by rw [wrap_i64 (by omega) (by omega)]; omega
      have hs := shl7 (x := l[i] % 128) (i := i) (by omega) (by omega) (by omega)
      have ho := or7 (x := l[i] % 128) h0 h1 (by omega) (by omega) (show i ≤ 7 by omega)
      have hneg : ¬ 7 * (i : Int) < 0 := by omega
      obtain ⟨hm0, hm1⟩ := acc_lt (x := l[i] % 128) h0 h1 (by omega) (by omega)
      rw [hd]
      simp only [numS]
      generalize hmm : n + l[i] % 128 * 128 ^ i = m at *
      by_cases hbig : 128 ≤ l[i]
      · rw [if_pos hbig]
        rw [if_pos hbig] at a2
        have ih := numLoop61 hb hx hl hlen k (i + 1) m (by omega) (by omega) hm0 hm1
        have step : runL T (.loop [0, 4, 7] s61b0) { s := [(0, .ptr b 0), (4, .v (.int .i64 n)), (7, .v (.int .i64 i))], d := [] } st =
            runL T (.loop [0, 4, 7] s61b0) { s := [(0, .ptr b 0), (4, .v (.int .i64 m)), (7, .v (.int .i64 (i + 1 : Nat)))], d := [] } st := by
          rw [runL_loop]
          generalize hL : SCode.loop [0, 4, 7] s61b0 = L
          simp only [s61b0]
          simp [h8, hc, hge, hlti, opLoad_ep, hget, a1, a2, hw1, hw2, hneg, hs, ho, hw3]
          subst hL
          refine loop_from ?_
          simp
        rw [step]
        exact ih
      · rw [if_neg hbig]
        rw [if_neg hbig] at a2
        by_cases hbad : (l[i] = 0 ∧ 0 < i) ∨ 9007199254740991 < m
        · rw [if_pos hbad]
          refine .inl ?_
          rw [runL_loop]
          simp only [s61b0]
          by_cases hz : l[i] = 0
          · have hz1 := eq_true hz
            by_cases hi0 : 0 < i
            · simp [h8, hc, hge, hlti, opLoad_ep, hget, a1, a2, hw1, hw2, hneg, hs, ho, hz1, hi0]
            · have hm9 : 9007199254740991 < m := by rcases hbad with h | h <;> omega
              simp [h8, hc, hge, hlti, opLoad_ep, hget, a1, a2, hw1, hw2, hneg, hs, ho, hz1, hi0, hm9]
          · have hm9 : 9007199254740991 < m := by rcases hbad with h | h <;> omega
            simp [h8, hc, hge, hlti, opLoad_ep, hget, a1, a2, hw1, hw2, hneg, hs, ho, hz, hm9]
        · rw [if_neg hbad]
          have hm9 : ¬ 9007199254740991 < m := fun h => hbad (.inr h)
          refine ⟨y, hyl, ?_⟩
          rw [runL_loop]
          simp only [s61b0]
          by_cases hz : l[i] = 0
          · have hi0 : ¬ 0 < i := fun h => hbad (.inl ⟨hz, h⟩)
            have hz1 := eq_true hz
            simp [h8, hc, hge, hlti, opLoad_ep, hget, a1, a2, hw1, hw2, hneg, hs, ho, hz1, hi0, hm9, hw3, hy, hst]
          · simp [h8, hc, hge, hlti, opLoad_ep, hget, a1, a2, hw1, hw2, hneg, hs, ho, hz, hm9, hw3, hy, hst]
    · have hd : l.drop i = [] := List.drop_eq_nil_of_le (by omega)
      rw [hd]
      refine .inl ?_
      have hk := hx.isL.len
      have hge : (l.length : Int) ≤ i := by omega
      rw [runL_loop]
      simp only [s61b0]
      simp [h8, hc, hk, hge]

end VS
end Go.Proofs.Ytohfbjgcfbkgnaa
