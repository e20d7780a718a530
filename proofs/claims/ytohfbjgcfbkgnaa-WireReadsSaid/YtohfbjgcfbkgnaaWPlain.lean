/- The plain laws of the readers: what is put is read; what is read was put; a beginning is torn. -/
import Derived.Test.YtohfbjgcfbkgnaaWReadP
namespace Go.Proofs.Ytohfbjgcfbkgnaa
namespace VS

/-- A beginning of what is read is torn, or is read alike. -/
def Pre {α : Type} (R : List Int → Except Int (α × List Int)) : Prop := ∀ l1 l2 a r, R (l1 ++ l2) = .ok (a, r) → (∃ r1, R l1 = .ok (a, r1) ∧ r = r1 ++ l2) ∨ R l1 = .error 10

theorem numS_pre : ∀ (k i : Nat) (n : Int) (l1 l2 : List Int) (a : Int) (r : List Int), numS k i n (l1 ++ l2) = .ok (a, r) → (∃ r1, numS k i n l1 = .ok (a, r1) ∧ r = r1 ++ l2) ∨ numS k i n l1 = .error 10
  | 0, _, _, _, _, _, _, h => by simp [numS] at h
  | k + 1, i, n, [], l2, a, r, _ => .inr rfl
  | k + 1, i, n, b :: t, l2, a, r, h => by
    simp only [List.cons_append, numS] at h ⊢
    split at h
    · rename_i hb
      rw [if_pos hb]
      exact numS_pre k (i + 1) _ t l2 a r h
    · rename_i hb
      rw [if_neg hb]
      split at h
      · cases h
      · rename_i hc
        rw [if_neg hc]
        cases h
        exact .inl ⟨t, rfl, rfl⟩

theorem num_pre : Pre num := fun l1 l2 a r h => numS_pre 8 0 0 l1 l2 a r h

theorem lenR_pre : Pre lenR := by
  intro l1 l2 a r h
  obtain ⟨hn, hle⟩ := lenR_ok h
  rcases num_pre _ _ _ _ hn with ⟨r1, h1, rfl⟩ | h1
  · refine .inl ⟨r1, ?_, rfl⟩
    unfold lenR
    rw [h1]
    simp only
    rw [if_neg (by omega)]
  · exact .inr (by unfold lenR; rw [h1])

theorem pairR_pre : Pre pairR := by
  intro l1 l2 a r h
  obtain ⟨m, hn, hm⟩ := pairR_ok h
  unfold pairR
  rcases num_pre _ _ _ _ hn with ⟨r1, h1, rfl⟩ | h1
  · rw [h1]
    rcases num_pre _ _ _ _ hm with ⟨r2, h2, rfl⟩ | h2
    · exact .inl ⟨r2, by simp only [h2], rfl⟩
    · exact .inr (by simp only [h2])
  · exact .inr (by rw [h1])

theorem secR_pre : Pre secR := by
  intro l1 l2 a r h
  unfold secR at h ⊢
  split at h
  · cases h
  · cases h
    by_cases h8 : l1.length < 8
    · exact .inr (by rw [if_pos h8])
    · refine .inl ⟨l1.drop 8, ?_, ?_⟩
      · rw [if_neg h8, List.take_append_of_le_length (by omega)]
      · rw [List.drop_append_of_le_length (by omega)]

theorem lst_pre {α : Type} {R : List Int → Except Int (α × List Int)} (hR : Pre R) : ∀ (k : Nat), Pre (lst R k)
  | 0 => fun l1 l2 a r h => by
    simp only [lst, Except.ok.injEq, Prod.mk.injEq] at h ⊢
    obtain ⟨rfl, rfl⟩ := h
    exact .inl ⟨l1, ⟨rfl, rfl⟩, rfl⟩
  | k + 1 => fun l1 l2 a r h => by
    simp only [lst] at h ⊢
    split at h
    · rename_i x m hx
      split at h
      · rename_i zs r2 hz
        cases h
        rcases hR _ _ _ _ hx with ⟨m1, h1, rfl⟩ | h1
        · rw [h1]
          rcases lst_pre hR k _ _ _ _ hz with ⟨r1, h2, rfl⟩ | h2
          · exact .inl ⟨r1, by simp only [h2], rfl⟩
          · exact .inr (by simp only [h2])
        · exact .inr (by rw [h1])
      · cases h
    · cases h

theorem lists_pre {α : Type} {R : List Int → Except Int (α × List Int)} (hR : Pre R) : Pre (lists R) := by
  intro l1 l2 a r h
  obtain ⟨n, m, hn, hl⟩ := lists_ok h
  unfold lists
  rcases lenR_pre _ _ _ _ hn with ⟨m1, h1, rfl⟩ | h1
  · rw [h1]
    exact lst_pre hR _ _ _ _ _ hl
  · exact .inr (by rw [h1])

theorem wrR_pre : Pre wrR := by
  intro l1 l2 a r h
  obtain ⟨m, hn, hm⟩ := wrR_ok h
  unfold wrR
  rcases pairR_pre _ _ _ _ hn with ⟨r1, h1, rfl⟩ | h1
  · rw [h1]
    rcases lists_pre secR_pre _ _ _ _ hm with ⟨r2, h2, rfl⟩ | h2
    · exact .inl ⟨r2, by simp only [h2], rfl⟩
    · exact .inr (by simp only [h2])
  · exact .inr (by rw [h1])

/-- A proper beginning of all that is read is torn. -/
theorem torn {α : Type} {R : List Int → Except Int (α × List Int)} (hR : Pre R) {l : List Int} {a : α} (h : R l = .ok (a, [])) {k : Nat} (hk : k < l.length) : R (l.take k) = .error 10 := by
  rw [← List.take_append_drop k l] at h
  rcases hR _ _ _ _ h with ⟨r1, _, h2⟩ | h1
  · have := congrArg List.length h2
    simp at this
    omega
  · exact h1

theorem numS_back : ∀ (k i : Nat) (K : Nat) (acc n : Int) (r : List Int), k ≤ K → 0 ≤ n → n < 128 ^ (k + 1) → (0 < i → 0 < n) → acc + n * 128 ^ i ≤ 9007199254740991 → numS (k + 1) i acc (encF K n ++ r) = .ok (acc + n * 128 ^ i, r)
  | 0, i, K, acc, n, r, _, h0, h1, hi, hm => by
    have hn : n < 128 := by simpa using h1
    have he : encF K n = [n] := by cases K <;> simp [encF, hn]
    rw [he]
    have e1 : n % 128 = n := by omega
    simp only [List.cons_append, List.nil_append, numS, e1]
    rw [if_neg (by omega), if_neg (by
      rintro (⟨h, h'⟩ | h)
      · have := hi h'; omega
      · omega)]
  | k + 1, i, 0, acc, n, r, hK, _, _, _, _ => by omega
  | k + 1, i, K + 1, acc, n, r, hK, h0, h1, hi, hm => by
    by_cases hn : n < 128
    · have he : encF (K + 1) n = [n] := by simp [encF, hn]
      rw [he]
      have e1 : n % 128 = n := by omega
      simp only [List.cons_append, List.nil_append, numS, e1]
      rw [if_neg (by omega), if_neg (by
        rintro (⟨h, h'⟩ | h)
        · have := hi h'; omega
        · omega)]
    · have he : encF (K + 1) n = (n % 128 + 128) :: encF K (n / 128) := by simp [encF, hn]
      have hp : (128 : Int) ^ (k + 1 + 1) = 128 ^ (k + 1) * 128 := by rw [Int.pow_succ]
      have e2 : (n % 128 + 128) % 128 = n % 128 := by omega
      have hpow : (128 : Int) ^ (i + 1) = 128 ^ i * 128 := by rw [Int.pow_succ]
      have e3 : n % 128 * 128 ^ i + n / 128 * (128 ^ i * 128) = n * 128 ^ i := by
        have hd : n = n % 128 + 128 * (n / 128) := by omega
        generalize n % 128 = u at hd ⊢
        generalize n / 128 = v at hd ⊢
        subst hd
        rw [Int.add_mul, Int.mul_comm (128 ^ i) 128, ← Int.mul_assoc, Int.mul_comm v 128]
      have e4 : acc + n % 128 * 128 ^ i + n / 128 * 128 ^ (i + 1) = acc + n * 128 ^ i := by rw [hpow]; omega
      have ih := numS_back k (i + 1) K (acc + n % 128 * 128 ^ i) (n / 128) r (by omega) (by omega) (by omega) (by omega) (by rw [e4]; exact hm)
      rw [he, List.cons_append, numS, if_pos (by omega), e2, ih, e4]

theorem num_enc (n : Int) (r : List Int) : num (enc n ++ r) = .ok (norm n, r) := by
  have hn := norm_in n
  have hm : norm n ≤ 9007199254740991 := by unfold norm; split <;> omega
  have := numS_back 7 0 8 0 (norm n) r (by omega) hn.1 (by omega) (by omega) (by simpa using hm)
  simpa [num, enc] using this

theorem norm_nat {k : Nat} (h : k ≤ 65536) : norm (k : Int) = k := norm_id (by omega) (by omega)

theorem lenR_enc {k : Nat} (h : k ≤ 65536) (r : List Int) : lenR (enc k ++ r) = .ok ((k : Int), r) := by
  unfold lenR
  rw [num_enc, norm_nat h]
  simp only
  rw [if_neg (by omega)]

theorem pairR_ex (p : Int × Int) (r : List Int) : pairR (ex p ++ r) = .ok ((norm p.1, norm p.2), r) := by
  unfold pairR ex
  rw [List.append_assoc, num_enc]
  simp only [num_enc]

theorem secR_sec {s : List Int} (h : Sec s) (r : List Int) : secR (id s ++ r) = .ok (s, r) := by
  have h8 := h.1
  unfold secR
  rw [if_neg (by simp only [id, List.length_append]; omega)]
  simp only [id]
  rw [List.take_append_of_le_length (by omega), List.drop_append_of_le_length (by omega), List.take_of_length_le (by omega), List.drop_eq_nil_of_le (by omega), List.nil_append]

theorem lst_back {α β : Type} {R : List Int → Except Int (α × List Int)} {e : β → List Int} {f : β → α} : ∀ {l : List β} (r : List Int), (∀ x ∈ l, ∀ r, R (e x ++ r) = .ok (f x, r)) → lst R l.length (l.flatMap e ++ r) = .ok (l.map f, r)
  | [], r, _ => by simp [lst]
  | x :: t, r, h => by
    have h1 := h x (by simp) (t.flatMap e ++ r)
    have h2 := lst_back (l := t) r fun y hy => h y (by simp [hy])
    rw [List.flatMap_cons, List.append_assoc, List.length_cons, lst, h1]
    simp only [h2, List.map_cons]

theorem lists_back {α β : Type} {R : List Int → Except Int (α × List Int)} {e : β → List Int} {f : β → α} {l : List β} (hl : l.length ≤ 65536) (r : List Int) (h : ∀ x ∈ l, ∀ r, R (e x ++ r) = .ok (f x, r)) : lists R (enc l.length ++ l.flatMap e ++ r) = .ok (l.map f, r) := by
  unfold lists
  rw [List.append_assoc, lenR_enc hl]
  simp only [Int.toNat_natCast]
  exact lst_back r h

theorem secs_back {l : List (List Int)} (hs : ∀ s ∈ l, Sec s) (hl : l.length ≤ 65536) (r : List Int) : lists secR (es l ++ r) = .ok (l, r) := by
  have := lists_back (R := secR) (e := id) (f := id) hl r fun s h r => secR_sec (hs s h) r
  rw [List.map_id] at this
  exact this

theorem wrR_back {w : Wr} (h : w.Ok) (r : List Int) : wrR (ew w ++ r) = .ok (((norm w.vol, norm w.start), w.secs), r) := by
  have hf := h.few
  unfold wrR ew
  have := pairR_ex (w.vol, w.start) (es w.secs ++ r)
  simp only [ex] at this
  rw [List.append_assoc, this]
  simp only [secs_back h.sec (by omega)]

theorem numS_once : ∀ (k i K : Nat) (acc m : Int) (l r : List Int), k ≤ K → Byt l → numS k i acc l = .ok (m, r) → ∃ n, m = acc + n * 128 ^ i ∧ l = encF K n ++ r ∧ 0 ≤ n ∧ (0 < i → 0 < n)
  | 0, _, _, _, _, _, _, _, _, h => by simp [numS] at h
  | k + 1, i, K, acc, m, [], r, _, _, h => by simp [numS] at h
  | k + 1, i, 0, acc, m, b :: t, r, hK, _, _ => by omega
  | k + 1, i, K + 1, acc, m, b :: t, r, hK, hb, h => by
    obtain ⟨hb0, hb1⟩ := hb b (by simp)
    simp only [numS] at h
    split at h
    · rename_i h128
      obtain ⟨n, rfl, rfl, h0, hpos⟩ := numS_once k (i + 1) K _ m t r (by omega) (fun x hx => hb x (by simp [hx])) h
      have hp := hpos (by omega)
      refine ⟨b % 128 + 128 * n, ?_, ?_, by omega, fun _ => by omega⟩
      · rw [Int.pow_succ, Int.add_mul, Int.mul_comm (128 ^ i) 128, ← Int.mul_assoc, Int.mul_comm n 128]
        omega
      · have e1 : ¬ b % 128 + 128 * n < 128 := by omega
        have e2 : (b % 128 + 128 * n) % 128 + 128 = b := by omega
        have e3 : (b % 128 + 128 * n) / 128 = n := by omega
        rw [encF, if_neg e1, e2, e3, List.cons_append]
    · rename_i h128
      split at h
      · cases h
      · rename_i hc
        cases h
        have e1 : b % 128 = b := by omega
        refine ⟨b, by rw [e1], ?_, hb0, fun hi => ?_⟩
        · rw [encF, if_pos (by omega)]; rfl
        · rcases Int.lt_or_eq_of_le hb0 with h | h
          · exact h
          · exact absurd (.inl ⟨h.symm, hi⟩) hc

theorem num_once {l r : List Int} {n : Int} (hb : Byt l) (h : num l = .ok (n, r)) : l = enc n ++ r := by
  obtain ⟨m, rfl, hl, h0, _⟩ := numS_once 8 0 8 0 n l r (Nat.le_refl _) hb h
  obtain ⟨h1, h2, _⟩ := num_ok hb h
  have e : (0 : Int) + m * 128 ^ 0 = m := by simp
  rw [e] at h1 h2 ⊢
  rw [enc, norm_id h1 (by omega)]
  exact hl

/-- What is read was put. -/
def Once {α : Type} (R : List Int → Except Int (α × List Int)) (e : α → List Int) : Prop := ∀ l r a, Byt l → R l = .ok (a, r) → l = e a ++ r

theorem pairR_once : Once pairR ex := by
  intro l r a hb h
  obtain ⟨m, hn, hm⟩ := pairR_ok h
  have h1 := num_once hb hn
  rw [h1] at hb
  have h2 := num_once hb.right hm
  rw [h1, h2, ex, List.append_assoc]

theorem secR_once : Once secR id := by
  intro l r a _ h
  unfold secR at h
  split at h
  · cases h
  · cases h; simp

theorem lst_once {α : Type} {R : List Int → Except Int (α × List Int)} {e : α → List Int} (hR : Once R e) : ∀ (k : Nat) (l r : List Int) (zs : List α), Byt l → lst R k l = .ok (zs, r) → l = zs.flatMap e ++ r ∧ zs.length = k
  | 0, l, r, zs, _, h => by
    simp only [lst, Except.ok.injEq, Prod.mk.injEq] at h
    obtain ⟨rfl, rfl⟩ := h
    exact ⟨rfl, rfl⟩
  | k + 1, l, r, zs, hb, h => by
    simp only [lst] at h
    split at h
    · rename_i x m hx
      split at h
      · rename_i ys r2 hz
        cases h
        have h1 := hR _ _ _ hb hx
        rw [h1] at hb
        obtain ⟨h2, h3⟩ := lst_once hR k _ _ _ hb.right hz
        refine ⟨?_, by simp [h3]⟩
        rw [h1, h2, List.flatMap_cons, List.append_assoc]
      · cases h
    · cases h

theorem lists_once {α : Type} {R : List Int → Except Int (α × List Int)} {e : α → List Int} (hR : Once R e) {l r : List Int} {zs : List α} (hb : Byt l) (h : lists R l = .ok (zs, r)) : l = enc zs.length ++ zs.flatMap e ++ r ∧ zs.length ≤ 65536 := by
  obtain ⟨n, m, hn, hl⟩ := lists_ok h
  obtain ⟨hnum, hle⟩ := lenR_ok hn
  obtain ⟨h0, _⟩ := num_ok hb hnum
  have h1 := num_once hb hnum
  rw [h1] at hb
  obtain ⟨h2, h3⟩ := lst_once hR _ _ _ _ hb.right hl
  have e1 : (zs.length : Int) = n := by omega
  refine ⟨?_, by omega⟩
  rw [e1, h1, h2, List.append_assoc]

def ewp (q : (Int × Int) × List (List Int)) : List Int := ex q.1 ++ es q.2
theorem wrR_once : Once wrR ewp := by
  intro l r a hb h
  obtain ⟨m, hn, hm⟩ := wrR_ok h
  have h1 := pairR_once _ _ _ hb hn
  rw [h1] at hb
  obtain ⟨h2, _⟩ := lists_once secR_once hb.right hm
  rw [h1, h2]
  simp [ewp, es]

theorem textR_once {l r a : List Int} (hb : Byt l) (h : textR l = .ok (a, r)) : l = enc a.length ++ a ++ r ∧ a.length ≤ 65536 := by
  unfold textR at h
  split at h
  · rename_i n m hn
    split at h
    · cases h
    · cases h
      obtain ⟨hnum, hle⟩ := lenR_ok hn
      obtain ⟨h0, _⟩ := num_ok hb hnum
      have h1 := num_once hb hnum
      have hl : (m.take n.toNat).length = n.toNat := by rw [List.length_take]; omega
      have e1 : ((m.take n.toNat).length : Int) = n := by omega
      refine ⟨?_, by omega⟩
      rw [e1, List.append_assoc, List.take_append_drop]
      exact h1
  · cases h

theorem textR_back {a : List Int} (hl : a.length ≤ 65536) (r : List Int) : textR (enc a.length ++ a ++ r) = .ok (a, r) := by
  unfold textR
  rw [List.append_assoc, lenR_enc hl]
  simp only [Int.toNat_natCast]
  rw [if_neg (by rw [List.length_append]; omega), List.take_left, List.drop_left]

end VS
end Go.Proofs.Ytohfbjgcfbkgnaa
