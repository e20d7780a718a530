/- The reference's readers. -/
import Derived.Test.YtohfbjgcfbkgnaaWEqL
namespace Go.Proofs.Ytohfbjgcfbkgnaa
namespace VS

def Num77 (l : List Int) (st : St) (o : Option Out) : Except Int (Int × List Int) → Prop
  | .ok (m, r) => ∃ j : Nat, r = l.drop j ∧ j ≤ l.length ∧ o = some (.rt, { s := [(2, .v (.int .i64 m)), (3, .v (.int .i64 j)), (4, .v (.int .i64 0))], d := [] }, st)
  | .error e => o = some (.rt, { s := [(2, .v (.int .i64 0)), (3, .v (.int .i64 0)), (4, .v (.int .i64 e))], d := [] }, st) ∨ (e = 3 ∧ ∃ fr', o = some (.ex 0, fr', st) ∧ fr'.only [] = { s := [], d := [] })

theorem numLoop77 {st : St} {x : AV} {l : List Int} (hx : IsB x l) (hl : Byt l) : ∀ (k i : Nat) (n : Int), i + k = 8 → i ≤ l.length → 0 ≤ n → n < 128 ^ i →
    Num77 l st (runL T (.loop [0, 5, 6, 7] s77b0) { s := [(0, x), (5, .v (.int .i64 n)), (6, .v (.int .i64 (128 ^ i))), (7, .v (.int .i64 i))], d := [] } st) (numS k i n (l.drop i))
  | 0, i, n, hi, _, _, _ => by
    have : i = 8 := by omega
    subst this
    refine .inr ⟨rfl, ?s, ?a, ?b⟩
    case a =>
      rw [runL_loop]
      simp [s77b0]
      rfl
    case b => simp
  | k + 1, i, n, hi, hil, h0, h1 => by
    have h8 : (i : Int) < 8 := by omega
    by_cases hlt : i < l.length
    · have hd : l.drop i = l[i] :: l.drop (i + 1) := List.drop_eq_getElem_cons hlt
      obtain ⟨t, rfl, ht⟩ := hx.form (by omega)
      obtain ⟨hb0, hb1⟩ := hl l[i] (List.getElem_mem hlt)
      have hget := bys_get l i hlt
      have hge : ¬ (l.length : Int) ≤ i := by omega
      have hlti : (i : Int) < l.length := by omega
      have hw1 : IntKind.wrap .i64 l[i] = l[i] := wrap_i64 (by omega) (by omega)
      have hmod : Int.tmod l[i] 128 = l[i] % 128 := Int.tmod_eq_emod_of_nonneg hb0
      have hw3 : IntKind.wrap .i64 ((i : Int) + 1) = ((i + 1 : Nat) : Int) := by rw [wrap_i64 (by omega) (by omega)]; omega
      have hp : (128 : Int) ^ i ≤ 128 ^ 7 := by exact_mod_cast Nat.pow_le_pow_right (by omega : 0 < 128) (by omega)
      have hp0 : (0 : Int) < 128 ^ i := Int.pow_pos (by omega)
      have h7 : (128 : Int) ^ 7 = 562949953421312 := by decide
      have hle : l[i] % 128 * 128 ^ i ≤ 127 * 128 ^ i := Int.mul_le_mul_of_nonneg_right (by omega) (by omega)
      have hge0 : 0 ≤ l[i] % 128 * 128 ^ i := Int.mul_nonneg (by omega) (by omega)
      obtain ⟨hm0, hm1⟩ := acc_lt (x := l[i] % 128) h0 h1 (by omega) (by omega)
      have hw2 : IntKind.wrap .i64 (l[i] % 128 * 128 ^ i) = l[i] % 128 * 128 ^ i := wrap_i64 (by omega) (by omega)
      have hw4 : IntKind.wrap .i64 (n + l[i] % 128 * 128 ^ i) = n + l[i] % 128 * 128 ^ i := wrap_i64 (by omega) (by omega)
      have hw5 : IntKind.wrap .i64 (128 ^ i * 128) = 128 ^ (i + 1) := by rw [wrap_i64 (by omega) (by omega), Int.pow_succ]
      rw [hd]
      simp only [numS]
      generalize hq : l[i] % 128 * 128 ^ i = q at *
      generalize hmm : n + q = m at *
      by_cases hbig : 128 ≤ l[i]
      · rw [if_pos hbig]
        have hn : ¬ l[i] < 128 := by omega
        have ih := numLoop77 (st := st) hx hl k (i + 1) m (by omega) (by omega) hm0 hm1
        have step : runL T (.loop [0, 5, 6, 7] s77b0) { s := [(0, .sl (bys l) l.length t), (5, .v (.int .i64 n)), (6, .v (.int .i64 (128 ^ i))), (7, .v (.int .i64 i))], d := [] } st =
            runL T (.loop [0, 5, 6, 7] s77b0) { s := [(0, .sl (bys l) l.length t), (5, .v (.int .i64 m)), (6, .v (.int .i64 (128 ^ (i + 1)))), (7, .v (.int .i64 (i + 1 : Nat)))], d := [] } st := by
          rw [runL_loop]
          generalize hL : SCode.loop [0, 5, 6, 7] s77b0 = L
          generalize (128 : Int) ^ (i + 1) = w2 at *
          generalize (128 : Int) ^ i = w1 at *
          simp only [s77b0]
          simp [h8, hge, hlti, opLoad_ep, hget, hw1, hmod, hq, hw2, hmm, hw4, hn, hw5, hw3]
          subst hL
          refine loop_from ?_
          simp
        rw [step]
        exact ih
      · rw [if_neg hbig]
        have hn : l[i] < 128 := by omega
        by_cases hbad : (l[i] = 0 ∧ 0 < i) ∨ 9007199254740991 < m
        · rw [if_pos hbad]
          refine .inl ?_
          rw [runL_loop]
          generalize (128 : Int) ^ i = w1 at *
          simp only [s77b0]
          by_cases hz : l[i] = 0
          · have hz1 := eq_true hz
            by_cases hi0 : 0 < i
            · simp [h8, hge, hlti, opLoad_ep, hget, hw1, hmod, hq, hw2, hmm, hw4, hn, hz1, hi0]
            · have hm9 : 9007199254740991 < m := by rcases hbad with h | h <;> omega
              simp [h8, hge, hlti, opLoad_ep, hget, hw1, hmod, hq, hw2, hmm, hw4, hn, hz1, hi0, hm9]
          · have hm9 : 9007199254740991 < m := by rcases hbad with h | h <;> omega
            simp [h8, hge, hlti, opLoad_ep, hget, hw1, hmod, hq, hw2, hmm, hw4, hn, hz, hm9]
        · rw [if_neg hbad]
          have hm9 : ¬ 9007199254740991 < m := fun h => hbad (.inr h)
          refine ⟨i + 1, rfl, by omega, ?_⟩
          rw [runL_loop]
          generalize (128 : Int) ^ i = w1 at *
          simp only [s77b0]
          by_cases hz : l[i] = 0
          · have hi0 : ¬ 0 < i := fun h => hbad (.inl ⟨hz, h⟩)
            have hz1 := eq_true hz
            simp [h8, hge, hlti, opLoad_ep, hget, hw1, hmod, hq, hw2, hmm, hw4, hn, hz1, hi0, hm9, hw3]
          · simp [h8, hge, hlti, opLoad_ep, hget, hw1, hmod, hq, hw2, hmm, hw4, hn, hz, hm9, hw3]
    · have hd : l.drop i = [] := List.drop_eq_nil_of_le (by omega)
      rw [hd]
      refine .inl ?_
      have hk := hx.isL.len
      have hge : (l.length : Int) ≤ i := by omega
      rw [runL_loop]
      simp only [s77b0]
      simp [h8, hk, hge]

/-- ref.number -/
theorem number77 {x : AV} {l : List Int} (hx : IsB x l) (hl : Byt l) (st : St) :
    (∀ n r, num l = .ok (n, r) → ∃ j : Nat, r = l.drop j ∧ j ≤ l.length ∧ callL T 77 [x] st = some (.ret (.tup [.v (.int .i64 n), .v (.int .i64 j), .v (.int .i64 0)]), st)) ∧
    (∀ e, num l = .error e → e ≠ 0 ∧ callL T 77 [x] st = some (.ret (.tup [.v (.int .i64 0), .v (.int .i64 0), .v (.int .i64 e)]), st)) := by
  obtain ⟨x', hx1, hx2, _⟩ := hx.exps
  have h := numLoop77 (st := .mt) hx2 hl 8 0 0 rfl (by omega) (by omega) (by omega)
  rw [List.drop_zero] at h
  have hc : ∀ o, runL T (.loop [0, 5, 6, 7] s77b0) { s := [(0, x'), (5, .v (.int .i64 0)), (6, .v (.int .i64 (128 ^ 0))), (7, .v (.int .i64 (0 : Nat)))], d := [] } .mt = o → callL T 77 [x] st = dropped st (endR [.tmp 2, .tmp 3, .tmp 4] (thenR (blockR 0 o) (seqK T [] (.seq [2, 3, 4] (.region [⟨(some 2), none, (.mv (.c (.v (.int .i64 0))))⟩, ⟨(some 3), none, (.mv (.c (.v (.int .i64 0))))⟩, ⟨(some 4), none, (.mv (.c (.v (.int .i64 3))))⟩] false) .ret)))) := by
    intro o ho
    rw [call_plain T77 rfl rfl (expA_cons (hx1 st) rfl)]
    have hu := loop_use ho
    simp [inner_eq, s77]
    rw [hu _ (by simp)]
  refine ⟨fun n r hn => ?_, fun e he => ?_⟩
  · change numS 8 0 0 l = .ok (n, r) at hn
    rw [hn] at h
    obtain ⟨j, hj, hjl, ho⟩ := h
    refine ⟨j, hj, hjl, ?_⟩
    rw [hc _ ho]
    simp [dropped, expR, expA]
  · change numS 8 0 0 l = .error e at he
    have h3 := numS_err _ _ _ _ _ he
    rw [he] at h
    refine ⟨by omega, ?_⟩
    rcases h with ho | ⟨rfl, fr', ho, hfr⟩
    · rw [hc _ ho]
      simp [dropped, expR, expA]
    · rw [hc _ ho]
      simp [hfr, dropped, expR, expA]

theorem IsL.expR {sz : Nat} {x : AV} {cs : List AV} {n : Nat} (h : IsL sz x cs n) (st : St) : expR st x = (exp1 st x).map fun p => p.1 := by
  cases h <;> rfl

/-- ref.rest -/
theorem rest78 {x : AV} {l : List Int} (hx : IsB x l) (hlen : l.length ≤ 274877906944) {n : Nat} (hn : n ≤ l.length) (st : St) : ∃ y, callL T 78 [x, .v (.int .i64 n)] st = some (.ret y, st) ∧ IsB y (l.drop n) := by
  obtain ⟨x', hx1, hx2, _⟩ := hx.exps
  obtain ⟨u, hu, hul⟩ := slice_from (k := .i64) hx2 hn
  obtain ⟨z, st1, hap, hA, _⟩ := app_append (st := .mt) (bytes := 1) .nil hul.isL (by omega) (by simp only [most47]; rw [List.length_drop]; omega) (by rw [List.length_drop]; omega)
  rw [List.nil_append, Nat.zero_add] at hA
  obtain ⟨y, hy1, hy2, _⟩ := hA.isB.exps
  refine ⟨y, ?_, hy2⟩
  rw [call_plain T78 rfl rfl (expA_cons (hx1 st) (expA_cons (exp1_v _ _) rfl))]
  simp [inner_eq, s78, hu, hap, dropped, hA.isL.expR, hy1]

/-- ref.Int -/
theorem ref35 : Pub 35 num fInt (.v (.int .i64 0)) := by
  intro x l hx hb hlen st
  obtain ⟨x', hx1, hx2, _⟩ := hx.exps
  obtain ⟨ok, er⟩ := number77 hx2 hb .mt
  rw [call_plain T35 rfl rfl (expA_cons (hx1 st) rfl)]
  refine ⟨fun n r h => ?_, fun e h => ?_⟩
  · obtain ⟨j, rfl, hj, h1⟩ := ok _ _ h
    obtain ⟨y, h2, h3⟩ := rest78 hx2 hlen hj .mt
    obtain ⟨y', hy1, hy2, _⟩ := h3.exps
    refine ⟨_, y', ?_, hy2, hb.drop j, by rw [List.length_drop]; omega, rfl⟩
    simp [inner_eq, s35, h1, h2, dropped, expR, expA, hy1]
  · obtain ⟨h0, h1⟩ := er _ h
    refine ⟨h0, ?_⟩
    simp [inner_eq, s35, h1, h0, dropped, expR, expA]

/-- ref.length -/
theorem ref79 : Pub 79 lenR fInt (.v (.int .i64 0)) := by
  intro x l hx hb hlen st
  obtain ⟨x', hx1, hx2, _⟩ := hx.exps
  obtain ⟨ok, er⟩ := ref35 hx2 hb hlen .mt
  rw [call_plain T79 rfl rfl (expA_cons (hx1 st) rfl)]
  refine ⟨fun n r h => ?_, fun e h => ?_⟩
  · obtain ⟨hn, hle⟩ := lenR_ok h
    obtain ⟨v, y, h1, h2, h3, h4, rfl⟩ := ok _ _ hn
    obtain ⟨y', hy1, hy2, _⟩ := h2.exps
    have : ¬ 65536 < n := by omega
    refine ⟨_, y', ?_, hy2, h3, h4, rfl⟩
    simp [inner_eq, s79, h1, this, dropped, expR, expA, hy1]
  · rcases lenR_err h with hn | ⟨rfl, n, r, hn, hgt⟩
    · obtain ⟨h0, h1⟩ := er _ hn
      refine ⟨h0, ?_⟩
      simp [inner_eq, s79, h1, h0, dropped, expR, expA]
    · obtain ⟨v, y, h1, h2, h3, h4, rfl⟩ := ok _ _ hn
      refine ⟨by omega, ?_⟩
      simp [inner_eq, s79, h1, hgt, dropped, expR, expA]

/-- ref.Bytes -/
theorem ref36 : Pub 36 textR fBytes (.v (.slice none 0 0)) := by
  intro x l hx hb hlen st
  obtain ⟨x', hx1, hx2, _⟩ := hx.exps
  obtain ⟨ok, er⟩ := ref79 hx2 hb hlen .mt
  rw [call_plain T36 rfl rfl (expA_cons (hx1 st) rfl)]
  refine ⟨fun a r h => ?_, fun e h => ?_⟩
  · unfold textR at h
    split at h
    · rename_i n m hn
      split at h
      · cases h
      · rename_i hge
        cases h
        obtain ⟨v, y, h1, h2, h3, h4, rfl⟩ := ok _ _ hn
        obtain ⟨hnum, hle⟩ := lenR_ok hn
        obtain ⟨h0, _⟩ := num_ok hb hnum
        have hk := h2.isL.len
        obtain ⟨u, hu, hul⟩ := slice_to (k := .i64) h2 (i := n.toNat) (by omega)
        obtain ⟨w, st1, hap, hA, _⟩ := app_append (st := .mt) (bytes := 1) .nil hul.isL (by omega) (by simp only [most47]; rw [List.length_take]; omega) (by rw [List.length_take]; omega)
        rw [List.nil_append, Nat.zero_add] at hA
        obtain ⟨w', hw1, hw2, _⟩ := hA.isB.exps
        obtain ⟨z, hz, hzl⟩ := rest78 h2 (by omega) (n := n.toNat) (by omega) st1
        obtain ⟨z', hz1, hz2, _⟩ := hzl.exps
        have e1 : ((n.toNat : Nat) : Int) = n := by omega
        rw [e1] at hz
        simp only [e1] at hu
        refine ⟨w', z', ?_, hz2, h3.drop _, by rw [List.length_drop]; omega, hw2, h3.take _⟩
        simp [inner_eq, s36, h1, hk, hge, hu, hap, hz, dropped, expR, expA, hw1, hz1]
    · cases h
  · unfold textR at h
    split at h
    · rename_i n m hn
      split at h
      · rename_i hlt
        cases h
        obtain ⟨v, y, h1, h2, h3, h4, rfl⟩ := ok _ _ hn
        have hk := h2.isL.len
        refine ⟨by omega, ?_⟩
        simp [inner_eq, s36, h1, hk, hlt, dropped, expR, expA]
      · cases h
    · rename_i hn
      cases h
      obtain ⟨h0, h1⟩ := er _ hn
      refine ⟨h0, ?_⟩
      simp [inner_eq, s36, h1, h0, dropped, expR, expA]

/-- A list's loop in the reference. -/
def rfr (x : AV) (n : Int) (out : AV) (i : Int) : Fr := { s := [(0, x), (5, .v (.int .i64 n)), (7, out), (8, .v (.int .i64 i))], d := [] }

def RStep {α β : Type} (L : SCode) (c : Nat) (g : β → List AV) (pl : β → α) (ok : β → Prop) (R : List Int → Except Int (α × List Int)) : Prop :=
  ∀ (i n : Nat) (x out : AV) (l : List Int) (xs : List β) (st : St), i < n → n ≤ 65536 → xs.length = i → IsB x l → Byt l → l.length ≤ 274877906944 → App st c out (xs.flatMap g) xs.length →
    (∀ a r, R l = .ok (a, r) → ∃ x' out' x1 st', runL T L (rfr x n out i) st = runL T L (rfr x' n out' (i + 1 : Nat)) st' ∧ IsB x' r ∧ Byt r ∧ r.length ≤ l.length ∧ App st' c out' ((xs ++ [x1]).flatMap g) (xs ++ [x1]).length ∧ pl x1 = a ∧ ok x1) ∧
    (∀ e, R l = .error e → e ≠ 0 ∧ ∃ st', runL T L (rfr x n out i) st = some (.rt, { s := [(2, .v (.slice none 0 0)), (3, .v (.slice none 0 0)), (4, .v (.int .i64 e))], d := [] }, st'))

theorem refList {α β : Type} {L : SCode} {c : Nat} {g : β → List AV} {pl : β → α} {ok : β → Prop} {R : List Int → Except Int (α × List Int)} (hS : RStep L c g pl ok R)
    (hstop : ∀ (n : Nat) (x out : AV) (st : St), ∃ fr', runL T L (rfr x n out n) st = some (.ex 0, fr', st) ∧ fr'.only [0, 7] = { s := [(0, x), (7, out)], d := [] }) (n : Nat) (hn : n ≤ 65536) :
    ∀ (k i : Nat) (x out : AV) (l : List Int) (xs : List β) (st : St), i + k = n → xs.length = i → (∀ y ∈ xs, ok y) → IsB x l → Byt l → l.length ≤ 274877906944 → App st c out (xs.flatMap g) xs.length →
    (∀ zs r, lst R k l = .ok (zs, r) → ∃ x' out' ys fr' st', runL T L (rfr x n out i) st = some (.ex 0, fr', st') ∧ fr'.only [0, 7] = { s := [(0, x'), (7, out')], d := [] } ∧ IsB x' r ∧ Byt r ∧ r.length ≤ l.length ∧ ys.map pl = zs ∧ App st' c out' ((xs ++ ys).flatMap g) (xs ++ ys).length ∧ ∀ y ∈ ys, ok y) ∧
    (∀ e, lst R k l = .error e → e ≠ 0 ∧ ∃ st', runL T L (rfr x n out i) st = some (.rt, { s := [(2, .v (.slice none 0 0)), (3, .v (.slice none 0 0)), (4, .v (.int .i64 e))], d := [] }, st'))
  | 0, i, x, out, l, xs, st, hi, _, _, hx, hb, _, hA => by
    refine ⟨fun zs r h => ?_, fun e h => by simp [lst] at h⟩
    simp only [lst, Except.ok.injEq, Prod.mk.injEq] at h
    obtain ⟨rfl, rfl⟩ := h
    have : i = n := by omega
    subst this
    obtain ⟨fr', h1, h2⟩ := hstop i x out st
    exact ⟨x, out, [], fr', st, h1, h2, hx, hb, Nat.le_refl _, rfl, by simpa using hA, by simp⟩
  | k + 1, i, x, out, l, xs, st, hi, hxi, hxo, hx, hb, hlen, hA => by
    obtain ⟨ok1, er1⟩ := hS i n x out l xs st (by omega) hn hxi hx hb hlen hA
    cases hR : R l with
    | error e =>
      refine ⟨fun zs r h => by simp [lst, hR] at h, fun e' h => ?_⟩
      simp only [lst, hR, Except.error.injEq] at h
      subst h
      exact er1 _ hR
    | ok p =>
      obtain ⟨a, m⟩ := p
      obtain ⟨x', out', x1, st1, h1, h2, h3, h4, h5, h6, h7⟩ := ok1 _ _ hR
      have ih := refList hS hstop n hn k (i + 1) x' out' m (xs ++ [x1]) st1 (by omega) (by simp [hxi]) (fun z hz => by
        rcases List.mem_append.1 hz with h | h
        · exact hxo z h
        · simp at h; subst h; exact h7) h2 h3 (by omega) h5
      rw [h1]
      refine ⟨fun zs r h => ?_, fun e h => ?_⟩
      · simp only [lst, hR] at h
        split at h
        · rename_i zs' r2 hr2
          cases h
          obtain ⟨y', o', ys, fr', st', k1, k2, k3, k4, k5, k6, k7, k8⟩ := ih.1 _ _ hr2
          refine ⟨y', o', x1 :: ys, fr', st', k1, k2, k3, k4, by omega, by simp [k6, h6], by simpa using k7, fun z hz => ?_⟩
          rcases List.mem_cons.1 hz with rfl | hz
          · exact h7
          · exact k8 z hz
        · cases h
      · simp only [lst, hR] at h
        split at h
        · cases h
        · rename_i hr2
          cases h
          exact ih.2 _ hr2

theorem step37 : RStep (.loop [0, 5, 7, 8] s37b0) 1 gi id (fun _ => True) num := by
  intro i n x out l xs st hi hn hxs hx hb hlen hA
  obtain ⟨ok, er⟩ := ref35 hx hb hlen st
  have h1 : (i : Int) < n := by omega
  have hw : IntKind.wrap .i64 ((i : Int) + 1) = ((i + 1 : Nat) : Int) := by rw [wrap_i64 (by omega) (by omega)]; omega
  refine ⟨fun a r h => ?_, fun e h => ?_⟩
  · obtain ⟨v, y, c1, c2, c3, c4, rfl⟩ := ok _ _ h
    obtain ⟨o, st', hap, hB, _⟩ := app_append (bytes := 8) hA (y := .sl [.v (.int .i64 a)] 1 .full) (ds := [.v (.int .i64 a)]) (m := 1) (.sl (by simp) (by simp)) (by omega) (by simp only [most47]; omega) (by omega)
    refine ⟨y, o, a, st', ?_, c2, c3, c4, by simpa [gi] using hB, rfl, trivial⟩
    rw [runL_loop]
    generalize hL : SCode.loop [0, 5, 7, 8] s37b0 = L
    simp only [s37b0, rfr]
    simp [h1, c1, hap, hw]
    subst hL
    refine loop_from ?_
    simp
  · obtain ⟨h0, c1⟩ := er _ h
    refine ⟨h0, st, ?_⟩
    rw [runL_loop]
    simp only [s37b0, rfr]
    simp [h1, c1, h0]

theorem stop37 (n : Nat) (x out : AV) (st : St) : ∃ fr', runL T (.loop [0, 5, 7, 8] s37b0) (rfr x n out n) st = some (.ex 0, fr', st) ∧ fr'.only [0, 7] = { s := [(0, x), (7, out)], d := [] } := by
  refine ⟨?s, ?a, ?b⟩
  case a =>
    rw [runL_loop]
    simp [s37b0, rfr]
    rfl
  case b => simp

theorem ref37 : Pub 37 (lists num) fInts (.v (.slice none 0 0)) := by
  intro x l hx hb hlen st
  obtain ⟨x', hx1, hx2, _⟩ := hx.exps
  obtain ⟨ok, er⟩ := ref79 hx2 hb hlen .mt
  rw [call_plain T37 rfl rfl (expA_cons (hx1 st) rfl)]
  have main : ∀ n m, lenR l = .ok (n, m) → ∃ y, callL T 79 [x'] .mt = some (.ret (.tup [.v (.int .i64 n), y, .v (.int .i64 0)]), .mt) ∧ m.length ≤ l.length ∧
      (∀ zs r, lst num n.toNat m = .ok (zs, r) → ∃ v u w st', (∃ fr', (∀ fr : Fr, fr.only [0, 5, 7, 8] = { s := [(0, y), (5, .v (.int .i64 n)), (7, .v (.slice none 0 0)), (8, .v (.int .i64 0))], d := [] } → runL T (.loop [0, 5, 7, 8] s37b0) fr .mt = some (.ex 0, fr', st')) ∧ fr'.only [0, 7] = { s := [(0, u), (7, v)], d := [] }) ∧ IsB u r ∧ Byt r ∧ r.length ≤ m.length ∧ (∀ s, exp1 s v = some (w, s)) ∧ fInts zs w) ∧
      (∀ e, lst num n.toNat m = .error e → e ≠ 0 ∧ ∃ st', (∀ fr : Fr, fr.only [0, 5, 7, 8] = { s := [(0, y), (5, .v (.int .i64 n)), (7, .v (.slice none 0 0)), (8, .v (.int .i64 0))], d := [] } → runL T (.loop [0, 5, 7, 8] s37b0) fr .mt = some (.rt, { s := [(2, .v (.slice none 0 0)), (3, .v (.slice none 0 0)), (4, .v (.int .i64 e))], d := [] }, st'))) := by
    intro n m hn
    obtain ⟨v, y, h1, h2, h3, h4, rfl⟩ := ok _ _ hn
    obtain ⟨hnum, hle⟩ := lenR_ok hn
    obtain ⟨h0, _⟩ := num_ok hb hnum
    have e1 : ((n.toNat : Nat) : Int) = n := by omega
    have L := refList step37 stop37 n.toNat (by omega) n.toNat 0 y (.v (.slice none 0 0)) m [] .mt (Nat.zero_add _) rfl (by simp) h2 h3 (by omega) .nil
    rw [e1] at L
    refine ⟨y, h1, h4, fun zs r h => ?_, fun e h => ?_⟩
    · obtain ⟨u, v, ys, fr', st', k1, k2, k3, k4, k5, k6, k7, k8⟩ := L.1 _ _ h
      obtain ⟨w, hw1, hw2⟩ := oInts st' zs v ⟨ys, k6, by simpa using k7, k8⟩
      exact ⟨v, u, w, st', ⟨fr', fun fr hfr => loop_use k1 fr (by rw [hfr]; simp [rfr]), k2⟩, k3, k4, k5, hw1, hw2⟩
    · obtain ⟨he, st', k1⟩ := L.2 _ h
      exact ⟨he, st', fun fr hfr => loop_use k1 fr (by rw [hfr]; simp [rfr])⟩
  refine ⟨fun zs r h => ?_, fun e h => ?_⟩
  · obtain ⟨n, m, hn, hl⟩ := lists_ok h
    obtain ⟨y, h1, h2, h3, _⟩ := main n m hn
    obtain ⟨v, u, w, st', ⟨fr', k1, k2⟩, k3, k4, k5, k6, k7⟩ := h3 _ _ hl
    obtain ⟨u', hu1, hu2, _⟩ := k3.exps
    refine ⟨w, u', ?_, hu2, k4, by omega, k7⟩
    simp [inner_eq, s37, h1]
    rw [k1 _ (by simp)]
    simp [k2, dropped, expR, expA, k6, hu1]
  · rcases lists_err h with hn | ⟨n, m, hn, hl⟩
    · obtain ⟨h0, h1⟩ := er _ hn
      refine ⟨h0, ?_⟩
      simp [inner_eq, s37, h1, h0, dropped, expR, expA]
    · obtain ⟨y, h1, h2, _, h3⟩ := main n m hn
      obtain ⟨he, st', k1⟩ := h3 _ hl
      refine ⟨he, ?_⟩
      simp [inner_eq, s37, h1]
      rw [k1 _ (by simp)]
      simp [dropped, expR, expA]

theorem step41 : RStep (.loop [0, 5, 7, 8] s41b0) 2 gx id (fun _ => True) pairR := by
  intro i n x out l xs st hi hn hxs hx hb hlen hA
  obtain ⟨ok, er⟩ := ref35 hx hb hlen st
  have h1 : (i : Int) < n := by omega
  have hw : IntKind.wrap .i64 ((i : Int) + 1) = ((i + 1 : Nat) : Int) := by rw [wrap_i64 (by omega) (by omega)]; omega
  refine ⟨fun p r h => ?_, fun e h => ?_⟩
  · obtain ⟨m, hn1, hn2⟩ := pairR_ok h
    obtain ⟨v, y, c1, c2, c3, c4, rfl⟩ := ok _ _ hn1
    obtain ⟨v, z, d1, d2, d3, d4, rfl⟩ := (ref35 c2 c3 (by omega) st).1 _ _ hn2
    obtain ⟨o, st', hap, hB, _⟩ := app_append (bytes := 16) hA (y := .sl [.v (.int .i64 p.1), .v (.int .i64 p.2)] 1 .full) (ds := gx p) (m := 1) (.sl (by simp) rfl) (by omega) (by simp only [most47]; omega) (by omega)
    refine ⟨z, o, p, st', ?_, d2, d3, by omega, by simpa using hB, rfl, trivial⟩
    rw [runL_loop]
    generalize hL : SCode.loop [0, 5, 7, 8] s41b0 = L
    simp only [s41b0, rfr]
    simp [h1, c1, d1, hap, hw]
    subst hL
    refine loop_from ?_
    simp
  · rcases pairR_err h with hn1 | ⟨a, m, hn1, hn2⟩
    · obtain ⟨h0, c1⟩ := er _ hn1
      refine ⟨h0, st, ?_⟩
      rw [runL_loop]
      simp only [s41b0, rfr]
      simp [h1, c1, h0]
    · obtain ⟨v, y, c1, c2, c3, c4, rfl⟩ := ok _ _ hn1
      obtain ⟨h0, d1⟩ := (ref35 c2 c3 (by omega) st).2 _ hn2
      refine ⟨h0, st, ?_⟩
      rw [runL_loop]
      simp only [s41b0, rfr]
      simp [h1, c1, d1, h0]

theorem stop41 (n : Nat) (x out : AV) (st : St) : ∃ fr', runL T (.loop [0, 5, 7, 8] s41b0) (rfr x n out n) st = some (.ex 0, fr', st) ∧ fr'.only [0, 7] = { s := [(0, x), (7, out)], d := [] } := by
  refine ⟨?s, ?a, ?b⟩
  case a =>
    rw [runL_loop]
    simp [s41b0, rfr]
    rfl
  case b => simp

theorem ref41 : Pub 41 (lists pairR) fExts (.v (.slice none 0 0)) := by
  intro x l hx hb hlen st
  obtain ⟨x', hx1, hx2, _⟩ := hx.exps
  obtain ⟨ok, er⟩ := ref79 hx2 hb hlen .mt
  rw [call_plain T41 rfl rfl (expA_cons (hx1 st) rfl)]
  have main : ∀ n m, lenR l = .ok (n, m) → ∃ y, callL T 79 [x'] .mt = some (.ret (.tup [.v (.int .i64 n), y, .v (.int .i64 0)]), .mt) ∧ m.length ≤ l.length ∧
      (∀ zs r, lst pairR n.toNat m = .ok (zs, r) → ∃ v u w st', (∃ fr', (∀ fr : Fr, fr.only [0, 5, 7, 8] = { s := [(0, y), (5, .v (.int .i64 n)), (7, .v (.slice none 0 0)), (8, .v (.int .i64 0))], d := [] } → runL T (.loop [0, 5, 7, 8] s41b0) fr .mt = some (.ex 0, fr', st')) ∧ fr'.only [0, 7] = { s := [(0, u), (7, v)], d := [] }) ∧ IsB u r ∧ Byt r ∧ r.length ≤ m.length ∧ (∀ s, exp1 s v = some (w, s)) ∧ fExts zs w) ∧
      (∀ e, lst pairR n.toNat m = .error e → e ≠ 0 ∧ ∃ st', (∀ fr : Fr, fr.only [0, 5, 7, 8] = { s := [(0, y), (5, .v (.int .i64 n)), (7, .v (.slice none 0 0)), (8, .v (.int .i64 0))], d := [] } → runL T (.loop [0, 5, 7, 8] s41b0) fr .mt = some (.rt, { s := [(2, .v (.slice none 0 0)), (3, .v (.slice none 0 0)), (4, .v (.int .i64 e))], d := [] }, st'))) := by
    intro n m hn
    obtain ⟨v, y, h1, h2, h3, h4, rfl⟩ := ok _ _ hn
    obtain ⟨hnum, hle⟩ := lenR_ok hn
    obtain ⟨h0, _⟩ := num_ok hb hnum
    have e1 : ((n.toNat : Nat) : Int) = n := by omega
    have L := refList step41 stop41 n.toNat (by omega) n.toNat 0 y (.v (.slice none 0 0)) m [] .mt (Nat.zero_add _) rfl (by simp) h2 h3 (by omega) .nil
    rw [e1] at L
    refine ⟨y, h1, h4, fun zs r h => ?_, fun e h => ?_⟩
    · obtain ⟨u, v, ys, fr', st', k1, k2, k3, k4, k5, k6, k7, k8⟩ := L.1 _ _ h
      obtain ⟨w, hw1, hw2⟩ := oExts st' zs v ⟨ys, k6, by simpa using k7, k8⟩
      exact ⟨v, u, w, st', ⟨fr', fun fr hfr => loop_use k1 fr (by rw [hfr]; simp [rfr]), k2⟩, k3, k4, k5, hw1, hw2⟩
    · obtain ⟨he, st', k1⟩ := L.2 _ h
      exact ⟨he, st', fun fr hfr => loop_use k1 fr (by rw [hfr]; simp [rfr])⟩
  refine ⟨fun zs r h => ?_, fun e h => ?_⟩
  · obtain ⟨n, m, hn, hl⟩ := lists_ok h
    obtain ⟨y, h1, h2, h3, _⟩ := main n m hn
    obtain ⟨v, u, w, st', ⟨fr', k1, k2⟩, k3, k4, k5, k6, k7⟩ := h3 _ _ hl
    obtain ⟨u', hu1, hu2, _⟩ := k3.exps
    refine ⟨w, u', ?_, hu2, k4, by omega, k7⟩
    simp [inner_eq, s41, h1]
    rw [k1 _ (by simp)]
    simp [k2, dropped, expR, expA, k6, hu1]
  · rcases lists_err h with hn | ⟨n, m, hn, hl⟩
    · obtain ⟨h0, h1⟩ := er _ hn
      refine ⟨h0, ?_⟩
      simp [inner_eq, s41, h1, h0, dropped, expR, expA]
    · obtain ⟨y, h1, h2, _, h3⟩ := main n m hn
      obtain ⟨he, st', k1⟩ := h3 _ hl
      refine ⟨he, ?_⟩
      simp [inner_eq, s41, h1]
      rw [k1 _ (by simp)]
      simp [dropped, expR, expA]

end VS
end Go.Proofs.Ytohfbjgcfbkgnaa
