/- Lists, read by the cursor. -/
import Derived.Test.YtohfbjgcfbkgnaaWRead
namespace Go.Proofs.Ytohfbjgcfbkgnaa
namespace VS

def lst {α : Type} (R : List Int → Except Int (α × List Int)) : Nat → List Int → Except Int (List α × List Int)
  | 0, l => .ok ([], l)
  | k + 1, l => match R l with
    | .ok (a, r) => (match lst R k r with
      | .ok (zs, r2) => .ok (a :: zs, r2)
      | .error e => .error e)
    | .error e => .error e

def lists {α : Type} (R : List Int → Except Int (α × List Int)) (l : List Int) : Except Int (List α × List Int) := match lenR l with
  | .ok (n, r) => lst R n.toNat r
  | .error e => .error e

theorem lists_ok {α : Type} {R : List Int → Except Int (α × List Int)} {l r : List Int} {zs : List α} (h : lists R l = .ok (zs, r)) : ∃ n m, lenR l = .ok (n, m) ∧ lst R n.toNat m = .ok (zs, r) := by
  unfold lists at h
  split at h
  · rename_i n m hn; exact ⟨n, m, hn, h⟩
  · cases h
theorem lists_err {α : Type} {R : List Int → Except Int (α × List Int)} {l : List Int} {e : Int} (h : lists R l = .error e) : lenR l = .error e ∨ ∃ n m, lenR l = .ok (n, m) ∧ lst R n.toNat m = .error e := by
  unfold lists at h
  split at h
  · rename_i n m hn; exact .inr ⟨n, m, hn, h⟩
  · rename_i hn; cases h; exact .inl hn

/-- A list, read. -/
def Li {α β : Type} (c : Nat) (g : β → List AV) (pl : β → α) (ok : β → Prop) (st : St) (zs : List α) (v : AV) : Prop := ∃ xs : List β, xs.map pl = zs ∧ App st c v (xs.flatMap g) xs.length ∧ ∀ x ∈ xs, ok x
def nilV (v : AV) : Prop := v = .v (.slice none 0 0)

theorem list86Loop {α β : Type} {g : β → List AV} {pl : β → α} {ok : β → Prop} {F : FuncId} {R : List Int → Except Int (α × List Int)} (hg : ∀ x, ok x → (g x).length = 8) (hF : Rd F R (fun _ a v => El 8 g pl ok a v) (Bad 8)) (b : Nat) (s : St) (n : Nat) (hn : n ≤ 65536) :
    ∀ (k i : Nat) (x : AV) (xs : List β) (st : St) (l : List Int), i + k = n → xs.length = i → (∀ y ∈ xs, ok y) → At b st l → Byt l → l.length ≤ 1099511627776 → Cur b s st → AppN s.F.length st 8 x (xs.flatMap g) xs.length →
    (∀ zs r, lst R k l = .ok (zs, r) → ∃ y ys fr' st', runL T (.loop [0, 1, 8, 19, 20] s86b0) { s := [(0, .ptr b 0), (1, .fn F []), (8, x), (19, .v (.int .i64 n)), (20, .v (.int .i64 i))], d := [] } st = some (.ex 0, fr', st') ∧ fr'.only [8] = { s := [(8, y)], d := [] } ∧
      At b st' r ∧ Byt r ∧ r.length ≤ l.length ∧ Cur b s st' ∧ ys.map pl = zs ∧ AppN s.F.length st' 8 y ((xs ++ ys).flatMap g) (xs ++ ys).length ∧ ∀ y ∈ ys, ok y) ∧
    (∀ e, lst R k l = .error e → e ≠ 0 ∧ ∃ st', runL T (.loop [0, 1, 8, 19, 20] s86b0) { s := [(0, .ptr b 0), (1, .fn F []), (8, x), (19, .v (.int .i64 n)), (20, .v (.int .i64 i))], d := [] } st = some (.rt, { s := [(4, .v (.slice none 0 0)), (5, .v (.int .i64 e))], d := [] }, st') ∧ Cur b s st')
  | 0, i, x, xs, st, l, hi, _, _, hat, hb, _, hcur, hx => by
    refine ⟨fun zs r h => ?_, fun e h => by simp [lst] at h⟩
    simp only [lst, Except.ok.injEq, Prod.mk.injEq] at h
    obtain ⟨rfl, rfl⟩ := h
    refine ⟨x, [], ?s, st, ?a, ?b, hat, hb, Nat.le_refl _, hcur, rfl, by simpa using hx, by simp⟩
    case a =>
      rw [runL_loop]
      have : ¬ (i : Int) < n := by omega
      simp [s86b0, this]
      rfl
    case b => simp
  | k + 1, i, x, xs, st, l, hi, hxi, hxo, hat, hb, hlen, hcur, hx => by
    obtain ⟨okF, erF⟩ := hF b st l hat hb hlen
    have h1 : (i : Int) < n := by omega
    have hw : IntKind.wrap .i64 ((i : Int) + 1) = ((i + 1 : Nat) : Int) := by rw [wrap_i64 (by omega) (by omega)]; omega
    cases hR : R l with
    | error e =>
      refine ⟨fun zs r h => by simp [lst, hR] at h, fun e' h => ?_⟩
      simp only [lst, hR, Except.error.injEq] at h
      subst h
      obtain ⟨he, v, st1, hcall, hc1, cs, rfl, hcs⟩ := erF _ hR
      have hst := opStore_new (H := st1.H) (F := st1.F) (z := [.v (.int .u8 0), .v (.int .u8 0), .v (.int .u8 0), .v (.int .u8 0), .v (.int .u8 0), .v (.int .u8 0), .v (.int .u8 0), .v (.int .u8 0)]) (l := cs) (k := 8) rfl hcs
      refine ⟨he, { H := st1.H ++ [{ cells := cs, fz := false }], F := st1.F }, ?_, (hcur.trans hc1).trans Cur.alloc⟩
      rw [runL_loop]
      simp only [s86b0]
      simp [h1, hcall, hst, he]
    | ok p =>
      obtain ⟨a, m⟩ := p
      obtain ⟨v, st1, hcall, hat1, hb1, hm1, hc1, x1, cs, hpl, rfl, hcs, hexp, hok⟩ := okF _ _ hR
      have hst := opStore_new (H := st1.H) (F := st1.F) (z := [.v (.int .u8 0), .v (.int .u8 0), .v (.int .u8 0), .v (.int .u8 0), .v (.int .u8 0), .v (.int .u8 0), .v (.int .u8 0), .v (.int .u8 0)]) (l := cs) (k := 8) rfl hcs
      have hld := opLoad_new (H := st1.H) (F := st1.F) (l := cs) (b := false) hcs
      have hex := hexp { H := st1.H ++ [{ cells := cs, fz := false }], F := st1.F }
      have hgl := hg x1 hok
      obtain ⟨y, st2, hap, hA, hH, hrw⟩ := appN_append (s := s) (st := { H := st1.H ++ [{ cells := cs, fz := false }], F := st1.F }) (bytes := 8) (hcur.rows.trans hc1.rows) ((hx.later hc1.rows).later (st' := { H := st1.H ++ [{ cells := cs, fz := false }], F := st1.F }) (Rows.Le.refl st1)) (y := .sl (g x1) 1 .full) (ds := g x1) (m := 1) (.sl (by simp) (by omega)) (by omega) (by omega) (by simp only [most47]; omega) (by omega)
      have hcur2 : Cur b s st2 := (((hcur.trans hc1).trans Cur.alloc).sameH hH hrw)
      have hat2 : At b st2 m := (hat1.alloc (m := [{ cells := cs, fz := false }]) (F := st1.F)).sameH hH
      have hA' : AppN s.F.length st2 8 y ((xs ++ [x1]).flatMap g) (xs ++ [x1]).length := by simpa using hA
      have ih := list86Loop hg hF b s n hn k (i + 1) y (xs ++ [x1]) st2 m (by omega) (by simp [hxi]) (fun z hz => by
        rcases List.mem_append.1 hz with h | h
        · exact hxo z h
        · simp at h; subst h; exact hok) hat2 hb1 (by omega) hcur2 hA'
      have step : runL T (.loop [0, 1, 8, 19, 20] s86b0) { s := [(0, .ptr b 0), (1, .fn F []), (8, x), (19, .v (.int .i64 n)), (20, .v (.int .i64 i))], d := [] } st =
          runL T (.loop [0, 1, 8, 19, 20] s86b0) { s := [(0, .ptr b 0), (1, .fn F []), (8, y), (19, .v (.int .i64 n)), (20, .v (.int .i64 (i + 1 : Nat)))], d := [] } st2 := by
        rw [runL_loop]
        generalize hL : SCode.loop [0, 1, 8, 19, 20] s86b0 = L
        simp only [s86b0]
        simp [h1, hcall, hst, hld, hcs, hex, hap, hw, -expL]
        subst hL
        refine loop_from ?_
        simp
      rw [step]
      refine ⟨fun zs r h => ?_, fun e h => ?_⟩
      · simp only [lst, hR] at h
        split at h
        · rename_i zs' r2 hr2
          cases h
          obtain ⟨y', ys, fr', st', k1, k2, k3, k4, k5, k6, k7, k8, k9⟩ := ih.1 _ _ hr2
          refine ⟨y', x1 :: ys, fr', st', k1, k2, k3, k4, by omega, k6, by simp [k7, hpl], by simpa using k8, fun z hz => ?_⟩
          rcases List.mem_cons.1 hz with rfl | hz
          · exact hok
          · exact k9 z hz
        · cases h
      · simp only [lst, hR] at h
        split at h
        · cases h
        · rename_i hr2
          cases h
          exact ih.2 _ hr2

theorem list86 {α β : Type} {g : β → List AV} {pl : β → α} {ok : β → Prop} {F : FuncId} {R : List Int → Except Int (α × List Int)} (hg : ∀ x, ok x → (g x).length = 8) (hF : Rd F R (fun _ a v => El 8 g pl ok a v) (Bad 8)) :
    ∀ (b : Nat) (st : St) (l : List Int), At b st l → Byt l → l.length ≤ 1099511627776 →
    (∀ zs r, lists R l = .ok (zs, r) → ∃ v st', callL T 86 [.ptr b 0, .fn F []] st = some (.ret (.tup [v, .v (.int .i64 0)]), st') ∧ At b st' r ∧ Byt r ∧ r.length ≤ l.length ∧ Cur b st st' ∧ Li 8 g pl ok st' zs v) ∧
    (∀ e, lists R l = .error e → e ≠ 0 ∧ ∃ v st', callL T 86 [.ptr b 0, .fn F []] st = some (.ret (.tup [v, .v (.int .i64 e)]), st') ∧ Cur b st st' ∧ nilV v) := by
  intro b st l hat hb hlen
  obtain ⟨ok1, er1⟩ := length84 b st l hat hb hlen
  have main : ∀ n m, lenR l = .ok (n, m) → ∃ st1 : St, callL T 84 [.ptr b 0] st = some (.ret (.tup [.v (.int .i64 n), .v (.int .i64 0)]), st1) ∧ m.length ≤ l.length ∧
      (∀ zs r, lst R n.toNat m = .ok (zs, r) → ∃ v st', (∃ fr', (∀ fr : Fr, fr.only [0, 1, 8, 19, 20] = { s := [(0, .ptr b 0), (1, .fn F []), (8, .v (.slice none 0 0)), (19, .v (.int .i64 n)), (20, .v (.int .i64 0))], d := [] } → runL T (.loop [0, 1, 8, 19, 20] s86b0) fr st1 = some (.ex 0, fr', st')) ∧ fr'.only [8] = { s := [(8, v)], d := [] }) ∧ At b st' r ∧ Byt r ∧ r.length ≤ m.length ∧ Cur b st st' ∧ Li 8 g pl ok st' zs v) ∧
      (∀ e, lst R n.toNat m = .error e → e ≠ 0 ∧ ∃ st', (∀ fr : Fr, fr.only [0, 1, 8, 19, 20] = { s := [(0, .ptr b 0), (1, .fn F []), (8, .v (.slice none 0 0)), (19, .v (.int .i64 n)), (20, .v (.int .i64 0))], d := [] } → runL T (.loop [0, 1, 8, 19, 20] s86b0) fr st1 = some (.rt, { s := [(4, .v (.slice none 0 0)), (5, .v (.int .i64 e))], d := [] }, st')) ∧ Cur b st st') := by
    intro n m hn
    obtain ⟨v, st1, h1, h2, h3, h4, h5, rfl⟩ := ok1 _ _ hn
    obtain ⟨hnum, hle⟩ := lenR_ok hn
    obtain ⟨h0, _⟩ := num_ok hb hnum
    have e1 : ((n.toNat : Nat) : Int) = n := by omega
    have L := list86Loop hg hF b st n.toNat (by omega) n.toNat 0 (.v (.slice none 0 0)) [] st1 m (Nat.zero_add _) rfl (by simp) h2 h3 (by omega) h5 .nil
    rw [e1] at L
    refine ⟨st1, h1, h4, fun zs r h => ?_, fun e h => ?_⟩
    · obtain ⟨y, ys, fr', st', k1, k2, k3, k4, k5, k6, k7, k8, k9⟩ := L.1 _ _ h
      refine ⟨y, st', ⟨fr', fun fr hfr => loop_use k1 fr (by rw [hfr]; simp), k2⟩, k3, k4, k5, k6, ys, k7, by simpa using k8.app, k9⟩
    · obtain ⟨he, st', k1, k2⟩ := L.2 _ h
      exact ⟨he, st', fun fr hfr => loop_use k1 fr (by rw [hfr]; simp), k2⟩
  refine ⟨fun zs r h => ?_, fun e h => ?_⟩
  · obtain ⟨n, m, hn, hl⟩ := lists_ok h
    obtain ⟨st1, h1, h2, h3, _⟩ := main n m hn
    obtain ⟨v, st', ⟨fr', k1, k2⟩, k3, k4, k5, k6, k7⟩ := h3 _ _ hl
    refine ⟨v, st', ?_, k3, k4, by omega, k6, k7⟩
    rw [call_whole T86 (.inl rfl) rfl]
    simp [inner_eq, s86, h1]
    rw [k1 _ (by simp)]
    simp [k2]
  · rcases lists_err h with hn | ⟨n, m, hn, hl⟩
    · obtain ⟨h0, v, st', h1, h2, n, rfl⟩ := er1 _ hn
      refine ⟨h0, _, st', ?_, h2, rfl⟩
      rw [call_whole T86 (.inl rfl) rfl]
      simp [inner_eq, s86, h1, h0]
    · obtain ⟨st1, h1, h2, _, h3⟩ := main n m hn
      obtain ⟨he, st', k1, k2⟩ := h3 _ hl
      refine ⟨he, _, st', ?_, k2, rfl⟩
      rw [call_whole T86 (.inl rfl) rfl]
      simp [inner_eq, s86, h1]
      rw [k1 _ (by simp)]
      simp

theorem list75Loop {α β : Type} {g : β → List AV} {pl : β → α} {ok : β → Prop} {F : FuncId} {R : List Int → Except Int (α × List Int)} (hg : ∀ x, ok x → (g x).length = 2) (hF : Rd F R (fun _ a v => El 2 g pl ok a v) (Bad 2)) (b : Nat) (s : St) (n : Nat) (hn : n ≤ 65536) :
    ∀ (k i : Nat) (x : AV) (xs : List β) (st : St) (l : List Int), i + k = n → xs.length = i → (∀ y ∈ xs, ok y) → At b st l → Byt l → l.length ≤ 1099511627776 → Cur b s st → AppN s.F.length st 2 x (xs.flatMap g) xs.length →
    (∀ zs r, lst R k l = .ok (zs, r) → ∃ y ys fr' st', runL T (.loop [0, 1, 8, 19, 20] s75b0) { s := [(0, .ptr b 0), (1, .fn F []), (8, x), (19, .v (.int .i64 n)), (20, .v (.int .i64 i))], d := [] } st = some (.ex 0, fr', st') ∧ fr'.only [8] = { s := [(8, y)], d := [] } ∧
      At b st' r ∧ Byt r ∧ r.length ≤ l.length ∧ Cur b s st' ∧ ys.map pl = zs ∧ AppN s.F.length st' 2 y ((xs ++ ys).flatMap g) (xs ++ ys).length ∧ ∀ y ∈ ys, ok y) ∧
    (∀ e, lst R k l = .error e → e ≠ 0 ∧ ∃ st', runL T (.loop [0, 1, 8, 19, 20] s75b0) { s := [(0, .ptr b 0), (1, .fn F []), (8, x), (19, .v (.int .i64 n)), (20, .v (.int .i64 i))], d := [] } st = some (.rt, { s := [(4, .v (.slice none 0 0)), (5, .v (.int .i64 e))], d := [] }, st') ∧ Cur b s st')
  | 0, i, x, xs, st, l, hi, _, _, hat, hb, _, hcur, hx => by
    refine ⟨fun zs r h => ?_, fun e h => by simp [lst] at h⟩
    simp only [lst, Except.ok.injEq, Prod.mk.injEq] at h
    obtain ⟨rfl, rfl⟩ := h
    refine ⟨x, [], ?s, st, ?a, ?b, hat, hb, Nat.le_refl _, hcur, rfl, by simpa using hx, by simp⟩
    case a =>
      rw [runL_loop]
      have : ¬ (i : Int) < n := by omega
      simp [s75b0, this]
      rfl
    case b => simp
  | k + 1, i, x, xs, st, l, hi, hxi, hxo, hat, hb, hlen, hcur, hx => by
    obtain ⟨okF, erF⟩ := hF b st l hat hb hlen
    have h1 : (i : Int) < n := by omega
    have hw : IntKind.wrap .i64 ((i : Int) + 1) = ((i + 1 : Nat) : Int) := by rw [wrap_i64 (by omega) (by omega)]; omega
    cases hR : R l with
    | error e =>
      refine ⟨fun zs r h => by simp [lst, hR] at h, fun e' h => ?_⟩
      simp only [lst, hR, Except.error.injEq] at h
      subst h
      obtain ⟨he, v, st1, hcall, hc1, cs, rfl, hcs⟩ := erF _ hR
      have hst := opStore_new (H := st1.H) (F := st1.F) (z := [.v (.int .i64 0), .v (.int .i64 0)]) (l := cs) (k := 2) rfl hcs
      refine ⟨he, { H := st1.H ++ [{ cells := cs, fz := false }], F := st1.F }, ?_, (hcur.trans hc1).trans Cur.alloc⟩
      rw [runL_loop]
      simp only [s75b0]
      simp [h1, hcall, hst, he]
    | ok p =>
      obtain ⟨a, m⟩ := p
      obtain ⟨v, st1, hcall, hat1, hb1, hm1, hc1, x1, cs, hpl, rfl, hcs, hexp, hok⟩ := okF _ _ hR
      have hst := opStore_new (H := st1.H) (F := st1.F) (z := [.v (.int .i64 0), .v (.int .i64 0)]) (l := cs) (k := 2) rfl hcs
      have hld := opLoad_new (H := st1.H) (F := st1.F) (l := cs) (b := false) hcs
      have hex := hexp { H := st1.H ++ [{ cells := cs, fz := false }], F := st1.F }
      have hgl := hg x1 hok
      obtain ⟨y, st2, hap, hA, hH, hrw⟩ := appN_append (s := s) (st := { H := st1.H ++ [{ cells := cs, fz := false }], F := st1.F }) (bytes := 16) (hcur.rows.trans hc1.rows) ((hx.later hc1.rows).later (st' := { H := st1.H ++ [{ cells := cs, fz := false }], F := st1.F }) (Rows.Le.refl st1)) (y := .sl (g x1) 1 .full) (ds := g x1) (m := 1) (.sl (by simp) (by omega)) (by omega) (by omega) (by simp only [most47]; omega) (by omega)
      have hcur2 : Cur b s st2 := (((hcur.trans hc1).trans Cur.alloc).sameH hH hrw)
      have hat2 : At b st2 m := (hat1.alloc (m := [{ cells := cs, fz := false }]) (F := st1.F)).sameH hH
      have hA' : AppN s.F.length st2 2 y ((xs ++ [x1]).flatMap g) (xs ++ [x1]).length := by simpa using hA
      have ih := list75Loop hg hF b s n hn k (i + 1) y (xs ++ [x1]) st2 m (by omega) (by simp [hxi]) (fun z hz => by
        rcases List.mem_append.1 hz with h | h
        · exact hxo z h
        · simp at h; subst h; exact hok) hat2 hb1 (by omega) hcur2 hA'
      have step : runL T (.loop [0, 1, 8, 19, 20] s75b0) { s := [(0, .ptr b 0), (1, .fn F []), (8, x), (19, .v (.int .i64 n)), (20, .v (.int .i64 i))], d := [] } st =
          runL T (.loop [0, 1, 8, 19, 20] s75b0) { s := [(0, .ptr b 0), (1, .fn F []), (8, y), (19, .v (.int .i64 n)), (20, .v (.int .i64 (i + 1 : Nat)))], d := [] } st2 := by
        rw [runL_loop]
        generalize hL : SCode.loop [0, 1, 8, 19, 20] s75b0 = L
        simp only [s75b0]
        simp [h1, hcall, hst, hld, hcs, hex, hap, hw, -expL]
        subst hL
        refine loop_from ?_
        simp
      rw [step]
      refine ⟨fun zs r h => ?_, fun e h => ?_⟩
      · simp only [lst, hR] at h
        split at h
        · rename_i zs' r2 hr2
          cases h
          obtain ⟨y', ys, fr', st', k1, k2, k3, k4, k5, k6, k7, k8, k9⟩ := ih.1 _ _ hr2
          refine ⟨y', x1 :: ys, fr', st', k1, k2, k3, k4, by omega, k6, by simp [k7, hpl], by simpa using k8, fun z hz => ?_⟩
          rcases List.mem_cons.1 hz with rfl | hz
          · exact hok
          · exact k9 z hz
        · cases h
      · simp only [lst, hR] at h
        split at h
        · cases h
        · rename_i hr2
          cases h
          exact ih.2 _ hr2

theorem list75 {α β : Type} {g : β → List AV} {pl : β → α} {ok : β → Prop} {F : FuncId} {R : List Int → Except Int (α × List Int)} (hg : ∀ x, ok x → (g x).length = 2) (hF : Rd F R (fun _ a v => El 2 g pl ok a v) (Bad 2)) :
    ∀ (b : Nat) (st : St) (l : List Int), At b st l → Byt l → l.length ≤ 1099511627776 →
    (∀ zs r, lists R l = .ok (zs, r) → ∃ v st', callL T 75 [.ptr b 0, .fn F []] st = some (.ret (.tup [v, .v (.int .i64 0)]), st') ∧ At b st' r ∧ Byt r ∧ r.length ≤ l.length ∧ Cur b st st' ∧ Li 2 g pl ok st' zs v) ∧
    (∀ e, lists R l = .error e → e ≠ 0 ∧ ∃ v st', callL T 75 [.ptr b 0, .fn F []] st = some (.ret (.tup [v, .v (.int .i64 e)]), st') ∧ Cur b st st' ∧ nilV v) := by
  intro b st l hat hb hlen
  obtain ⟨ok1, er1⟩ := length84 b st l hat hb hlen
  have main : ∀ n m, lenR l = .ok (n, m) → ∃ st1 : St, callL T 84 [.ptr b 0] st = some (.ret (.tup [.v (.int .i64 n), .v (.int .i64 0)]), st1) ∧ m.length ≤ l.length ∧
      (∀ zs r, lst R n.toNat m = .ok (zs, r) → ∃ v st', (∃ fr', (∀ fr : Fr, fr.only [0, 1, 8, 19, 20] = { s := [(0, .ptr b 0), (1, .fn F []), (8, .v (.slice none 0 0)), (19, .v (.int .i64 n)), (20, .v (.int .i64 0))], d := [] } → runL T (.loop [0, 1, 8, 19, 20] s75b0) fr st1 = some (.ex 0, fr', st')) ∧ fr'.only [8] = { s := [(8, v)], d := [] }) ∧ At b st' r ∧ Byt r ∧ r.length ≤ m.length ∧ Cur b st st' ∧ Li 2 g pl ok st' zs v) ∧
      (∀ e, lst R n.toNat m = .error e → e ≠ 0 ∧ ∃ st', (∀ fr : Fr, fr.only [0, 1, 8, 19, 20] = { s := [(0, .ptr b 0), (1, .fn F []), (8, .v (.slice none 0 0)), (19, .v (.int .i64 n)), (20, .v (.int .i64 0))], d := [] } → runL T (.loop [0, 1, 8, 19, 20] s75b0) fr st1 = some (.rt, { s := [(4, .v (.slice none 0 0)), (5, .v (.int .i64 e))], d := [] }, st')) ∧ Cur b st st') := by
    intro n m hn
    obtain ⟨v, st1, h1, h2, h3, h4, h5, rfl⟩ := ok1 _ _ hn
    obtain ⟨hnum, hle⟩ := lenR_ok hn
    obtain ⟨h0, _⟩ := num_ok hb hnum
    have e1 : ((n.toNat : Nat) : Int) = n := by omega
    have L := list75Loop hg hF b st n.toNat (by omega) n.toNat 0 (.v (.slice none 0 0)) [] st1 m (Nat.zero_add _) rfl (by simp) h2 h3 (by omega) h5 .nil
    rw [e1] at L
    refine ⟨st1, h1, h4, fun zs r h => ?_, fun e h => ?_⟩
    · obtain ⟨y, ys, fr', st', k1, k2, k3, k4, k5, k6, k7, k8, k9⟩ := L.1 _ _ h
      refine ⟨y, st', ⟨fr', fun fr hfr => loop_use k1 fr (by rw [hfr]; simp), k2⟩, k3, k4, k5, k6, ys, k7, by simpa using k8.app, k9⟩
    · obtain ⟨he, st', k1, k2⟩ := L.2 _ h
      exact ⟨he, st', fun fr hfr => loop_use k1 fr (by rw [hfr]; simp), k2⟩
  refine ⟨fun zs r h => ?_, fun e h => ?_⟩
  · obtain ⟨n, m, hn, hl⟩ := lists_ok h
    obtain ⟨st1, h1, h2, h3, _⟩ := main n m hn
    obtain ⟨v, st', ⟨fr', k1, k2⟩, k3, k4, k5, k6, k7⟩ := h3 _ _ hl
    refine ⟨v, st', ?_, k3, k4, by omega, k6, k7⟩
    rw [call_whole T75 (.inl rfl) rfl]
    simp [inner_eq, s75, h1]
    rw [k1 _ (by simp)]
    simp [k2]
  · rcases lists_err h with hn | ⟨n, m, hn, hl⟩
    · obtain ⟨h0, v, st', h1, h2, n, rfl⟩ := er1 _ hn
      refine ⟨h0, _, st', ?_, h2, rfl⟩
      rw [call_whole T75 (.inl rfl) rfl]
      simp [inner_eq, s75, h1, h0]
    · obtain ⟨st1, h1, h2, _, h3⟩ := main n m hn
      obtain ⟨he, st', k1, k2⟩ := h3 _ hl
      refine ⟨he, _, st', ?_, k2, rfl⟩
      rw [call_whole T75 (.inl rfl) rfl]
      simp [inner_eq, s75, h1]
      rw [k1 _ (by simp)]
      simp

theorem list64Loop {α β : Type} {g : β → List AV} {pl : β → α} {ok : β → Prop} {F : FuncId} {R : List Int → Except Int (α × List Int)} (hg : ∀ x, ok x → (g x).length = 3) (hF : Rd F R (fun _ a v => El 3 g pl ok a v) (Bad 3)) (b : Nat) (s : St) (n : Nat) (hn : n ≤ 65536) :
    ∀ (k i : Nat) (x : AV) (xs : List β) (st : St) (l : List Int), i + k = n → xs.length = i → (∀ y ∈ xs, ok y) → At b st l → Byt l → l.length ≤ 1099511627776 → Cur b s st → AppN s.F.length st 3 x (xs.flatMap g) xs.length →
    (∀ zs r, lst R k l = .ok (zs, r) → ∃ y ys fr' st', runL T (.loop [0, 1, 8, 19, 20] s64b0) { s := [(0, .ptr b 0), (1, .fn F []), (8, x), (19, .v (.int .i64 n)), (20, .v (.int .i64 i))], d := [] } st = some (.ex 0, fr', st') ∧ fr'.only [8] = { s := [(8, y)], d := [] } ∧
      At b st' r ∧ Byt r ∧ r.length ≤ l.length ∧ Cur b s st' ∧ ys.map pl = zs ∧ AppN s.F.length st' 3 y ((xs ++ ys).flatMap g) (xs ++ ys).length ∧ ∀ y ∈ ys, ok y) ∧
    (∀ e, lst R k l = .error e → e ≠ 0 ∧ ∃ st', runL T (.loop [0, 1, 8, 19, 20] s64b0) { s := [(0, .ptr b 0), (1, .fn F []), (8, x), (19, .v (.int .i64 n)), (20, .v (.int .i64 i))], d := [] } st = some (.rt, { s := [(4, .v (.slice none 0 0)), (5, .v (.int .i64 e))], d := [] }, st') ∧ Cur b s st')
  | 0, i, x, xs, st, l, hi, _, _, hat, hb, _, hcur, hx => by
    refine ⟨fun zs r h => ?_, fun e h => by simp [lst] at h⟩
    simp only [lst, Except.ok.injEq, Prod.mk.injEq] at h
    obtain ⟨rfl, rfl⟩ := h
    refine ⟨x, [], ?s, st, ?a, ?b, hat, hb, Nat.le_refl _, hcur, rfl, by simpa using hx, by simp⟩
    case a =>
      rw [runL_loop]
      have : ¬ (i : Int) < n := by omega
      simp [s64b0, this]
      rfl
    case b => simp
  | k + 1, i, x, xs, st, l, hi, hxi, hxo, hat, hb, hlen, hcur, hx => by
    obtain ⟨okF, erF⟩ := hF b st l hat hb hlen
    have h1 : (i : Int) < n := by omega
    have hw : IntKind.wrap .i64 ((i : Int) + 1) = ((i + 1 : Nat) : Int) := by rw [wrap_i64 (by omega) (by omega)]; omega
    cases hR : R l with
    | error e =>
      refine ⟨fun zs r h => by simp [lst, hR] at h, fun e' h => ?_⟩
      simp only [lst, hR, Except.error.injEq] at h
      subst h
      obtain ⟨he, v, st1, hcall, hc1, cs, rfl, hcs⟩ := erF _ hR
      have hst := opStore_new (H := st1.H) (F := st1.F) (z := [.v (.int .i64 0), .v (.int .i64 0), .v (.slice none 0 0)]) (l := cs) (k := 3) rfl hcs
      refine ⟨he, { H := st1.H ++ [{ cells := cs, fz := false }], F := st1.F }, ?_, (hcur.trans hc1).trans Cur.alloc⟩
      rw [runL_loop]
      simp only [s64b0]
      simp [h1, hcall, hst, he]
    | ok p =>
      obtain ⟨a, m⟩ := p
      obtain ⟨v, st1, hcall, hat1, hb1, hm1, hc1, x1, cs, hpl, rfl, hcs, hexp, hok⟩ := okF _ _ hR
      have hst := opStore_new (H := st1.H) (F := st1.F) (z := [.v (.int .i64 0), .v (.int .i64 0), .v (.slice none 0 0)]) (l := cs) (k := 3) rfl hcs
      have hld := opLoad_new (H := st1.H) (F := st1.F) (l := cs) (b := false) hcs
      have hex := hexp { H := st1.H ++ [{ cells := cs, fz := false }], F := st1.F }
      have hgl := hg x1 hok
      obtain ⟨y, st2, hap, hA, hH, hrw⟩ := appN_append (s := s) (st := { H := st1.H ++ [{ cells := cs, fz := false }], F := st1.F }) (bytes := 40) (hcur.rows.trans hc1.rows) ((hx.later hc1.rows).later (st' := { H := st1.H ++ [{ cells := cs, fz := false }], F := st1.F }) (Rows.Le.refl st1)) (y := .sl (g x1) 1 .full) (ds := g x1) (m := 1) (.sl (by simp) (by omega)) (by omega) (by omega) (by simp only [most47]; omega) (by omega)
      have hcur2 : Cur b s st2 := (((hcur.trans hc1).trans Cur.alloc).sameH hH hrw)
      have hat2 : At b st2 m := (hat1.alloc (m := [{ cells := cs, fz := false }]) (F := st1.F)).sameH hH
      have hA' : AppN s.F.length st2 3 y ((xs ++ [x1]).flatMap g) (xs ++ [x1]).length := by simpa using hA
      have ih := list64Loop hg hF b s n hn k (i + 1) y (xs ++ [x1]) st2 m (by omega) (by simp [hxi]) (fun z hz => by
        rcases List.mem_append.1 hz with h | h
        · exact hxo z h
        · simp at h; subst h; exact hok) hat2 hb1 (by omega) hcur2 hA'
      have step : runL T (.loop [0, 1, 8, 19, 20] s64b0) { s := [(0, .ptr b 0), (1, .fn F []), (8, x), (19, .v (.int .i64 n)), (20, .v (.int .i64 i))], d := [] } st =
          runL T (.loop [0, 1, 8, 19, 20] s64b0) { s := [(0, .ptr b 0), (1, .fn F []), (8, y), (19, .v (.int .i64 n)), (20, .v (.int .i64 (i + 1 : Nat)))], d := [] } st2 := by
        rw [runL_loop]
        generalize hL : SCode.loop [0, 1, 8, 19, 20] s64b0 = L
        simp only [s64b0]
        simp [h1, hcall, hst, hld, hcs, hex, hap, hw, -expL]
        subst hL
        refine loop_from ?_
        simp
      rw [step]
      refine ⟨fun zs r h => ?_, fun e h => ?_⟩
      · simp only [lst, hR] at h
        split at h
        · rename_i zs' r2 hr2
          cases h
          obtain ⟨y', ys, fr', st', k1, k2, k3, k4, k5, k6, k7, k8, k9⟩ := ih.1 _ _ hr2
          refine ⟨y', x1 :: ys, fr', st', k1, k2, k3, k4, by omega, k6, by simp [k7, hpl], by simpa using k8, fun z hz => ?_⟩
          rcases List.mem_cons.1 hz with rfl | hz
          · exact hok
          · exact k9 z hz
        · cases h
      · simp only [lst, hR] at h
        split at h
        · cases h
        · rename_i hr2
          cases h
          exact ih.2 _ hr2

theorem list64 {α β : Type} {g : β → List AV} {pl : β → α} {ok : β → Prop} {F : FuncId} {R : List Int → Except Int (α × List Int)} (hg : ∀ x, ok x → (g x).length = 3) (hF : Rd F R (fun _ a v => El 3 g pl ok a v) (Bad 3)) :
    ∀ (b : Nat) (st : St) (l : List Int), At b st l → Byt l → l.length ≤ 1099511627776 →
    (∀ zs r, lists R l = .ok (zs, r) → ∃ v st', callL T 64 [.ptr b 0, .fn F []] st = some (.ret (.tup [v, .v (.int .i64 0)]), st') ∧ At b st' r ∧ Byt r ∧ r.length ≤ l.length ∧ Cur b st st' ∧ Li 3 g pl ok st' zs v) ∧
    (∀ e, lists R l = .error e → e ≠ 0 ∧ ∃ v st', callL T 64 [.ptr b 0, .fn F []] st = some (.ret (.tup [v, .v (.int .i64 e)]), st') ∧ Cur b st st' ∧ nilV v) := by
  intro b st l hat hb hlen
  obtain ⟨ok1, er1⟩ := length84 b st l hat hb hlen
  have main : ∀ n m, lenR l = .ok (n, m) → ∃ st1 : St, callL T 84 [.ptr b 0] st = some (.ret (.tup [.v (.int .i64 n), .v (.int .i64 0)]), st1) ∧ m.length ≤ l.length ∧
      (∀ zs r, lst R n.toNat m = .ok (zs, r) → ∃ v st', (∃ fr', (∀ fr : Fr, fr.only [0, 1, 8, 19, 20] = { s := [(0, .ptr b 0), (1, .fn F []), (8, .v (.slice none 0 0)), (19, .v (.int .i64 n)), (20, .v (.int .i64 0))], d := [] } → runL T (.loop [0, 1, 8, 19, 20] s64b0) fr st1 = some (.ex 0, fr', st')) ∧ fr'.only [8] = { s := [(8, v)], d := [] }) ∧ At b st' r ∧ Byt r ∧ r.length ≤ m.length ∧ Cur b st st' ∧ Li 3 g pl ok st' zs v) ∧
      (∀ e, lst R n.toNat m = .error e → e ≠ 0 ∧ ∃ st', (∀ fr : Fr, fr.only [0, 1, 8, 19, 20] = { s := [(0, .ptr b 0), (1, .fn F []), (8, .v (.slice none 0 0)), (19, .v (.int .i64 n)), (20, .v (.int .i64 0))], d := [] } → runL T (.loop [0, 1, 8, 19, 20] s64b0) fr st1 = some (.rt, { s := [(4, .v (.slice none 0 0)), (5, .v (.int .i64 e))], d := [] }, st')) ∧ Cur b st st') := by
    intro n m hn
    obtain ⟨v, st1, h1, h2, h3, h4, h5, rfl⟩ := ok1 _ _ hn
    obtain ⟨hnum, hle⟩ := lenR_ok hn
    obtain ⟨h0, _⟩ := num_ok hb hnum
    have e1 : ((n.toNat : Nat) : Int) = n := by omega
    have L := list64Loop hg hF b st n.toNat (by omega) n.toNat 0 (.v (.slice none 0 0)) [] st1 m (Nat.zero_add _) rfl (by simp) h2 h3 (by omega) h5 .nil
    rw [e1] at L
    refine ⟨st1, h1, h4, fun zs r h => ?_, fun e h => ?_⟩
    · obtain ⟨y, ys, fr', st', k1, k2, k3, k4, k5, k6, k7, k8, k9⟩ := L.1 _ _ h
      refine ⟨y, st', ⟨fr', fun fr hfr => loop_use k1 fr (by rw [hfr]; simp), k2⟩, k3, k4, k5, k6, ys, k7, by simpa using k8.app, k9⟩
    · obtain ⟨he, st', k1, k2⟩ := L.2 _ h
      exact ⟨he, st', fun fr hfr => loop_use k1 fr (by rw [hfr]; simp), k2⟩
  refine ⟨fun zs r h => ?_, fun e h => ?_⟩
  · obtain ⟨n, m, hn, hl⟩ := lists_ok h
    obtain ⟨st1, h1, h2, h3, _⟩ := main n m hn
    obtain ⟨v, st', ⟨fr', k1, k2⟩, k3, k4, k5, k6, k7⟩ := h3 _ _ hl
    refine ⟨v, st', ?_, k3, k4, by omega, k6, k7⟩
    rw [call_whole T64 (.inl rfl) rfl]
    simp [inner_eq, s64, h1]
    rw [k1 _ (by simp)]
    simp [k2]
  · rcases lists_err h with hn | ⟨n, m, hn, hl⟩
    · obtain ⟨h0, v, st', h1, h2, n, rfl⟩ := er1 _ hn
      refine ⟨h0, _, st', ?_, h2, rfl⟩
      rw [call_whole T64 (.inl rfl) rfl]
      simp [inner_eq, s64, h1, h0]
    · obtain ⟨st1, h1, h2, _, h3⟩ := main n m hn
      obtain ⟨he, st', k1, k2⟩ := h3 _ hl
      refine ⟨he, _, st', ?_, k2, rfl⟩
      rw [call_whole T64 (.inl rfl) rfl]
      simp [inner_eq, s64, h1]
      rw [k1 _ (by simp)]
      simp

def gi (n : Int) : List AV := [.v (.int .i64 n)]

theorem list70Loop (b : Nat) (s : St) (n : Nat) (hn : n ≤ 65536) :
    ∀ (k i : Nat) (x : AV) (xs : List Int) (st : St) (l : List Int), i + k = n → xs.length = i → At b st l → Byt l → l.length ≤ 1099511627776 → Cur b s st → AppN s.F.length st 1 x (xs.flatMap gi) xs.length →
    (∀ zs r, lst num k l = .ok (zs, r) → ∃ y ys fr' st', runL T (.loop [0, 1, 8, 19, 20] s70b0) { s := [(0, .ptr b 0), (1, .fn 61 []), (8, x), (19, .v (.int .i64 n)), (20, .v (.int .i64 i))], d := [] } st = some (.ex 0, fr', st') ∧ fr'.only [8] = { s := [(8, y)], d := [] } ∧
      At b st' r ∧ Byt r ∧ r.length ≤ l.length ∧ Cur b s st' ∧ ys = zs ∧ AppN s.F.length st' 1 y ((xs ++ ys).flatMap gi) (xs ++ ys).length) ∧
    (∀ e, lst num k l = .error e → e ≠ 0 ∧ ∃ st', runL T (.loop [0, 1, 8, 19, 20] s70b0) { s := [(0, .ptr b 0), (1, .fn 61 []), (8, x), (19, .v (.int .i64 n)), (20, .v (.int .i64 i))], d := [] } st = some (.rt, { s := [(4, .v (.slice none 0 0)), (5, .v (.int .i64 e))], d := [] }, st') ∧ Cur b s st')
  | 0, i, x, xs, st, l, hi, _, hat, hb, _, hcur, hx => by
    refine ⟨fun zs r h => ?_, fun e h => by simp [lst] at h⟩
    simp only [lst, Except.ok.injEq, Prod.mk.injEq] at h
    obtain ⟨rfl, rfl⟩ := h
    refine ⟨x, [], ?s, st, ?a, ?b, hat, hb, Nat.le_refl _, hcur, rfl, by simpa using hx⟩
    case a =>
      rw [runL_loop]
      have : ¬ (i : Int) < n := by omega
      simp [s70b0, this]
      rfl
    case b => simp
  | k + 1, i, x, xs, st, l, hi, hxi, hat, hb, hlen, hcur, hx => by
    obtain ⟨okF, erF⟩ := number b st l hat hb hlen
    have h1 : (i : Int) < n := by omega
    have hw : IntKind.wrap .i64 ((i : Int) + 1) = ((i + 1 : Nat) : Int) := by rw [wrap_i64 (by omega) (by omega)]; omega
    cases hR : num l with
    | error e =>
      refine ⟨fun zs r h => by simp [lst, hR] at h, fun e' h => ?_⟩
      simp only [lst, hR, Except.error.injEq] at h
      subst h
      obtain ⟨he, v, st1, hcall, hc1, rfl⟩ := erF _ hR
      refine ⟨he, st1, ?_, hcur.trans hc1⟩
      rw [runL_loop]
      simp only [s70b0]
      simp [h1, hcall, he]
    | ok p =>
      obtain ⟨a, m⟩ := p
      obtain ⟨v, st1, hcall, hat1, hb1, hm1, hc1, rfl⟩ := okF _ _ hR
      obtain ⟨y, st2, hap, hA, hH, hrw⟩ := appN_append (s := s) (st := st1) (bytes := 8) (hcur.rows.trans hc1.rows) (hx.later hc1.rows) (y := .sl (gi a) 1 .full) (ds := gi a) (m := 1) (.sl (by simp) (by simp [gi])) (by omega) (by omega) (by simp only [most47]; omega) (by omega)
      simp only [gi] at hap
      have hcur2 : Cur b s st2 := ((hcur.trans hc1).sameH hH hrw)
      have hat2 : At b st2 m := hat1.sameH hH
      have hA' : AppN s.F.length st2 1 y ((xs ++ [a]).flatMap gi) (xs ++ [a]).length := by simpa using hA
      have ih := list70Loop b s n hn k (i + 1) y (xs ++ [a]) st2 m (by omega) (by simp [hxi]) hat2 hb1 (by omega) hcur2 hA'
      have step : runL T (.loop [0, 1, 8, 19, 20] s70b0) { s := [(0, .ptr b 0), (1, .fn 61 []), (8, x), (19, .v (.int .i64 n)), (20, .v (.int .i64 i))], d := [] } st =
          runL T (.loop [0, 1, 8, 19, 20] s70b0) { s := [(0, .ptr b 0), (1, .fn 61 []), (8, y), (19, .v (.int .i64 n)), (20, .v (.int .i64 (i + 1 : Nat)))], d := [] } st2 := by
        rw [runL_loop]
        generalize hL : SCode.loop [0, 1, 8, 19, 20] s70b0 = L
        simp only [s70b0]
        simp [h1, hcall, hap, hw]
        subst hL
        refine loop_from ?_
        simp
      rw [step]
      refine ⟨fun zs r h => ?_, fun e h => ?_⟩
      · simp only [lst, hR] at h
        split at h
        · rename_i zs' r2 hr2
          cases h
          obtain ⟨y', ys, fr', st', k1, k2, k3, k4, k5, k6, k7, k8⟩ := ih.1 _ _ hr2
          refine ⟨y', a :: ys, fr', st', k1, k2, k3, k4, by omega, k6, by simp [k7], by simpa using k8⟩
        · cases h
      · simp only [lst, hR] at h
        split at h
        · cases h
        · rename_i hr2
          cases h
          exact ih.2 _ hr2

theorem list70  :
    ∀ (b : Nat) (st : St) (l : List Int), At b st l → Byt l → l.length ≤ 1099511627776 →
    (∀ zs r, lists num l = .ok (zs, r) → ∃ v st', callL T 70 [.ptr b 0, .fn 61 []] st = some (.ret (.tup [v, .v (.int .i64 0)]), st') ∧ At b st' r ∧ Byt r ∧ r.length ≤ l.length ∧ Cur b st st' ∧ Li 1 gi id (fun _ => True) st' zs v) ∧
    (∀ e, lists num l = .error e → e ≠ 0 ∧ ∃ v st', callL T 70 [.ptr b 0, .fn 61 []] st = some (.ret (.tup [v, .v (.int .i64 e)]), st') ∧ Cur b st st' ∧ nilV v) := by
  intro b st l hat hb hlen
  obtain ⟨ok1, er1⟩ := length84 b st l hat hb hlen
  have main : ∀ n m, lenR l = .ok (n, m) → ∃ st1 : St, callL T 84 [.ptr b 0] st = some (.ret (.tup [.v (.int .i64 n), .v (.int .i64 0)]), st1) ∧ m.length ≤ l.length ∧
      (∀ zs r, lst num n.toNat m = .ok (zs, r) → ∃ v st', (∃ fr', (∀ fr : Fr, fr.only [0, 1, 8, 19, 20] = { s := [(0, .ptr b 0), (1, .fn 61 []), (8, .v (.slice none 0 0)), (19, .v (.int .i64 n)), (20, .v (.int .i64 0))], d := [] } → runL T (.loop [0, 1, 8, 19, 20] s70b0) fr st1 = some (.ex 0, fr', st')) ∧ fr'.only [8] = { s := [(8, v)], d := [] }) ∧ At b st' r ∧ Byt r ∧ r.length ≤ m.length ∧ Cur b st st' ∧ Li 1 gi id (fun _ => True) st' zs v) ∧
      (∀ e, lst num n.toNat m = .error e → e ≠ 0 ∧ ∃ st', (∀ fr : Fr, fr.only [0, 1, 8, 19, 20] = { s := [(0, .ptr b 0), (1, .fn 61 []), (8, .v (.slice none 0 0)), (19, .v (.int .i64 n)), (20, .v (.int .i64 0))], d := [] } → runL T (.loop [0, 1, 8, 19, 20] s70b0) fr st1 = some (.rt, { s := [(4, .v (.slice none 0 0)), (5, .v (.int .i64 e))], d := [] }, st')) ∧ Cur b st st') := by
    intro n m hn
    obtain ⟨v, st1, h1, h2, h3, h4, h5, rfl⟩ := ok1 _ _ hn
    obtain ⟨hnum, hle⟩ := lenR_ok hn
    obtain ⟨h0, _⟩ := num_ok hb hnum
    have e1 : ((n.toNat : Nat) : Int) = n := by omega
    have L := list70Loop  b st n.toNat (by omega) n.toNat 0 (.v (.slice none 0 0)) [] st1 m (Nat.zero_add _) rfl h2 h3 (by omega) h5 .nil
    rw [e1] at L
    refine ⟨st1, h1, h4, fun zs r h => ?_, fun e h => ?_⟩
    · obtain ⟨y, ys, fr', st', k1, k2, k3, k4, k5, k6, k7, k8⟩ := L.1 _ _ h
      refine ⟨y, st', ⟨fr', fun fr hfr => loop_use k1 fr (by rw [hfr]; simp), k2⟩, k3, k4, k5, k6, ys, by simp [k7], by simpa using k8.app, by simp⟩
    · obtain ⟨he, st', k1, k2⟩ := L.2 _ h
      exact ⟨he, st', fun fr hfr => loop_use k1 fr (by rw [hfr]; simp), k2⟩
  refine ⟨fun zs r h => ?_, fun e h => ?_⟩
  · obtain ⟨n, m, hn, hl⟩ := lists_ok h
    obtain ⟨st1, h1, h2, h3, _⟩ := main n m hn
    obtain ⟨v, st', ⟨fr', k1, k2⟩, k3, k4, k5, k6, k7⟩ := h3 _ _ hl
    refine ⟨v, st', ?_, k3, k4, by omega, k6, k7⟩
    rw [call_whole T70 (.inl rfl) rfl]
    simp [inner_eq, s70, h1]
    rw [k1 _ (by simp)]
    simp [k2]
  · rcases lists_err h with hn | ⟨n, m, hn, hl⟩
    · obtain ⟨h0, v, st', h1, h2, n, rfl⟩ := er1 _ hn
      refine ⟨h0, _, st', ?_, h2, rfl⟩
      rw [call_whole T70 (.inl rfl) rfl]
      simp [inner_eq, s70, h1, h0]
    · obtain ⟨st1, h1, h2, _, h3⟩ := main n m hn
      obtain ⟨he, st', k1, k2⟩ := h3 _ hl
      refine ⟨he, _, st', ?_, k2, rfl⟩
      rw [call_whole T70 (.inl rfl) rfl]
      simp [inner_eq, s70, h1]
      rw [k1 _ (by simp)]
      simp

end VS
end Go.Proofs.Ytohfbjgcfbkgnaa
