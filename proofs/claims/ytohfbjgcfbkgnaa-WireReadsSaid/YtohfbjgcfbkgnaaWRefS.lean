/- The reference's readers of sectors and writes. -/
import Derived.Test.YtohfbjgcfbkgnaaWRefR
namespace Go.Proofs.Ytohfbjgcfbkgnaa
namespace VS

theorem expL_cons' {st : St} {a b : AV} {r l : List AV} (h : exp0 st a = some (b, st)) (hr : expL st r = some (l, st)) : expL st (a :: r) = some (b :: l, st) := by
  simp only [expL, h, hr]
theorem opStore_cell {H : List HB} {F : List (Nat × Nat)} {z : List AV} {k : Nat} {x : Value} (hk : k + 1 ≤ z.length) : opStore { H := H ++ [{ cells := z, fz := false }], F := F } 1 (.ptr H.length k) (.v x) = some { H := H ++ [{ cells := z.take k ++ [.v x] ++ z.drop (k + 1), fz := false }], F := F } := by
  simp [opStore, hk]

def part8 (l : List Int) (k : Nat) : List AV := bys (l.take k) ++ List.replicate (8 - k) (.v (.int .u8 0))
theorem part8_len {l : List Int} {k : Nat} (hl : 8 ≤ l.length) (hk : k ≤ 8) : (part8 l k).length = 8 := by
  simp only [part8, List.length_append, bys_length, List.length_take, List.length_replicate]; omega
theorem part8_next {l : List Int} {k : Nat} (hl : 8 ≤ l.length) (hk : k < 8) : (part8 l k).take k ++ [.v (.int .u8 (l[k]'(by omega)))] ++ (part8 l k).drop (k + 1) = part8 l (k + 1) := by
  have hk1 : k < l.length := by omega
  have h1 : (bys (l.take k)).length = k := by simp; omega
  have h2 : (part8 l k).take k = bys (l.take k) := by
    rw [part8, List.take_append_of_le_length (by omega), List.take_of_length_le (by omega)]
  have h3 : (part8 l k).drop (k + 1) = List.replicate (8 - (k + 1)) (.v (.int .u8 0)) := by
    rw [part8, List.drop_append, List.drop_of_length_le (by omega), List.nil_append, h1, List.drop_replicate]
    congr 1; omega
  have h4 : bys (l.take (k + 1)) = bys (l.take k) ++ [.v (.int .u8 l[k])] := by
    rw [List.take_succ_eq_append_getElem hk1, bys_append]; rfl
  rw [h2, h3, part8, h4]

theorem in39 {l : List Int} (t : Tag) (h8 : 8 ≤ l.length) (n out i : AV) (H : List HB) (F : List (Nat × Nat)) : ∀ (m k : Nat), k + m = 8 →
    ∃ fr', runL T (.loop [0, 5, 7, 8, 9, 10] s39b0) { s := [(0, .sl (bys l) l.length t), (5, n), (7, out), (8, i), (9, .ptr H.length 0), (10, .v (.int .i64 k))], d := [] } { H := H ++ [{ cells := part8 l k, fz := false }], F := F } =
      some (.ex 2, fr', { H := H ++ [{ cells := bys (l.take 8), fz := false }], F := F }) ∧ fr'.only [0, 5, 7, 8, 9] = { s := [(0, .sl (bys l) l.length t), (5, n), (7, out), (8, i), (9, .ptr H.length 0)], d := [] }
  | 0, k, hk => by
    have : k = 8 := by omega
    subst this
    have hp : part8 l 8 = bys (l.take 8) := by simp [part8]
    rw [hp]
    refine ⟨?s, ?a, ?b⟩
    case a =>
      rw [runL_loop]
      simp [s39b0]
      rfl
    case b => simp
  | m + 1, k, hk => by
    have h1 : (k : Int) < 8 := by omega
    have h2 : (k : Int) < l.length := by omega
    have hw : IntKind.wrap .i64 ((k : Int) + 1) = ((k + 1 : Nat) : Int) := by rw [wrap_i64 (by omega) (by omega)]; omega
    have hget := bys_get l k (by omega)
    have hst := opStore_cell (H := H) (F := F) (z := part8 l k) (k := k) (x := .int .u8 (l[k]'(by omega))) (by rw [part8_len h8 (by omega)]; omega)
    rw [part8_next h8 (by omega)] at hst
    obtain ⟨fr', hr, hfr⟩ := in39 t h8 n out i H F m (k + 1) (by omega)
    refine ⟨fr', ?_, hfr⟩
    rw [runL_loop]
    generalize hL : SCode.loop [0, 5, 7, 8, 9, 10] s39b0 = L
    generalize part8 l (k + 1) = P1 at *
    generalize part8 l k = P0 at *
    simp only [s39b0]
    simp [h1, h2, opLoad_ep, hget, hst, hw]
    subst hL
    refine (loop_from ?_).trans hr
    simp

theorem step39 : RStep (.loop [0, 5, 7, 8] s39b1) 8 bys id Sec secR := by
  intro i n x out l xs st hi hn hxs hx hb hlen hA
  have h1 : (i : Int) < n := by omega
  have hw : IntKind.wrap .i64 ((i : Int) + 1) = ((i + 1 : Nat) : Int) := by rw [wrap_i64 (by omega) (by omega)]; omega
  have hk := hx.isL.len
  refine ⟨fun a r h => ?_, fun e h => ?_⟩
  · unfold secR at h
    split at h
    · cases h
    · rename_i h8
      cases h
      have h8' : 8 ≤ l.length := by omega
      have h8i : ¬ (l.length : Int) < 8 := by omega
      have hl8 : (l.take 8).length = 8 := by rw [List.length_take]; omega
      obtain ⟨t, rfl, ht⟩ := hx.form (by omega)
      obtain ⟨fr', hr, hfr⟩ := in39 t h8' (.v (.int .i64 n)) out (.v (.int .i64 i)) st.H st.F 8 0 rfl
      have hp0 : part8 l 0 = [.v (.int .u8 0), .v (.int .u8 0), .v (.int .u8 0), .v (.int .u8 0), .v (.int .u8 0), .v (.int .u8 0), .v (.int .u8 0), .v (.int .u8 0)] := by simp [part8, List.replicate]
      rw [hp0] at hr
      have hu := loop_use hr
      have hld := opLoad_new (H := st.H) (F := st.F) (l := bys (l.take 8)) (b := false) (k := 8) (by simp [hl8])
      obtain ⟨o, st', hap, hB, _⟩ := app_append (st := { H := st.H ++ [{ cells := bys (l.take 8), fz := false }], F := st.F }) (bytes := 8) (hA.move rfl) (y := .sl (bys (l.take 8)) 1 .full) (ds := bys (l.take 8)) (m := 1) (.sl (by simp) (by simp [hl8])) (by omega) (by simp only [most47]; omega) (by omega)
      obtain ⟨y, hy, hyl⟩ := rest78 hx hlen (n := 8) h8' st'
      have hy8 : callL T 78 [.sl (bys l) l.length t, .v (.int .i64 8)] st' = some (.ret y, st') := hy
      have hcl : (bys (l.take 8)).length = 8 := by simp [hl8]
      have hex := expL_bys (l.take 8) { H := st.H ++ [{ cells := bys (l.take 8), fz := false }], F := st.F }
      refine ⟨y, o, l.take 8, st', ?_, hyl, hb.drop 8, by rw [List.length_drop]; omega, by simpa using hB, rfl, hl8, hb.take 8⟩
      rw [runL_loop]
      generalize hL : SCode.loop [0, 5, 7, 8] s39b1 = L
      simp only [s39b1, rfr]
      generalize bys (l.take 8) = P at *
      simp [h1, h8i]
      rw [hu _ (by simp)]
      simp [hfr, hld, hcl, hex, hap, hy8, hw, -expL]
      subst hL
      refine loop_from ?_
      simp
  · unfold secR at h
    split at h
    · rename_i h8
      cases h
      have h8i : (l.length : Int) < 8 := by omega
      refine ⟨by omega, st, ?_⟩
      rw [runL_loop]
      simp only [s39b1, rfr]
      simp [h1, hk, h8i]
    · cases h

theorem stop39 (n : Nat) (x out : AV) (st : St) : ∃ fr', runL T (.loop [0, 5, 7, 8] s39b1) (rfr x n out n) st = some (.ex 0, fr', st) ∧ fr'.only [0, 7] = { s := [(0, x), (7, out)], d := [] } := by
  refine ⟨?s, ?a, ?b⟩
  case a =>
    rw [runL_loop]
    simp [s39b1, rfr]
    rfl
  case b => simp

theorem ref39 : Pub 39 (lists secR) fSecs (.v (.slice none 0 0)) := by
  intro x l hx hb hlen st
  obtain ⟨x', hx1, hx2, _⟩ := hx.exps
  obtain ⟨ok, er⟩ := ref79 hx2 hb hlen .mt
  rw [call_plain T39 rfl rfl (expA_cons (hx1 st) rfl)]
  have main : ∀ n m, lenR l = .ok (n, m) → ∃ y, callL T 79 [x'] .mt = some (.ret (.tup [.v (.int .i64 n), y, .v (.int .i64 0)]), .mt) ∧ m.length ≤ l.length ∧
      (∀ zs r, lst secR n.toNat m = .ok (zs, r) → ∃ v u w st', (∃ fr', (∀ fr : Fr, fr.only [0, 5, 7, 8] = { s := [(0, y), (5, .v (.int .i64 n)), (7, .v (.slice none 0 0)), (8, .v (.int .i64 0))], d := [] } → runL T (.loop [0, 5, 7, 8] s39b1) fr .mt = some (.ex 0, fr', st')) ∧ fr'.only [0, 7] = { s := [(0, u), (7, v)], d := [] }) ∧ IsB u r ∧ Byt r ∧ r.length ≤ m.length ∧ (∀ s, exp1 s v = some (w, s)) ∧ fSecs zs w) ∧
      (∀ e, lst secR n.toNat m = .error e → e ≠ 0 ∧ ∃ st', (∀ fr : Fr, fr.only [0, 5, 7, 8] = { s := [(0, y), (5, .v (.int .i64 n)), (7, .v (.slice none 0 0)), (8, .v (.int .i64 0))], d := [] } → runL T (.loop [0, 5, 7, 8] s39b1) fr .mt = some (.rt, { s := [(2, .v (.slice none 0 0)), (3, .v (.slice none 0 0)), (4, .v (.int .i64 e))], d := [] }, st'))) := by
    intro n m hn
    obtain ⟨v, y, h1, h2, h3, h4, rfl⟩ := ok _ _ hn
    obtain ⟨hnum, hle⟩ := lenR_ok hn
    obtain ⟨h0, _⟩ := num_ok hb hnum
    have e1 : ((n.toNat : Nat) : Int) = n := by omega
    have L := refList step39 stop39 n.toNat (by omega) n.toNat 0 y (.v (.slice none 0 0)) m [] .mt (Nat.zero_add _) rfl (by simp) h2 h3 (by omega) .nil
    rw [e1] at L
    refine ⟨y, h1, h4, fun zs r h => ?_, fun e h => ?_⟩
    · obtain ⟨u, v, ys, fr', st', k1, k2, k3, k4, k5, k6, k7, k8⟩ := L.1 _ _ h
      obtain ⟨w, hw1, hw2⟩ := oSecs st' zs v ⟨ys, k6, by simpa using k7, k8⟩
      exact ⟨v, u, w, st', ⟨fr', fun fr hfr => loop_use k1 fr (by rw [hfr]; simp [rfr]), k2⟩, k3, k4, k5, hw1, hw2⟩
    · obtain ⟨he, st', k1⟩ := L.2 _ h
      exact ⟨he, st', fun fr hfr => loop_use k1 fr (by rw [hfr]; simp [rfr])⟩
  refine ⟨fun zs r h => ?_, fun e h => ?_⟩
  · obtain ⟨n, m, hn, hl⟩ := lists_ok h
    obtain ⟨y, h1, h2, h3, _⟩ := main n m hn
    obtain ⟨v, u, w, st', ⟨fr', k1, k2⟩, k3, k4, k5, k6, k7⟩ := h3 _ _ hl
    obtain ⟨u', hu1, hu2, _⟩ := k3.exps
    refine ⟨w, u', ?_, hu2, k4, by omega, k7⟩
    simp [inner_eq, s39, h1]
    rw [k1 _ (by simp)]
    simp [k2, dropped, expR, expA, k6, hu1]
  · rcases lists_err h with hn | ⟨n, m, hn, hl⟩
    · obtain ⟨h0, h1⟩ := er _ hn
      refine ⟨h0, ?_⟩
      simp [inner_eq, s39, h1, h0, dropped, expR, expA]
    · obtain ⟨y, h1, h2, _, h3⟩ := main n m hn
      obtain ⟨he, st', k1⟩ := h3 _ hl
      refine ⟨he, ?_⟩
      simp [inner_eq, s39, h1]
      rw [k1 _ (by simp)]
      simp [dropped, expR, expA]

theorem step43 : RStep (.loop [0, 5, 7, 8] s43b0) 3 gw plw Wr.Fit wrR := by
  intro i n x out l xs st hi hn hxs hx hb hlen hA
  obtain ⟨ok, er⟩ := ref35 hx hb hlen st
  have h1 : (i : Int) < n := by omega
  have hw : IntKind.wrap .i64 ((i : Int) + 1) = ((i + 1 : Nat) : Int) := by rw [wrap_i64 (by omega) (by omega)]; omega
  refine ⟨fun q r h => ?_, fun e h => ?_⟩
  · obtain ⟨m, hp, hd⟩ := wrR_ok h
    obtain ⟨m1, hn1, hn2⟩ := pairR_ok hp
    obtain ⟨v, y, c1, c2, c3, c4, rfl⟩ := ok _ _ hn1
    obtain ⟨v, z, d1, d2, d3, d4, rfl⟩ := (ref35 c2 c3 (by omega) st).1 _ _ hn2
    obtain ⟨v, u, e1, e2, e3, e4, e5, e6⟩ := (ref39 d2 d3 (by omega) st).1 _ _ hd
    obtain ⟨v', hv1, hv2, hv3⟩ := e5.exps
    have hone := e5.one
    obtain ⟨o, st', hap, hB, _⟩ := app_append (bytes := 40) hA (y := .sl [.v (.int .i64 q.1.1), .v (.int .i64 q.1.2), v'] 1 .full) (ds := gw ⟨q.1.1, q.1.2, v', q.2⟩) (m := 1) (.sl (by simp) rfl) (by omega) (by simp only [most47]; omega) (by omega)
    have hex : expL st [.v (.int .i64 q.1.1), .v (.int .i64 q.1.2), v] = some ([.v (.int .i64 q.1.1), .v (.int .i64 q.1.2), v'], st) := expL_cons' rfl (expL_cons' rfl (expL_cons' (hv3 st) rfl))
    refine ⟨u, o, ⟨q.1.1, q.1.2, v', q.2⟩, st', ?_, e2, e3, by omega, by simpa using hB, rfl, ⟨hv2, e6⟩⟩
    rw [runL_loop]
    generalize hL : SCode.loop [0, 5, 7, 8] s43b0 = L
    simp only [s43b0, rfr]
    simp [h1, c1, d1, e1, hone.1, hone.2, hex, hap, hw, -expL, -AV.cells, -AV.isTup, AV.cells.eq_1, AV.cells.eq_2, AV.isTup.eq_2]
    subst hL
    refine loop_from ?_
    simp
  · rcases wrR_err h with hp | ⟨p, m, hp, hd⟩
    · rcases pairR_err hp with hn1 | ⟨a, m, hn1, hn2⟩
      · obtain ⟨h0, c1⟩ := er _ hn1
        refine ⟨h0, st, ?_⟩
        rw [runL_loop]
        simp only [s43b0, rfr]
        simp [h1, c1, h0]
      · obtain ⟨v, y, c1, c2, c3, c4, rfl⟩ := ok _ _ hn1
        obtain ⟨h0, d1⟩ := (ref35 c2 c3 (by omega) st).2 _ hn2
        refine ⟨h0, st, ?_⟩
        rw [runL_loop]
        simp only [s43b0, rfr]
        simp [h1, c1, d1, h0]
    · obtain ⟨m1, hn1, hn2⟩ := pairR_ok hp
      obtain ⟨v, y, c1, c2, c3, c4, rfl⟩ := ok _ _ hn1
      obtain ⟨v, z, d1, d2, d3, d4, rfl⟩ := (ref35 c2 c3 (by omega) st).1 _ _ hn2
      obtain ⟨h0, e1⟩ := (ref39 d2 d3 (by omega) st).2 _ hd
      refine ⟨h0, st, ?_⟩
      rw [runL_loop]
      simp only [s43b0, rfr]
      simp [h1, c1, d1, e1, h0]

theorem stop43 (n : Nat) (x out : AV) (st : St) : ∃ fr', runL T (.loop [0, 5, 7, 8] s43b0) (rfr x n out n) st = some (.ex 0, fr', st) ∧ fr'.only [0, 7] = { s := [(0, x), (7, out)], d := [] } := by
  refine ⟨?s, ?a, ?b⟩
  case a =>
    rw [runL_loop]
    simp [s43b0, rfr]
    rfl
  case b => simp

theorem ref43 : Pub 43 (lists wrR) fWrs (.v (.slice none 0 0)) := by
  intro x l hx hb hlen st
  obtain ⟨x', hx1, hx2, _⟩ := hx.exps
  obtain ⟨ok, er⟩ := ref79 hx2 hb hlen .mt
  rw [call_plain T43 rfl rfl (expA_cons (hx1 st) rfl)]
  have main : ∀ n m, lenR l = .ok (n, m) → ∃ y, callL T 79 [x'] .mt = some (.ret (.tup [.v (.int .i64 n), y, .v (.int .i64 0)]), .mt) ∧ m.length ≤ l.length ∧
      (∀ zs r, lst wrR n.toNat m = .ok (zs, r) → ∃ v u w st', (∃ fr', (∀ fr : Fr, fr.only [0, 5, 7, 8] = { s := [(0, y), (5, .v (.int .i64 n)), (7, .v (.slice none 0 0)), (8, .v (.int .i64 0))], d := [] } → runL T (.loop [0, 5, 7, 8] s43b0) fr .mt = some (.ex 0, fr', st')) ∧ fr'.only [0, 7] = { s := [(0, u), (7, v)], d := [] }) ∧ IsB u r ∧ Byt r ∧ r.length ≤ m.length ∧ (∀ s, exp1 s v = some (w, s)) ∧ fWrs zs w) ∧
      (∀ e, lst wrR n.toNat m = .error e → e ≠ 0 ∧ ∃ st', (∀ fr : Fr, fr.only [0, 5, 7, 8] = { s := [(0, y), (5, .v (.int .i64 n)), (7, .v (.slice none 0 0)), (8, .v (.int .i64 0))], d := [] } → runL T (.loop [0, 5, 7, 8] s43b0) fr .mt = some (.rt, { s := [(2, .v (.slice none 0 0)), (3, .v (.slice none 0 0)), (4, .v (.int .i64 e))], d := [] }, st'))) := by
    intro n m hn
    obtain ⟨v, y, h1, h2, h3, h4, rfl⟩ := ok _ _ hn
    obtain ⟨hnum, hle⟩ := lenR_ok hn
    obtain ⟨h0, _⟩ := num_ok hb hnum
    have e1 : ((n.toNat : Nat) : Int) = n := by omega
    have L := refList step43 stop43 n.toNat (by omega) n.toNat 0 y (.v (.slice none 0 0)) m [] .mt (Nat.zero_add _) rfl (by simp) h2 h3 (by omega) .nil
    rw [e1] at L
    refine ⟨y, h1, h4, fun zs r h => ?_, fun e h => ?_⟩
    · obtain ⟨u, v, ys, fr', st', k1, k2, k3, k4, k5, k6, k7, k8⟩ := L.1 _ _ h
      obtain ⟨w, hw1, hw2⟩ := oWrs st' zs v ⟨ys, k6, by simpa using k7, k8⟩
      exact ⟨v, u, w, st', ⟨fr', fun fr hfr => loop_use k1 fr (by rw [hfr]; simp [rfr]), k2⟩, k3, k4, k5, hw1, hw2⟩
    · obtain ⟨he, st', k1⟩ := L.2 _ h
      exact ⟨he, st', fun fr hfr => loop_use k1 fr (by rw [hfr]; simp [rfr])⟩
  refine ⟨fun zs r h => ?_, fun e h => ?_⟩
  · obtain ⟨n, m, hn, hl⟩ := lists_ok h
    obtain ⟨y, h1, h2, h3, _⟩ := main n m hn
    obtain ⟨v, u, w, st', ⟨fr', k1, k2⟩, k3, k4, k5, k6, k7⟩ := h3 _ _ hl
    obtain ⟨u', hu1, hu2, _⟩ := k3.exps
    refine ⟨w, u', ?_, hu2, k4, by omega, k7⟩
    simp [inner_eq, s43, h1]
    rw [k1 _ (by simp)]
    simp [k2, dropped, expR, expA, k6, hu1]
  · rcases lists_err h with hn | ⟨n, m, hn, hl⟩
    · obtain ⟨h0, h1⟩ := er _ hn
      refine ⟨h0, ?_⟩
      simp [inner_eq, s43, h1, h0, dropped, expR, expA]
    · obtain ⟨y, h1, h2, _, h3⟩ := main n m hn
      obtain ⟨he, st', k1⟩ := h3 _ hl
      refine ⟨he, ?_⟩
      simp [inner_eq, s43, h1]
      rw [k1 _ (by simp)]
      simp [dropped, expR, expA]

end VS
end Go.Proofs.Ytohfbjgcfbkgnaa
