/- Packets and messages: what they are here, and their checks. -/
import Derived.Test.YtkhekmmldnjenaaLib1
namespace Go.Proofs.Ytkhekmmldnjenaa
namespace VS

/-- A packet. -/
structure Pk where
  kind : Int
  ses : Int
  seq : Int
  ack : Int
  cre : Int
  sel : AV
  pay : AV
  xs : List (Int × Int)
  bs : List Int
def gp (p : Pk) : List AV := [.v (.int .i64 p.kind), .v (.int .i64 p.ses), .v (.int .i64 p.seq), .v (.int .i64 p.ack), .v (.int .i64 p.cre), p.sel, p.pay]
structure Pk.Fit (p : Pk) : Prop where
  sel : IsL 2 p.sel (p.xs.flatMap gx) p.xs.length
  pay : IsB p.pay p.bs
  byt : Byt p.bs

def timeB (n : Int) : Bool := decide (0 ≤ n ∧ n ≤ 1073741824)
def numB (n : Int) : Bool := decide (0 ≤ n ∧ n ≤ 9007199254740991)

theorem time34 (n : Int) (st : St) : callL T 34 [.v (.int .i64 n)] st = some (.ret (.v (.bool (timeB n))), st) := by
  rw [call_plain T34 rfl rfl rfl]
  unfold timeB
  by_cases h : 0 ≤ n <;> simp [inner_eq, s34, h, dropped, expR]
theorem time36 (n : Int) (st : St) : callL T 36 [.v (.int .i64 n)] st = some (.ret (.v (.bool (timeB n))), st) := by
  rw [call_plain T36 rfl rfl rfl]
  unfold timeB
  by_cases h : 0 ≤ n <;> simp [inner_eq, s36, h, dropped, expR]
theorem number83 (n : Int) (st : St) : callL T 83 [.v (.int .i64 n)] st = some (.ret (.v (.bool (numB n))), st) := by
  rw [call_plain T83 rfl rfl rfl]
  unfold numB
  by_cases h : 0 ≤ n <;> simp [inner_eq, s83, h, dropped, expR]

/-- Extents behind a number, within a window. -/
def selS (ack : Int) : Int → List (Int × Int) → Bool
  | _, [] => true
  | e, (s, c) :: r => if s ≤ e ∨ c < 1 ∨ ack + 64 < s ∨ ack + 64 - s < c then false else selS ack (s + c) r

theorem selLoop35 {xs : List (Int × Int)} {ds : List AV} (t : Tag) (hf : Flat gx 2 xs ds) (ack : Int) (h0 : 0 ≤ ack) (h1 : ack ≤ 1073741824) (hlen : xs.length ≤ 1000000) : ∀ (k i : Nat) (e : Int) (st : St), i + k = xs.length → ack ≤ e → e ≤ ack + 64 →
    (selS ack e (xs.drop i) = true → ∃ fr' st', runL T (.loop [0, 5, 9, 10, 11] s35b0) { s := [(0, .v (.int .i64 ack)), (5, .v (.int .i64 e)), (9, .sl ds xs.length t), (10, .v (.int .i64 xs.length)), (11, .v (.int .i64 i))], d := [] } st = some (.ex 0, fr', st') ∧ fr'.only [] = { s := [], d := [] }) ∧
    (selS ack e (xs.drop i) = false → ∃ st', runL T (.loop [0, 5, 9, 10, 11] s35b0) { s := [(0, .v (.int .i64 ack)), (5, .v (.int .i64 e)), (9, .sl ds xs.length t), (10, .v (.int .i64 xs.length)), (11, .v (.int .i64 i))], d := [] } st = some (.rt, { s := [(4, .v (.bool false))], d := [] }, st'))
  | 0, i, e, st, hi, _, _ => by
    have hd : xs.drop i = [] := List.drop_eq_nil_of_le (by omega)
    refine ⟨fun _ => ⟨?s, st, ?a, ?b⟩, fun h => by simp [hd, selS] at h⟩
    case a =>
      rw [runL_loop]
      have : ¬ (i : Int) < xs.length := by omega
      simp [s35b0, this]
      rfl
    case b => simp
  | k + 1, i, e, st, hi, he0, he1 => by
    have hlt : i < xs.length := by omega
    have hd : xs.drop i = xs[i] :: xs.drop (i + 1) := List.drop_eq_getElem_cons hlt
    have hat := hf.at_ i hlt
    have hcs := hf.len
    have h2 : (i : Int) < xs.length := by omega
    have hw : IntKind.wrap .i64 ((i : Int) + 1) = ((i + 1 : Nat) : Int) := by rw [wrap_i64 (by omega) (by omega)]; omega
    have hle : i * 2 + 2 ≤ ds.length := by omega
    generalize hx : xs[i] = x at *
    obtain ⟨s, c⟩ := x
    have hw1 : IntKind.wrap .i64 (ack + 64) = ack + 64 := wrap_i64 (by omega) (by omega)
    rw [hd]
    simp only [selS]
    by_cases c1 : s ≤ e
    · refine ⟨fun h => by simp [c1] at h, fun _ => ⟨{ H := st.H ++ [{ cells := gx (s, c), fz := false }], F := st.F }, ?_⟩⟩
      rw [runL_loop]
      simp [s35b0, h2, opLoad, opStore, hle, hat, gx, c1]
    by_cases c2 : c < 1
    · refine ⟨fun h => by simp [c2] at h, fun _ => ⟨{ H := st.H ++ [{ cells := gx (s, c), fz := false }], F := st.F }, ?_⟩⟩
      rw [runL_loop]
      simp [s35b0, h2, opLoad, opStore, hle, hat, gx, c1, c2]
    by_cases c3 : ack + 64 < s
    · refine ⟨fun h => by simp [c3] at h, fun _ => ⟨{ H := st.H ++ [{ cells := gx (s, c), fz := false }], F := st.F }, ?_⟩⟩
      rw [runL_loop]
      simp [s35b0, h2, opLoad, opStore, hle, hat, gx, c1, c2, c3, hw1]
    have hw2 : IntKind.wrap .i64 (ack + 64 - s) = ack + 64 - s := wrap_i64 (by omega) (by omega)
    by_cases c4 : ack + 64 - s < c
    · refine ⟨fun h => by simp [c4] at h, fun _ => ⟨{ H := st.H ++ [{ cells := gx (s, c), fz := false }], F := st.F }, ?_⟩⟩
      rw [runL_loop]
      simp [s35b0, h2, opLoad, opStore, hle, hat, gx, c1, c2, c3, c4, hw1, hw2]
    have hw3 : IntKind.wrap .i64 (s + c) = s + c := wrap_i64 (by omega) (by omega)
    rw [if_neg (by omega)]
    have ih := selLoop35 t hf ack h0 h1 hlen k (i + 1) (s + c) { H := st.H ++ [{ cells := gx (s, c), fz := false }], F := st.F } (by omega) (by omega) (by omega)
    have step : runL T (.loop [0, 5, 9, 10, 11] s35b0) { s := [(0, .v (.int .i64 ack)), (5, .v (.int .i64 e)), (9, .sl ds xs.length t), (10, .v (.int .i64 xs.length)), (11, .v (.int .i64 i))], d := [] } st =
        runL T (.loop [0, 5, 9, 10, 11] s35b0) { s := [(0, .v (.int .i64 ack)), (5, .v (.int .i64 (s + c))), (9, .sl ds xs.length t), (10, .v (.int .i64 xs.length)), (11, .v (.int .i64 (i + 1 : Nat)))], d := [] } { H := st.H ++ [{ cells := gx (s, c), fz := false }], F := st.F } := by
      rw [runL_loop]
      generalize hL : SCode.loop [0, 5, 9, 10, 11] s35b0 = L
      simp [s35b0, h2, opLoad, opStore, hle, hat, gx, c1, c2, c3, c4, hw1, hw2, hw3, hw]
      subst hL
      refine loop_from ?_
      simp
    rw [step]
    exact ih

theorem selLoop37 {xs : List (Int × Int)} {ds : List AV} (t : Tag) (hf : Flat gx 2 xs ds) (ack : Int) (h0 : 0 ≤ ack) (h1 : ack ≤ 1073741824) (hlen : xs.length ≤ 1000000) : ∀ (k i : Nat) (e : Int) (st : St), i + k = xs.length → ack ≤ e → e ≤ ack + 64 →
    (selS ack e (xs.drop i) = true → ∃ fr' st', runL T (.loop [0, 1, 5, 6] s37b0) { s := [(0, .v (.int .i64 ack)), (1, .sl ds xs.length t), (5, .v (.int .i64 e)), (6, .v (.int .i64 i))], d := [] } st = some (.ex 0, fr', st') ∧ fr'.only [] = { s := [], d := [] }) ∧
    (selS ack e (xs.drop i) = false → ∃ st', runL T (.loop [0, 1, 5, 6] s37b0) { s := [(0, .v (.int .i64 ack)), (1, .sl ds xs.length t), (5, .v (.int .i64 e)), (6, .v (.int .i64 i))], d := [] } st = some (.rt, { s := [(4, .v (.bool false))], d := [] }, st'))
  | 0, i, e, st, hi, _, _ => by
    have hd : xs.drop i = [] := List.drop_eq_nil_of_le (by omega)
    refine ⟨fun _ => ⟨?s, st, ?a, ?b⟩, fun h => by simp [hd, selS] at h⟩
    case a =>
      rw [runL_loop]
      have : ¬ (i : Int) < xs.length := by omega
      simp [s37b0, this]
      rfl
    case b => simp
  | k + 1, i, e, st, hi, he0, he1 => by
    have hlt : i < xs.length := by omega
    have hd : xs.drop i = xs[i] :: xs.drop (i + 1) := List.drop_eq_getElem_cons hlt
    have hcs := hf.len
    have h2 : (i : Int) < xs.length := by omega
    have hw : IntKind.wrap .i64 ((i : Int) + 1) = ((i + 1 : Nat) : Int) := by rw [wrap_i64 (by omega) (by omega)]; omega
    have q0 : ds[i * 2]? = some (.v (.int .i64 xs[i].1)) := by simpa [gx] using hf.fld i 0 hlt (by omega)
    have q1 : ds[i * 2 + 1]? = some (.v (.int .i64 xs[i].2)) := by simpa [gx] using hf.fld i 1 hlt (by omega)
    generalize hx : xs[i] = x at *
    obtain ⟨s, c⟩ := x
    have hw1 : IntKind.wrap .i64 (ack + 64) = ack + 64 := wrap_i64 (by omega) (by omega)
    rw [hd]
    simp only [selS]
    by_cases c1 : s ≤ e
    · refine ⟨fun h => by simp [c1] at h, fun _ => ⟨st, ?_⟩⟩
      rw [runL_loop]
      simp [s37b0, h2, opLoad_ep, q0, q1, c1]
    by_cases c2 : c < 1
    · refine ⟨fun h => by simp [c2] at h, fun _ => ⟨st, ?_⟩⟩
      rw [runL_loop]
      simp [s37b0, h2, opLoad_ep, q0, q1, c1, c2]
    by_cases c3 : ack + 64 < s
    · refine ⟨fun h => by simp [c3] at h, fun _ => ⟨st, ?_⟩⟩
      rw [runL_loop]
      simp [s37b0, h2, opLoad_ep, q0, q1, c1, c2, c3, hw1]
    have hw2 : IntKind.wrap .i64 (ack + 64 - s) = ack + 64 - s := wrap_i64 (by omega) (by omega)
    by_cases c4 : ack + 64 - s < c
    · refine ⟨fun h => by simp [c4] at h, fun _ => ⟨st, ?_⟩⟩
      rw [runL_loop]
      simp [s37b0, h2, opLoad_ep, q0, q1, c1, c2, c3, c4, hw1, hw2]
    have hw3 : IntKind.wrap .i64 (s + c) = s + c := wrap_i64 (by omega) (by omega)
    rw [if_neg (by omega)]
    have ih := selLoop37 t hf ack h0 h1 hlen k (i + 1) (s + c) st (by omega) (by omega) (by omega)
    have step : runL T (.loop [0, 1, 5, 6] s37b0) { s := [(0, .v (.int .i64 ack)), (1, .sl ds xs.length t), (5, .v (.int .i64 e)), (6, .v (.int .i64 i))], d := [] } st =
        runL T (.loop [0, 1, 5, 6] s37b0) { s := [(0, .v (.int .i64 ack)), (1, .sl ds xs.length t), (5, .v (.int .i64 (s + c))), (6, .v (.int .i64 (i + 1 : Nat)))], d := [] } st := by
      rw [runL_loop]
      generalize hL : SCode.loop [0, 1, 5, 6] s37b0 = L
      simp [s37b0, h2, opLoad_ep, q0, q1, c1, c2, c3, c4, hw1, hw2, hw3, hw]
      subst hL
      refine loop_from ?_
      simp
    rw [step]
    exact ih


theorem IsL.flat2 {x : AV} {xs : List (Int × Int)} (h : IsL 2 x (xs.flatMap gx) xs.length) : (∃ t, x = .sl (xs.flatMap gx) xs.length t) ∨ (xs = [] ∧ ∃ q, x = .v (.slice q 0 0)) := by
  generalize hc : xs.flatMap gx = cs at h
  generalize hn : xs.length = n at h
  cases h with
  | nil => exact .inr ⟨List.eq_nil_of_length_eq_zero hn, _, rfl⟩
  | sl ht hl => exact .inl ⟨_, rfl⟩

/-- packet.selective -/
theorem sel35 {x : AV} {xs : List (Int × Int)} (ack : Int) (h0 : 0 ≤ ack) (h1 : ack ≤ 1073741824) (hx : IsL 2 x (xs.flatMap gx) xs.length) (hlen : xs.length ≤ 1000000) (st : St) :
    callL T 35 [.v (.int .i64 ack), x] st = some (.ret (.v (.bool (selS ack ack xs))), st) := by
  obtain ⟨x', hx1, hx2, _⟩ := hx.exp st
  rw [call_plain T35 rfl rfl (show expA st [.v (.int .i64 ack), x] = some ([.v (.int .i64 ack), x'], st) by simp [expA, hx1])]
  rcases hx2.flat2 with ⟨t, rfl⟩ | ⟨rfl, q, rfl⟩
  · obtain ⟨ok, er⟩ := selLoop35 t (flat_ext xs) ack h0 h1 hlen xs.length 0 ack .mt (by omega) (by omega) (by omega)
    rw [List.drop_zero] at ok er
    cases hs : selS ack ack xs with
    | true =>
      obtain ⟨fr', st', hr, hfr⟩ := ok hs
      simp [inner_eq, s35]
      rw [loop_use hr _ (by simp)]
      simp [hfr, dropped, expR]
    | false =>
      obtain ⟨st', hr⟩ := er hs
      simp [inner_eq, s35]
      rw [loop_use hr _ (by simp)]
      simp [dropped, expR]
  · simp [inner_eq, s35, selS]
    rw [runL_loop]
    simp [s35b0, dropped, expR]

/-- ref.selective -/
theorem sel37 {x : AV} {xs : List (Int × Int)} (ack : Int) (h0 : 0 ≤ ack) (h1 : ack ≤ 1073741824) (hx : IsL 2 x (xs.flatMap gx) xs.length) (hlen : xs.length ≤ 1000000) (st : St) :
    callL T 37 [.v (.int .i64 ack), x] st = some (.ret (.v (.bool (selS ack ack xs))), st) := by
  obtain ⟨x', hx1, hx2, _⟩ := hx.exp st
  rw [call_plain T37 rfl rfl (show expA st [.v (.int .i64 ack), x] = some ([.v (.int .i64 ack), x'], st) by simp [expA, hx1])]
  rcases hx2.flat2 with ⟨t, rfl⟩ | ⟨rfl, q, rfl⟩
  · obtain ⟨ok, er⟩ := selLoop37 t (flat_ext xs) ack h0 h1 hlen xs.length 0 ack .mt (by omega) (by omega) (by omega)
    rw [List.drop_zero] at ok er
    cases hs : selS ack ack xs with
    | true =>
      obtain ⟨fr', st', hr, hfr⟩ := ok hs
      simp [inner_eq, s37]
      rw [loop_use hr _ (by simp)]
      simp [hfr, dropped, expR]
    | false =>
      obtain ⟨st', hr⟩ := er hs
      simp [inner_eq, s37]
      rw [loop_use hr _ (by simp)]
      simp [dropped, expR]
  · simp [inner_eq, s37, selS]
    rw [runL_loop]
    simp [s37b0, dropped, expR]


def chk (p : Pk) : Int :=
  if p.kind < 0 ∨ 2 < p.kind then 1
  else if timeB p.ses = false ∨ timeB p.seq = false ∨ timeB p.ack = false ∨ p.cre < 0 ∨ 64 < p.cre then 2
  else if selS p.ack p.ack p.xs = false then 3
  else if 4096 < p.bs.length then 5
  else if 0 < p.bs.length ∧ p.kind ≠ 0 then 3
  else 0

theorem IsL.exs {sz : Nat} {x : AV} {cs : List AV} {n : Nat} (h : IsL sz x cs n) : ∃ y, IsL sz y cs n ∧ (∀ st, exp0 st x = some (y, st)) ∧ (∀ st, exp0 st y = some (y, st)) := by
  cases h with
  | nil => exact ⟨_, .nil, fun st => exp0_v st _, fun st => exp0_v st _⟩
  | sl ht hl => exact ⟨.sl cs n .ro, .sl (by simp) hl, fun st => by simp [ht], fun st => by simp⟩

theorem IsB.exs {x : AV} {l : List Int} (h : IsB x l) : ∃ y, IsB y l ∧ (∀ st, exp0 st x = some (y, st)) ∧ (∀ st, exp0 st y = some (y, st)) := by
  obtain ⟨y, h1, h2⟩ := h.isL.exs
  exact ⟨y, isB_of h1, h2⟩

theorem expL_gp {p : Pk} (h : p.Fit) (st : St) : ∃ q : Pk, q.Fit ∧ q.kind = p.kind ∧ q.ses = p.ses ∧ q.seq = p.seq ∧ q.ack = p.ack ∧ q.cre = p.cre ∧ q.xs = p.xs ∧ q.bs = p.bs ∧ expL st (gp p) = some (gp q, st) ∧ (∀ s, expL s (gp q) = some (gp q, s)) := by
  obtain ⟨a, ha, ha0, ha2⟩ := h.sel.exs
  obtain ⟨b, hb, hb0, hb2⟩ := h.pay.exs
  refine ⟨{ p with sel := a, pay := b }, ⟨ha, hb, h.byt⟩, rfl, rfl, rfl, rfl, rfl, rfl, rfl, ?_, fun s => ?_⟩
  · simp only [gp, expL, exp0_v, ha0, hb0]
  · simp only [gp, expL, exp0_v, ha2, hb2]
/-- packet.Check -/
theorem check13 {p : Pk} (h : p.Fit) (hx : p.xs.length ≤ 1000000) (st : St) : callL T 13 [.agg (gp p)] st = some (.ret (.v (.int .i64 (chk p))), st) := by
  obtain ⟨q, hq, e1, e2, e3, e4, e5, e6, e7, hexp, _⟩ := expL_gp h st
  rw [call_plain T13 rfl rfl (show expA st [.agg (gp p)] = some ([.agg (gp q)], st) by simp [expA, exp1, hexp])]
  have hl := hq.pay.isL.len
  unfold chk
  rw [← e1, ← e2, ← e3, ← e4, ← e5, ← e6, ← e7]
  rw [← e6] at hx
  by_cases c1 : q.kind < 0
  · simp [inner_eq, s13, gp, opLoad, c1, dropped, expR]
  by_cases c2 : 2 < q.kind
  · simp [inner_eq, s13, gp, opLoad, c1, c2, dropped, expR]
  cases t1 : timeB q.ses with
  | false => simp [inner_eq, s13, gp, opLoad, c1, c2, time34, t1, dropped, expR]
  | true =>
  cases t2 : timeB q.seq with
  | false => simp [inner_eq, s13, gp, opLoad, c1, c2, time34, t1, t2, dropped, expR]
  | true =>
  cases t3 : timeB q.ack with
  | false => simp [inner_eq, s13, gp, opLoad, c1, c2, time34, t1, t2, t3, dropped, expR]
  | true =>
  by_cases c3 : q.cre < 0
  · simp [inner_eq, s13, gp, opLoad, c1, c2, time34, t1, t2, t3, c3, dropped, expR]
  by_cases c4 : 64 < q.cre
  · simp [inner_eq, s13, gp, opLoad, c1, c2, time34, t1, t2, t3, c3, c4, dropped, expR]
  have t4 : 0 ≤ q.ack ∧ q.ack ≤ 1073741824 := by simpa [timeB] using t3
  have hs := fun st => sel35 q.ack t4.1 t4.2 hq.sel hx st
  cases c5 : selS q.ack q.ack q.xs with
  | false => simp [inner_eq, s13, gp, opLoad, c1, c2, time34, t1, t2, t3, c3, c4, hs, c5, dropped, expR]
  | true =>
  by_cases c6 : (4096 : Int) < q.bs.length
  · have c6' : 4096 < q.bs.length := by omega
    simp [inner_eq, s13, gp, opLoad, c1, c2, time34, t1, t2, t3, c3, c4, hs, c5, hl, c6, c6', dropped, expR]
  have c6' : ¬ 4096 < q.bs.length := by omega
  by_cases c7 : (0 : Int) < q.bs.length
  · have c7' : 0 < q.bs.length := by omega
    by_cases c8 : q.kind = 0
    · simp [inner_eq, s13, gp, opLoad, c1, c2, time34, t1, t2, t3, c3, c4, hs, c5, hl, c6, c6', c7, c7', c8, dropped, expR]
    · simp [inner_eq, s13, gp, opLoad, c1, c2, time34, t1, t2, t3, c3, c4, hs, c5, hl, c6, c6', c7, c7', c8, dropped, expR]
  · have c7' : ¬ 0 < q.bs.length := by omega
    simp [inner_eq, s13, gp, opLoad, c1, c2, time34, t1, t2, t3, c3, c4, hs, c5, hl, c6, c6', c7, c7', dropped, expR]

/-- ref.Check -/
theorem check14 {p : Pk} (h : p.Fit) (hx : p.xs.length ≤ 1000000) (st : St) : callL T 14 [.agg (gp p)] st = some (.ret (.v (.int .i64 (chk p))), st) := by
  obtain ⟨q, hq, e1, e2, e3, e4, e5, e6, e7, hexp, _⟩ := expL_gp h st
  rw [call_plain T14 rfl rfl (show expA st [.agg (gp p)] = some ([.agg (gp q)], st) by simp [expA, exp1, hexp])]
  have hl := hq.pay.isL.len
  unfold chk
  rw [← e1, ← e2, ← e3, ← e4, ← e5, ← e6, ← e7]
  rw [← e6] at hx
  by_cases c1 : q.kind < 0
  · simp [inner_eq, s14, gp, opLoad, c1, dropped, expR]
  by_cases c2 : 2 < q.kind
  · simp [inner_eq, s14, gp, opLoad, c1, c2, dropped, expR]
  cases t1 : timeB q.ses with
  | false => simp [inner_eq, s14, gp, opLoad, c1, c2, time36, t1, dropped, expR]
  | true =>
  cases t2 : timeB q.seq with
  | false => simp [inner_eq, s14, gp, opLoad, c1, c2, time36, t1, t2, dropped, expR]
  | true =>
  cases t3 : timeB q.ack with
  | false => simp [inner_eq, s14, gp, opLoad, c1, c2, time36, t1, t2, t3, dropped, expR]
  | true =>
  by_cases c3 : q.cre < 0
  · simp [inner_eq, s14, gp, opLoad, c1, c2, time36, t1, t2, t3, c3, dropped, expR]
  by_cases c4 : 64 < q.cre
  · simp [inner_eq, s14, gp, opLoad, c1, c2, time36, t1, t2, t3, c3, c4, dropped, expR]
  have t4 : 0 ≤ q.ack ∧ q.ack ≤ 1073741824 := by simpa [timeB] using t3
  have hs := fun st => sel37 q.ack t4.1 t4.2 hq.sel hx st
  cases c5 : selS q.ack q.ack q.xs with
  | false => simp [inner_eq, s14, gp, opLoad, c1, c2, time36, t1, t2, t3, c3, c4, hs, c5, dropped, expR]
  | true =>
  by_cases c6 : (4096 : Int) < q.bs.length
  · have c6' : 4096 < q.bs.length := by omega
    simp [inner_eq, s14, gp, opLoad, c1, c2, time36, t1, t2, t3, c3, c4, hs, c5, hl, c6, c6', dropped, expR]
  have c6' : ¬ 4096 < q.bs.length := by omega
  by_cases c7 : (0 : Int) < q.bs.length
  · have c7' : 0 < q.bs.length := by omega
    by_cases c8 : q.kind = 0
    · simp [inner_eq, s14, gp, opLoad, c1, c2, time36, t1, t2, t3, c3, c4, hs, c5, hl, c6, c6', c7, c7', c8, dropped, expR]
    · simp [inner_eq, s14, gp, opLoad, c1, c2, time36, t1, t2, t3, c3, c4, hs, c5, hl, c6, c6', c7, c7', c8, dropped, expR]
  · have c7' : ¬ 0 < q.bs.length := by omega
    simp [inner_eq, s14, gp, opLoad, c1, c2, time36, t1, t2, t3, c3, c4, hs, c5, hl, c6, c6', c7, c7', dropped, expR]

end VS
end Go.Proofs.Ytkhekmmldnjenaa
/- The sum of bytes: both functions compute it; what changes it. -/
namespace Go.Proofs.Ytkhekmmldnjenaa
namespace VS

def poly : BitVec 32 := 2197175160#32
def step1 (r : BitVec 32) : BitVec 32 := if r.toNat % 2 = 1 then (r >>> 1) ^^^ poly else r >>> 1
def stepN : Nat → BitVec 32 → BitVec 32
  | 0, r => r
  | k + 1, r => stepN k (step1 r)
def byteV (b : Int) : BitVec 32 := BitVec.ofNat 32 b.toNat
def crcB (r : BitVec 32) (b : Int) : BitVec 32 := stepN 8 (r ^^^ byteV b)
def crcF (r : BitVec 32) (l : List Int) : BitVec 32 := l.foldl crcB r
def ones : BitVec 32 := 4294967295#32
/-- The sum. -/
def crc (l : List Int) : BitVec 32 := ~~~ (crcF ones l)

def u32 (r : BitVec 32) : Value := .int .u32 (r.toNat : Int)

theorem wrap_u32 {x : Int} (h0 : 0 ≤ x) (h1 : x < 4294967296) : IntKind.wrap .u32 x = x := by
  rw [IntKind.wrap_u32]; omega
theorem wrap_u32' (x : Int) : IntKind.wrap .u32 x = x % 4294967296 := by
  rw [IntKind.wrap_u32]

theorem ofInt_toNat (r : BitVec 32) : BitVec.ofInt 32 (r.toNat : Int) = r := by
  rw [BitVec.ofInt_natCast, BitVec.ofNat_toNat, BitVec.setWidth_eq]

theorem xorI_u32 (a b : BitVec 32) : xorI .u32 (a.toNat : Int) (b.toNat : Int) = ((a ^^^ b).toNat : Int) := by
  have h := (a ^^^ b).isLt
  unfold xorI
  rw [show IntKind.bits .u32 = 32 from rfl, ofInt_toNat, ofInt_toNat]
  exact wrap_u32 (by omega) (by omega)

theorem shrI_u32 (r : BitVec 32) (n : Nat) (hn : n ≤ 31) : shrI .u32 (r.toNat : Int) (n : Int) = ((r >>> n).toNat : Int) := by
  unfold shrI
  rw [show IntKind.bits .u32 = 32 from rfl, show min ((n : Int)).toNat 32 = n by omega]
  rw [Int.fdiv_eq_ediv_of_nonneg _ (Int.le_of_lt (Int.pow_pos (by omega)))]
  rw [BitVec.toNat_ushiftRight, Nat.shiftRight_eq_div_pow]
  push_cast
  rfl

theorem byteV_toNat {b : Int} (h0 : 0 ≤ b) (h1 : b < 256) : ((byteV b).toNat : Int) = b := by
  unfold byteV
  rw [BitVec.toNat_ofNat, Nat.mod_eq_of_lt (by omega)]
  omega

theorem reg_loop : ∀ (k i : Nat) (r : BitVec 32) (st : St), i + k = 8 →
    ∃ fr', runL T (.loop [0, 5] s87b0) { s := [(0, .v (u32 r)), (5, .v (.int .i64 i))], d := [] } st = some (.ex 0, fr', st) ∧ fr'.only [0] = { s := [(0, .v (u32 (stepN k r)))], d := [] }
  | 0, i, r, st, hi => by
    have : i = 8 := by omega
    subst this
    refine ⟨?s, ?a, ?b⟩
    case a =>
      rw [runL_loop]
      simp [s87b0]
      rfl
    case b => simp [stepN]
  | k + 1, i, r, st, hi => by
    obtain ⟨fr', hr, hfr⟩ := reg_loop k (i + 1) (step1 r) st (by omega)
    refine ⟨fr', ?_, hfr⟩
    have h1 : (i : Int) < 8 := by omega
    have hw : IntKind.wrap .i64 ((i : Int) + 1) = ((i + 1 : Nat) : Int) := by rw [wrap_i64 (by omega) (by omega)]; omega
    have hs := shrI_u32 r 1 (by omega)
    have hs' : shrI .u32 (r.toNat : Int) 1 = ((r >>> 1).toNat : Int) := hs
    have hm : Int.tmod (r.toNat : Int) 2 = ((r.toNat % 2 : Nat) : Int) := by
      rw [Int.tmod_eq_emod_of_nonneg (by omega)]; omega
    have hx : xorI .u32 ((r >>> 1).toNat : Int) 2197175160 = (((r >>> 1) ^^^ poly).toNat : Int) := xorI_u32 (r >>> 1) poly
    rw [runL_loop]
    generalize hL : SCode.loop [0, 5] s87b0 = L
    by_cases hb : r.toNat % 2 = 1
    · have hb' : ((r.toNat % 2 : Nat) : Int) = 1 := by omega
      simp only [s87b0]
      simp [-Int.natCast_emod, -BitVec.toNat_ushiftRight, -BitVec.toNat_xor, u32, h1, hm, hb, hs', hx, hw]
      subst hL
      refine (loop_from ?_).trans hr
      simp [u32, step1, hb]
    · have hb' : r.toNat % 2 = 0 := by omega
      simp only [s87b0]
      simp [-Int.natCast_emod, -BitVec.toNat_ushiftRight, -BitVec.toNat_xor, u32, h1, hm, hb', hs', hw]
      subst hL
      refine (loop_from ?_).trans hr
      simp [u32, step1, hb]

/-- ref.register -/
theorem register87 (r : BitVec 32) {b : Int} (h0 : 0 ≤ b) (h1 : b < 256) (st : St) : callL T 87 [.v (u32 r), .v (.int .u8 b)] st = some (.ret (.v (u32 (crcB r b))), st) := by
  rw [call_plain T87 rfl rfl rfl]
  obtain ⟨fr', hr, hfr⟩ := reg_loop 8 0 (r ^^^ byteV b) .mt rfl
  have hw : IntKind.wrap .u32 b = b := wrap_u32 h0 (by omega)
  have hx : xorI .u32 (r.toNat : Int) b = ((r ^^^ byteV b).toNat : Int) := by
    have := xorI_u32 r (byteV b)
    rw [byteV_toNat h0 h1] at this
    exact this
  have hu := loop_use hr
  simp only [inner_eq, s87]
  simp [-BitVec.toNat_xor, u32, hw, hx]
  rw [hu _ (by simp [u32])]
  simp [hfr, u32, dropped, expR, crcB]

theorem ref_loop {l : List Int} (t : Tag) (hb : Byt l) (hlen : l.length ≤ 1000000000) : ∀ (k i : Nat) (r : BitVec 32) (st : St), i + k = l.length →
    ∃ fr', runL T (.loop [1, 5, 6] s66b0) { s := [(1, .sl (bys l) l.length t), (5, .v (u32 r)), (6, .v (.int .i64 i))], d := [] } st = some (.ex 0, fr', st) ∧ fr'.only [5] = { s := [(5, .v (u32 (crcF r (l.drop i))))], d := [] }
  | 0, i, r, st, hi => by
    have hd : l.drop i = [] := List.drop_eq_nil_of_le (by omega)
    refine ⟨?s, ?a, ?b⟩
    case a =>
      rw [runL_loop]
      have : ¬ (i : Int) < l.length := by omega
      simp [s66b0, this]
      rfl
    case b => simp [hd, crcF]
  | k + 1, i, r, st, hi => by
    have hlt : i < l.length := by omega
    have hd : l.drop i = l[i] :: l.drop (i + 1) := List.drop_eq_getElem_cons hlt
    obtain ⟨hb0, hb1⟩ := hb l[i] (List.getElem_mem hlt)
    obtain ⟨fr', hr, hfr⟩ := ref_loop t hb hlen k (i + 1) (crcB r l[i]) st (by omega)
    refine ⟨fr', ?_, by rw [hd]; exact hfr⟩
    have h1 : (i : Int) < l.length := by omega
    have hw : IntKind.wrap .i64 ((i : Int) + 1) = ((i + 1 : Nat) : Int) := by rw [wrap_i64 (by omega) (by omega)]; omega
    have hg := bys_get l i hlt
    have hc := register87 r hb0 hb1 st
    rw [runL_loop]
    generalize hL : SCode.loop [1, 5, 6] s66b0 = L
    simp [s66b0, h1, opLoad_ep, hg, hc, hw]
    subst hL
    refine (loop_from ?_).trans hr
    simp

theorem notI_u32 (r : BitVec 32) : xorI .u32 4294967295 (r.toNat : Int) = ((~~~ r).toNat : Int) := by
  have := xorI_u32 (BitVec.allOnes 32) r
  rw [show ((BitVec.allOnes 32).toNat : Int) = 4294967295 from rfl, BitVec.allOnes_xor] at this
  exact this

theorem IsB.cases2 {x : AV} {l : List Int} (h : IsB x l) : (∃ t, x = .sl (bys l) l.length t) ∨ (l = [] ∧ ∃ q, x = .v (.slice q 0 0)) := by
  cases h with
  | nil => exact .inr ⟨rfl, _, rfl⟩
  | sl ht => exact .inl ⟨_, rfl⟩

/-- ref.Sum -/
theorem refSum {x : AV} {l : List Int} (hx : IsB x l) (hb : Byt l) (hlen : l.length ≤ 1000000000) (st : St) : callL T 33 [x] st = some (.ret (.v (u32 (crc l))), st) := by
  obtain ⟨y, hy, hy0, hy1⟩ := hx.exs
  have hexp : ∀ s, exp1 s x = some (y, s) := fun s => by
    cases hx with
    | nil => exact hy0 s
    | sl _ => exact hy0 s
  have hexp1 : ∀ s, exp1 s y = some (y, s) := fun s => by
    cases hy with
    | nil => exact hy1 s
    | sl _ => exact hy1 s
  have key : ∀ s, callL T 66 [.v (.int .u32 0), y] s = some (.ret (.v (u32 (crc l))), s) := fun s => by
    rw [call_plain T66 rfl rfl (show expA s [.v (.int .u32 0), y] = some ([.v (.int .u32 0), y], s) by simp [expA, hexp1])]
    have hn2 := notI_u32 (crcF ones l)
    have hk : unAV .xor (.v (u32 (crcF ones l))) = some (u32 (crc l)) := by
      simp only [unAV, u32, binInt_xor]
      rw [show (if IntKind.u32.signed = true then (-1 : Int) else IntKind.u32.max) = 4294967295 from rfl, hn2]
      rfl
    rcases hy.cases2 with ⟨t, rfl⟩ | ⟨rfl, q, rfl⟩
    · obtain ⟨fr', hr, hfr⟩ := ref_loop t hb hlen l.length 0 ones .mt (by omega)
      rw [List.drop_zero] at hfr
      have hu := loop_use hr
      have hm : unAV .xor (.v (.int .u32 0)) = some (u32 ones) := by kernel_rfl
      simp only [inner_eq, s66]
      simp [hm, -unAV]
      rw [hu _ (by simp)]
      simp [hfr, hk, -unAV, dropped, expR]
    · have hm : unAV .xor (.v (.int .u32 0)) = some (u32 ones) := by kernel_rfl
      simp only [inner_eq, s66]
      simp [hm, -unAV]
      rw [runL_loop]
      simp only [s66b0]
      have hk' : unAV .xor (.v (u32 ones)) = some (u32 (crc [])) := hk
      simp [hk', -unAV, dropped, expR]
  rw [call_plain T33 rfl rfl (show expA st [x] = some ([y], st) by simp [expA, hexp])]
  simp [inner_eq, s33, key, dropped, expR]

end VS
end Go.Proofs.Ytkhekmmldnjenaa
/- The sum with a table. -/
namespace Go.Proofs.Ytkhekmmldnjenaa
namespace VS

def z256 : List AV := List.replicate 256 (.v (.int .u32 0))
def f102 : SFn :=
  ⟨.plain, 0, [(.cell 0 (some 256))], (.seq [0] (.region [⟨(some 0), none, (.alloc z256)⟩] false) (.seq [0, 1] (.region [⟨(some 1), none, (.alloc z256)⟩] false) (.seq [0, 1] (.seq [0, 1, 5] (.region [⟨(some 5), none, (.mv (.c (.v (.int .i64 0))))⟩] false) (.block 0 (.loop [0, 1, 5] s102b1))) (.seq [0] (.region [⟨(some 25), none, (.load (some 256) (.t 1))⟩,
    ⟨none, none, (.store 256 (.t 0) (.t 25))⟩] false) .ret))))⟩
def f88 : SFn :=
  ⟨.plain, 2, [(.tmp 4)], (.seq [0, 1] (.region [⟨(some 4), none, (.mv (.c (.v (.int .u32 0))))⟩] false) (.seq [0, 1, 5] (.region [⟨(some 9), none, (.call (.c (.fn 102 [])) [])⟩,
    ⟨(some 5), none, (.alloc z256)⟩,
    ⟨none, none, (.store 256 (.t 5) (.t 9))⟩] false) (.seq [1, 5, 6] (.region [⟨(some 10), none, (.mv (.t 0))⟩,
    ⟨(some 11), none, (.un .xor (.t 10))⟩,
    ⟨(some 6), none, (.mv (.t 11))⟩] false) (.seq [6] (.seq [5, 6, 12, 13, 14] (.region [⟨(some 12), none, (.mv (.t 1))⟩,
    ⟨(some 13), none, (.len (.t 12))⟩,
    ⟨(some 14), none, (.mv (.c (.v (.int .i64 0))))⟩] false) (.block 0 (.loop [5, 6, 12, 13, 14] s88b0))) (.seq [4] (.region [⟨(some 28), none, (.mv (.t 6))⟩,
    ⟨(some 29), none, (.un .xor (.t 28))⟩,
    ⟨(some 4), none, (.mv (.t 29))⟩] false) .ret)))))⟩
theorem s102_eq : s102 = f102 := by kernel_rfl
theorem s88_eq : s88 = f88 := by kernel_rfl

def tab : List AV := (List.range 256).map fun i => .v (u32 (stepN 8 (BitVec.ofNat 32 i)))
theorem tab_len : tab.length = 256 := by simp [tab]
theorem tab_get {i : Nat} (h : i < 256) : tab[i]? = some (.v (u32 (stepN 8 (BitVec.ofNat 32 i)))) := by simp [tab, h]
def partT (i : Nat) : List AV := tab.take i ++ List.replicate (256 - i) (.v (.int .u32 0))
theorem partT_len {i : Nat} (h : i ≤ 256) : (partT i).length = 256 := by simp [partT, tab_len]; omega
theorem partT_next {i : Nat} (h : i < 256) : (partT i).take i ++ [.v (u32 (stepN 8 (BitVec.ofNat 32 i)))] ++ (partT i).drop (i + 1) = partT (i + 1) := by
  have hl : (tab.take i).length = i := by rw [List.length_take, tab_len]; omega
  have h1 : (partT i).take i = tab.take i := by
    unfold partT
    rw [List.take_append_of_le_length (by omega), List.take_of_length_le (by omega)]
  have h2 : (partT i).drop (i + 1) = List.replicate (256 - (i + 1)) (.v (.int .u32 0)) := by
    unfold partT
    rw [List.drop_append, List.drop_of_length_le (by omega), List.nil_append, hl, List.drop_replicate]
    congr 1; omega
  rw [h1, h2]
  have h3 : tab.take (i + 1) = tab.take i ++ [.v (u32 (stepN 8 (BitVec.ofNat 32 i)))] := by
    rw [List.take_add_one, tab_get h]; rfl
  unfold partT
  rw [h3]
theorem partT_zero : partT 0 = z256 := by simp only [partT, z256, List.take_zero, List.nil_append, Nat.sub_zero]
theorem partT_all : partT 256 = tab := by
  unfold partT
  rw [List.take_of_length_le (by rw [tab_len]; omega)]
  simp

theorem andI_one (r : BitVec 32) : andI .u32 (r.toNat : Int) 1 = ((r.toNat % 2 : Nat) : Int) := by
  unfold andI
  rw [show IntKind.bits .u32 = 32 from rfl, ofInt_toNat, show BitVec.ofInt 32 1 = 1#32 from rfl]
  have : (r &&& 1#32).toNat = r.toNat % 2 := by
    rw [BitVec.toNat_and, BitVec.toNat_ofNat, Nat.mod_eq_of_lt (by omega : 1 < 2 ^ 32)]
    exact Nat.and_one_is_mod _
  rw [this]
  exact wrap_u32 (by omega) (by omega)

theorem inner102 (a b i o : AV) : ∀ (k j : Nat) (r : BitVec 32) (st : St), j + k = 8 →
    ∃ fr', runL T (.loop [0, 1, 2, 3, 5, 10] s102b0) { s := [(0, a), (1, b), (2, i), (3, .v (u32 r)), (5, o), (10, .v (.int .i64 j))], d := [] } st = some (.ex 2, fr', st) ∧ fr'.only [0, 1, 2, 3, 5] = { s := [(0, a), (1, b), (2, i), (3, .v (u32 (stepN k r))), (5, o)], d := [] }
  | 0, j, r, st, hi => by
    have : j = 8 := by omega
    subst this
    refine ⟨?s, ?a, ?b⟩
    case a =>
      rw [runL_loop]
      simp [s102b0]
      rfl
    case b => simp [stepN]
  | k + 1, j, r, st, hi => by
    obtain ⟨fr', hr, hfr⟩ := inner102 a b i o k (j + 1) (step1 r) st (by omega)
    refine ⟨fr', ?_, hfr⟩
    have h1 : (j : Int) < 8 := by omega
    have hw : IntKind.wrap .i64 ((j : Int) + 1) = ((j + 1 : Nat) : Int) := by rw [wrap_i64 (by omega) (by omega)]; omega
    have hs : shrI .u32 (r.toNat : Int) 1 = ((r >>> 1).toNat : Int) := shrI_u32 r 1 (by omega)
    have ha := andI_one r
    rw [runL_loop]
    generalize hL : SCode.loop [0, 1, 2, 3, 5, 10] s102b0 = L
    by_cases hb : r.toNat % 2 = 1
    · have hx : xorI .u32 ((r >>> 1).toNat : Int) (IntKind.wrap .u32 2197175160) = (((r >>> 1) ^^^ poly).toNat : Int) := xorI_u32 (r >>> 1) poly
      simp only [s102b0]
      simp [-Int.natCast_emod, -BitVec.toNat_ushiftRight, -BitVec.toNat_xor, u32, h1, ha, hb, hs, hx, hw]
      subst hL
      refine (loop_from ?_).trans hr
      simp [u32, step1, hb]
    · have hb' : r.toNat % 2 = 0 := by omega
      have hx : xorI .u32 ((r >>> 1).toNat : Int) (IntKind.wrap .u32 0) = ((r >>> 1).toNat : Int) := by
        have := xorI_u32 (r >>> 1) 0#32
        rw [BitVec.xor_zero] at this
        exact this
      simp only [s102b0]
      simp [-Int.natCast_emod, -BitVec.toNat_ushiftRight, -BitVec.toNat_xor, u32, h1, ha, hb', hs, hx, hw]
      subst hL
      refine (loop_from ?_).trans hr
      simp [u32, step1, hb]

def st102 (i : Nat) : St := { H := [{ cells := z256, fz := false }, { cells := partT i, fz := false }], F := [] }

theorem outer102 : ∀ (k i : Nat), i + k = 256 →
    ∃ fr', runL T (.loop [0, 1, 5] s102b1) { s := [(0, .ptr 0 0), (1, .ptr 1 0), (5, .v (.int .i64 i))], d := [] } (st102 i) = some (.ex 0, fr', st102 256) ∧ fr'.only [0, 1] = { s := [(0, .ptr 0 0), (1, .ptr 1 0)], d := [] }
  | 0, i, hi => by
    have : i = 256 := by omega
    subst this
    refine ⟨?s, ?a, ?b⟩
    case a =>
      rw [runL_loop]
      simp [s102b1]
      rfl
    case b => simp
  | k + 1, i, hi => by
    obtain ⟨fr', hr, hfr⟩ := outer102 k (i + 1) (by omega)
    refine ⟨fr', ?_, hfr⟩
    have h1 : (i : Int) < 256 := by omega
    have hw : IntKind.wrap .i64 ((i : Int) + 1) = ((i + 1 : Nat) : Int) := by rw [wrap_i64 (by omega) (by omega)]; omega
    have hw2 : IntKind.wrap .u32 (i : Int) = i := wrap_u32 (by omega) (by omega)
    obtain ⟨fr2, h2, hfr2⟩ := inner102 (.ptr 0 0) (.ptr 1 0) (.v (.int .i64 i)) (.v (.int .i64 i)) 8 0 (BitVec.ofNat 32 i) (st102 i) rfl
    have hu := loop_use h2
    have hv : u32 (BitVec.ofNat 32 i) = .int .u32 (i : Int) := by
      unfold u32; rw [BitVec.toNat_ofNat, Nat.mod_eq_of_lt (by omega)]
    rw [hv] at hu
    have hst : opStore (st102 i) 1 (.ptr 1 i) (.v (u32 (stepN 8 (BitVec.ofNat 32 i)))) = some (st102 (i + 1)) := by
      have hl := partT_len (i := i) (by omega)
      have h3 : i + 1 ≤ (partT i).length := by omega
      have h4 := partT_next (i := i) (by omega)
      simp only [List.append_assoc, List.cons_append, List.nil_append] at h4
      simp [opStore, st102, h3, h4]
    rw [runL_loop]
    generalize hL : SCode.loop [0, 1, 5] s102b1 = L
    simp only [s102b1]
    simp [h1, hw2]
    rw [hu _ (by simp)]
    simp [hfr2, h1, hst, hw]
    subst hL
    refine (loop_from ?_).trans hr
    simp

/-- checksum.registers -/
theorem registers (st : St) : callL T 102 [] st = some (.ret (.agg tab), st) := by
  rw [call_plain T102 rfl rfl rfl, s102_eq]
  obtain ⟨fr', hr, hfr⟩ := outer102 256 0 rfl
  have hu := loop_use hr
  have h0 : st102 0 = { H := [{ cells := z256, fz := false }, { cells := z256, fz := false }], F := [] } := by rw [st102, partT_zero]
  rw [h0] at hu
  have hz : z256.length = 256 := List.length_replicate ..
  have ht : tab.take 256 = tab := List.take_of_length_le (by rw [tab_len]; omega)
  have htl := tab_len
  have hclean : ∀ s, expL s tab = some (tab, s) := fun s => by
    have : ∀ l : List Nat, expL s (l.map fun i => .v (u32 (stepN 8 (BitVec.ofNat 32 i)))) = some (l.map fun i => .v (u32 (stepN 8 (BitVec.ofNat 32 i))), s) := by
      intro l
      induction l with
      | nil => rfl
      | cons x r ih => rw [List.map_cons]; exact expL_cons (exp0_v s _) ih
    exact this _
  simp only [inner_eq, f102]
  simp [St.mt]
  rw [hu _ (by simp)]
  simp [hfr, st102, partT_all, opLoad, opStore, hz, htl, ht, dropped, expR, exp1, hclean]

end VS
end Go.Proofs.Ytkhekmmldnjenaa
/- checksum.Sum computes the sum; a byte changed changes it. -/
namespace Go.Proofs.Ytkhekmmldnjenaa
namespace VS

def bitV (r : BitVec 32) : BitVec 32 := if r.toNat % 2 = 1 then poly else 0#32
theorem step1_eq (r : BitVec 32) : step1 r = (r >>> 1) ^^^ bitV r := by
  unfold step1 bitV
  split
  · rfl
  · rw [BitVec.xor_zero]

theorem step1_xor (a b : BitVec 32) : step1 (a ^^^ b) = step1 a ^^^ step1 b := by
  rw [step1_eq, step1_eq, step1_eq]
  have h1 : (a ^^^ b) >>> 1 = (a >>> 1) ^^^ (b >>> 1) := BitVec.ushiftRight_xor_distrib a b 1
  have h2 : bitV (a ^^^ b) = bitV a ^^^ bitV b := by
    unfold bitV
    rw [BitVec.toNat_xor]
    have := @Nat.xor_mod_two_eq_one a.toNat b.toNat
    by_cases ha : a.toNat % 2 = 1 <;> by_cases hb : b.toNat % 2 = 1 <;> simp [this, ha, hb]
  rw [h1, h2]
  ext i
  simp only [BitVec.getElem_xor]
  cases (a >>> 1)[i] <;> cases (b >>> 1)[i] <;> cases (bitV a)[i] <;> cases (bitV b)[i] <;> rfl

theorem stepN_xor : ∀ (k : Nat) (a b : BitVec 32), stepN k (a ^^^ b) = stepN k a ^^^ stepN k b
  | 0, _, _ => rfl
  | k + 1, a, b => by rw [stepN, step1_xor, stepN_xor k]; rfl

theorem stepN_low : ∀ (k : Nat) (r : BitVec 32), r.toNat % 2 ^ k = 0 → stepN k r = r >>> k
  | 0, r, _ => by simp [stepN]
  | k + 1, r, h => by
    have h1 : r.toNat % 2 = 0 := by
      have : r.toNat % 2 = r.toNat % 2 ^ (k + 1) % 2 := by rw [Nat.mod_mod_of_dvd _ ⟨2 ^ k, by rw [Nat.pow_succ]; omega⟩]
      omega
    have h2 : step1 r = r >>> 1 := by unfold step1; rw [if_neg (by omega)]
    have h3 : (r >>> 1).toNat % 2 ^ k = 0 := by
      rw [BitVec.toNat_ushiftRight, Nat.shiftRight_eq_div_pow, Nat.pow_one]
      obtain ⟨c, hc⟩ := Nat.dvd_of_mod_eq_zero h
      rw [hc, Nat.pow_succ, Nat.mul_comm (2 ^ k) 2, Nat.mul_assoc, Nat.mul_div_cancel_left _ (by omega)]
      exact Nat.mul_mod_right ..
    rw [stepN, h2, stepN_low k _ h3, ← BitVec.shiftRight_add, Nat.add_comm]

/-- The place in the table. -/
def plc (r : BitVec 32) (b : Int) : Nat := (r.toNat % 256) ^^^ b.toNat
theorem plc_lt {r : BitVec 32} {b : Int} (h1 : b < 256) : plc r b < 256 := Nat.xor_lt_two_pow (n := 8) (by omega) (by omega)

theorem crcB_tab (r : BitVec 32) {b : Int} (h1 : b < 256) : crcB r b = (r >>> 8) ^^^ stepN 8 (BitVec.ofNat 32 (plc r b)) := by
  have hlo : BitVec.ofNat 32 (plc r b) = (r &&& 255#32) ^^^ byteV b := by
    apply BitVec.eq_of_toNat_eq
    have := plc_lt (r := r) h1
    rw [BitVec.toNat_ofNat, Nat.mod_eq_of_lt (by omega), BitVec.toNat_xor, BitVec.toNat_and]
    unfold plc byteV
    rw [BitVec.toNat_ofNat, BitVec.toNat_ofNat, Nat.mod_eq_of_lt (by omega : b.toNat < 2 ^ 32), Nat.mod_eq_of_lt (by omega : 255 < 2 ^ 32)]
    rw [show (255 : Nat) = 2 ^ 8 - 1 from rfl, Nat.and_two_pow_sub_one_eq_mod]
  have hhi : r = ((r >>> 8) <<< 8) ^^^ (r &&& 255#32) := by
    apply BitVec.eq_of_toNat_eq
    have hlt := r.isLt
    rw [BitVec.toNat_xor, BitVec.toNat_and, BitVec.toNat_shiftLeft, BitVec.toNat_ushiftRight, BitVec.toNat_ofNat, Nat.mod_eq_of_lt (by omega : 255 < 2 ^ 32)]
    rw [show (255 : Nat) = 2 ^ 8 - 1 from rfl, Nat.and_two_pow_sub_one_eq_mod, Nat.shiftRight_eq_div_pow, Nat.shiftLeft_eq]
    rw [Nat.mod_eq_of_lt (by omega)]
    have hx := Nat.two_pow_add_eq_or_of_lt (i := 8) (b := r.toNat % 2 ^ 8) (Nat.mod_lt _ (by omega)) (r.toNat / 2 ^ 8)
    have hy : (r.toNat / 2 ^ 8 * 2 ^ 8) ^^^ (r.toNat % 2 ^ 8) = (r.toNat / 2 ^ 8 * 2 ^ 8) ||| (r.toNat % 2 ^ 8) := by
      apply Nat.eq_of_testBit_eq
      intro i
      rw [Nat.testBit_xor, Nat.testBit_or]
      by_cases hi : i < 8
      · have : (r.toNat / 2 ^ 8 * 2 ^ 8).testBit i = false := by
          rw [Nat.mul_comm, Nat.testBit_two_pow_mul]; simp; omega
        rw [this]; simp
      · have : (r.toNat % 2 ^ 8).testBit i = false := by rw [Nat.testBit_mod_two_pow]; simp; omega
        rw [this]; simp
    rw [hy, Nat.mul_comm, ← hx]
    omega
  have hv : ((r >>> 8) <<< 8).toNat = r.toNat / 2 ^ 8 * 2 ^ 8 := by
    have hlt := r.isLt
    rw [BitVec.toNat_shiftLeft, BitVec.toNat_ushiftRight, Nat.shiftRight_eq_div_pow, Nat.shiftLeft_eq, Nat.mod_eq_of_lt (by omega)]
  have h0 : ((r >>> 8) <<< 8).toNat % 2 ^ 8 = 0 := by rw [hv]; exact Nat.mul_mod_left ..
  have hs : ((r >>> 8) <<< 8) >>> 8 = r >>> 8 := by
    apply BitVec.eq_of_toNat_eq
    have hlt := r.isLt
    rw [BitVec.toNat_ushiftRight, BitVec.toNat_shiftLeft, BitVec.toNat_ushiftRight, Nat.shiftRight_eq_div_pow, Nat.shiftRight_eq_div_pow, Nat.shiftLeft_eq, Nat.mod_eq_of_lt (by omega)]
    exact Nat.mul_div_cancel _ (by omega)
  unfold crcB
  rw [hlo]
  conv => lhs; rw [hhi]
  rw [BitVec.xor_assoc, stepN_xor, stepN_low 8 _ h0, hs]

theorem xorI_u8 {a b : Int} (a0 : 0 ≤ a) (a1 : a < 256) (b0 : 0 ≤ b) (b1 : b < 256) : xorI .u8 a b = ((a.toNat ^^^ b.toNat : Nat) : Int) := by
  have h : a.toNat ^^^ b.toNat < 2 ^ 8 := Nat.xor_lt_two_pow (by omega) (by omega)
  unfold xorI
  rw [show IntKind.bits .u8 = 8 from rfl]
  have e1 : BitVec.ofInt 8 a = BitVec.ofNat 8 a.toNat := by rw [← BitVec.ofInt_natCast]; congr 1; omega
  have e2 : BitVec.ofInt 8 b = BitVec.ofNat 8 b.toNat := by rw [← BitVec.ofInt_natCast]; congr 1; omega
  rw [e1, e2, BitVec.toNat_xor, BitVec.toNat_ofNat, BitVec.toNat_ofNat, Nat.mod_eq_of_lt (by omega), Nat.mod_eq_of_lt (by omega), wrap_u8]
  omega

def stT : St := { H := [{ cells := tab, fz := false }], F := [] }

theorem upd_loop {l : List Int} (t : Tag) (hb : Byt l) (hlen : l.length ≤ 1000000000) : ∀ (k i : Nat) (r : BitVec 32), i + k = l.length →
    ∃ fr', runL T (.loop [5, 6, 12, 13, 14] s88b0) { s := [(5, .ptr 0 0), (6, .v (u32 r)), (12, .sl (bys l) l.length t), (13, .v (.int .i64 l.length)), (14, .v (.int .i64 i))], d := [] } stT = some (.ex 0, fr', stT) ∧ fr'.only [6] = { s := [(6, .v (u32 (crcF r (l.drop i))))], d := [] }
  | 0, i, r, hi => by
    have hd : l.drop i = [] := List.drop_eq_nil_of_le (by omega)
    refine ⟨?s, ?a, ?b⟩
    case a =>
      rw [runL_loop]
      have : ¬ (i : Int) < l.length := by omega
      simp [s88b0, this]
      rfl
    case b => simp [hd, crcF]
  | k + 1, i, r, hi => by
    have hlt : i < l.length := by omega
    have hd : l.drop i = l[i] :: l.drop (i + 1) := List.drop_eq_getElem_cons hlt
    obtain ⟨hb0, hb1⟩ := hb l[i] (List.getElem_mem hlt)
    obtain ⟨fr', hr, hfr⟩ := upd_loop t hb hlen k (i + 1) (crcB r l[i]) (by omega)
    refine ⟨fr', ?_, by rw [hd]; exact hfr⟩
    have h1 : (i : Int) < l.length := by omega
    have hw : IntKind.wrap .i64 ((i : Int) + 1) = ((i + 1 : Nat) : Int) := by rw [wrap_i64 (by omega) (by omega)]; omega
    have hg := bys_get l i hlt
    have hs : shrI .u32 (r.toNat : Int) 8 = ((r >>> 8).toNat : Int) := shrI_u32 r 8 (by omega)
    have hc : IntKind.wrap .u8 (r.toNat : Int) = ((r.toNat % 256 : Nat) : Int) := by rw [wrap_u8]; omega
    have hx : xorI .u8 ((r.toNat % 256 : Nat) : Int) l[i] = (plc r l[i] : Int) := by
      rw [xorI_u8 (by omega) (by omega) hb0 hb1]; rfl
    have hp := plc_lt (r := r) hb1
    have hp1 : (plc r l[i] : Int) < 256 := by omega
    have htg := tab_get hp
    have hld : opLoad stT none (.ptr 0 (plc r l[i])) = some (.v (u32 (stepN 8 (BitVec.ofNat 32 (plc r l[i]))))) := by
      simp [opLoad, stT, htg]
    have hxx : xorI .u32 ((r >>> 8).toNat : Int) ((stepN 8 (BitVec.ofNat 32 (plc r l[i]))).toNat : Int) = ((crcB r l[i]).toNat : Int) := by
      rw [xorI_u32, ← crcB_tab r hb1]
    rw [runL_loop]
    generalize hL : SCode.loop [5, 6, 12, 13, 14] s88b0 = L
    simp only [s88b0]
    simp [-Int.natCast_emod, -BitVec.toNat_ushiftRight, -BitVec.toNat_xor, u32, h1, opLoad_ep, hg, hs, hc, hx, hp1] 
    rw [hld]
    simp [-Int.natCast_emod, -BitVec.toNat_ushiftRight, -BitVec.toNat_xor, u32, hxx, hw]
    subst hL
    refine (loop_from ?_).trans hr
    simp [u32]

/-- checksum.Sum -/
theorem sum68 {x : AV} {l : List Int} (hx : IsB x l) (hb : Byt l) (hlen : l.length ≤ 1000000000) (st : St) : callL T 68 [x] st = some (.ret (.v (u32 (crc l))), st) := by
  obtain ⟨y, hy, hy0, hy1⟩ := hx.exs
  have hexp : ∀ s, exp1 s x = some (y, s) := fun s => by
    cases hx with
    | nil => exact hy0 s
    | sl _ => exact hy0 s
  have hexp1 : ∀ s, exp1 s y = some (y, s) := fun s => by
    cases hy with
    | nil => exact hy1 s
    | sl _ => exact hy1 s
  have hz : z256.length = 256 := List.length_replicate ..
  have htl := tab_len
  have hst : opStore { H := [{ cells := z256, fz := false }], F := [] } 256 (.ptr 0 0) (.agg tab) = some stT := by
    simp [opStore, hz, htl, stT]
  have key : ∀ s, callL T 88 [.v (.int .u32 0), y] s = some (.ret (.v (u32 (crc l))), s) := fun s => by
    rw [call_plain T88 rfl rfl (show expA s [.v (.int .u32 0), y] = some ([.v (.int .u32 0), y], s) by simp [expA, hexp1]), s88_eq]
    have hn2 := notI_u32 (crcF ones l)
    have hk : unAV .xor (.v (u32 (crcF ones l))) = some (u32 (crc l)) := by
      simp only [unAV, u32, binInt_xor]
      rw [show (if IntKind.u32.signed = true then (-1 : Int) else IntKind.u32.max) = 4294967295 from rfl, hn2]
      rfl
    have hm : unAV .xor (.v (.int .u32 0)) = some (u32 ones) := by kernel_rfl
    rcases hy.cases2 with ⟨t, rfl⟩ | ⟨rfl, q, rfl⟩
    · obtain ⟨fr', hr, hfr⟩ := upd_loop t hb hlen l.length 0 ones (by omega)
      rw [List.drop_zero] at hfr
      have hu := loop_use hr
      simp only [inner_eq, f88]
      simp [registers, St.mt, hst, hm, -unAV]
      rw [hu _ (by simp)]
      simp [hfr, hk, -unAV, dropped, expR]
    · simp only [inner_eq, f88]
      simp [registers, St.mt, hst, hm, -unAV]
      rw [runL_loop]
      simp only [s88b0]
      have hk' : unAV .xor (.v (u32 ones)) = some (u32 (crc [])) := hk
      simp [hk', -unAV, dropped, expR]
  rw [call_plain T68 rfl rfl (show expA st [x] = some ([y], st) by simp [expA, hexp])]
  simp [inner_eq, s68, key, dropped, expR]

theorem step1_top (r : BitVec 32) : (step1 r).msb = decide (r.toNat % 2 = 1) := by
  rw [step1_eq, BitVec.msb_xor]
  have h1 : (r >>> 1).msb = false := by
    rw [BitVec.msb_eq_decide, BitVec.toNat_ushiftRight, Nat.shiftRight_eq_div_pow]
    have := r.isLt
    simp; omega
  rw [h1]
  unfold bitV
  by_cases hp : r.toNat % 2 = 1
  · rw [if_pos hp, decide_eq_true hp]; decide
  · rw [if_neg hp, decide_eq_false hp]; decide

theorem xor_cancel {a b c : BitVec 32} (h : a ^^^ c = b ^^^ c) : a = b := by
  have : (a ^^^ c) ^^^ c = (b ^^^ c) ^^^ c := by rw [h]
  simpa [BitVec.xor_assoc] using this

theorem step1_inj {a b : BitVec 32} (h : step1 a = step1 b) : a = b := by
  have ht : decide (a.toNat % 2 = 1) = decide (b.toNat % 2 = 1) := by rw [← step1_top, ← step1_top, h]
  have hb : bitV a = bitV b := by
    unfold bitV
    by_cases h1 : a.toNat % 2 = 1 <;> by_cases h2 : b.toNat % 2 = 1 <;> simp_all
  rw [step1_eq, step1_eq, hb] at h
  have h2 := xor_cancel h
  have h3 : a.toNat / 2 = b.toNat / 2 := by
    have := congrArg BitVec.toNat h2
    simpa [BitVec.toNat_ushiftRight, Nat.shiftRight_eq_div_pow] using this
  apply BitVec.eq_of_toNat_eq
  have h4 : (a.toNat % 2 = 1) ↔ (b.toNat % 2 = 1) := by simpa using ht
  omega

theorem stepN_inj : ∀ (k : Nat) {a b : BitVec 32}, stepN k a = stepN k b → a = b
  | 0, _, _, h => h
  | k + 1, _, _, h => step1_inj (stepN_inj k h)

theorem crcB_inj {a b : BitVec 32} {x : Int} (h : crcB a x = crcB b x) : a = b := xor_cancel (stepN_inj 8 h)
theorem crcB_byte {a : BitVec 32} {x y : Int} (x0 : 0 ≤ x) (x1 : x < 256) (y0 : 0 ≤ y) (y1 : y < 256) (h : crcB a x = crcB a y) : x = y := by
  have h1 := stepN_inj 8 h
  rw [BitVec.xor_comm a, BitVec.xor_comm a] at h1
  have h2 := congrArg BitVec.toNat (xor_cancel h1)
  have := byteV_toNat x0 x1
  have := byteV_toNat y0 y1
  omega

theorem crcF_inj : ∀ (l : List Int) {a b : BitVec 32}, crcF a l = crcF b l → a = b
  | [], _, _, h => h
  | _ :: r, _, _, h => crcB_inj (crcF_inj r h)

/-- One byte changed changes the sum. -/
theorem crc_set {l : List Int} (hb : Byt l) {i : Nat} (hi : i < l.length) {x : Int} (x0 : 0 ≤ x) (x1 : x < 256) (h : crc (l.set i x) = crc l) : x = l[i] := by
  obtain ⟨hb0, hb1⟩ := hb l[i] (List.getElem_mem hi)
  have h1 : crcF ones (l.set i x) = crcF ones l := by
    have := congrArg (fun r => ~~~ r) h
    simpa [crc] using this
  have e1 : l.set i x = l.take i ++ x :: l.drop (i + 1) := List.set_eq_take_append_cons_drop .. |>.trans (by rw [if_pos hi])
  have e2 : l = l.take i ++ l[i] :: l.drop (i + 1) := by rw [← List.drop_eq_getElem_cons hi, List.take_append_drop]
  rw [e1] at h1
  conv at h1 => rhs; rw [e2]
  unfold crcF at h1
  rw [List.foldl_append, List.foldl_append, List.foldl_cons, List.foldl_cons] at h1
  exact crcB_byte x0 x1 hb0 hb1 (crcF_inj _ h1)

end VS
end Go.Proofs.Ytkhekmmldnjenaa
/- Messages: what they are here, and their checks. -/
namespace Go.Proofs.Ytkhekmmldnjenaa
namespace VS

/-- A message. -/
structure Ms where
  kind : Int
  frm : Int
  to : Int
  num : Int
  val : Int
  epo : Int
  lst : AV
  bod : AV
  ns : List Int
  bs : List Int
def gm (p : Ms) : List AV := [.v (.int .i64 p.kind), .v (.int .i64 p.frm), .v (.int .i64 p.to), .v (.int .i64 p.num), .v (.int .i64 p.val), .v (.int .i64 p.epo), p.lst, p.bod]
structure Ms.Fit (p : Ms) : Prop where
  lst : IsL 1 p.lst (ints p.ns) p.ns.length
  bod : IsB p.bod p.bs
  byt : Byt p.bs

def chkM (p : Ms) : Int :=
  if p.kind < 1 ∨ 26 < p.kind then 1
  else if timeB p.frm = false ∨ timeB p.to = false ∨ numB p.num = false ∨ numB p.val = false ∨ numB p.epo = false ∨ p.ns.all numB = false then 2
  else if 4096 < p.ns.length then 6
  else 0

theorem expL_gm {p : Ms} (h : p.Fit) (st : St) : ∃ q : Ms, q.Fit ∧ q.kind = p.kind ∧ q.frm = p.frm ∧ q.to = p.to ∧ q.num = p.num ∧ q.val = p.val ∧ q.epo = p.epo ∧ q.ns = p.ns ∧ q.bs = p.bs ∧ expL st (gm p) = some (gm q, st) ∧ (∀ s, expL s (gm q) = some (gm q, s)) := by
  obtain ⟨a, ha, ha0, ha2⟩ := h.lst.exs
  obtain ⟨b, hb, hb0, hb2⟩ := h.bod.exs
  refine ⟨{ p with lst := a, bod := b }, ⟨ha, hb, h.byt⟩, rfl, rfl, rfl, rfl, rfl, rfl, rfl, rfl, ?_, fun s => ?_⟩
  · simp only [gm, expL, exp0_v, ha0, hb0]
  · simp only [gm, expL, exp0_v, ha2, hb2]

theorem not85 (n : Int) (st : St) : callL T 85 [.v (.int .i64 n)] st = some (.ret (.v (.bool (!numB n))), st) := by
  rw [call_plain T85 rfl rfl rfl]
  simp [inner_eq, s85, number83, dropped, expR]

theorem any_not {l : List Int} (p : Int → Bool) : (l.any fun n => !p n) = !(l.all p) := by
  induction l with
  | nil => rfl
  | cons x r ih => simp [ih]

theorem has84 {x : AV} {ns : List Int} (hx : IsL 1 x (ints ns) ns.length) (hlen : ns.length ≤ 1000000) (st : St) : callL T 84 [x, .fn 85 []] st = some (.ret (.v (.bool (!(ns.all numB)))), st) := by
  rw [← any_not]
  exact has81 (g := fun n => .v (.int .i64 n)) (p := fun n => !numB n) (F := 85) hlen (ints_flat' ns) hx (fun n _ st => not85 n st) st

/-- packet.checkMessage -/
theorem check59 {p : Ms} (h : p.Fit) (hx : p.ns.length ≤ 1000000) (st : St) : callL T 59 [.agg (gm p)] st = some (.ret (.v (.int .i64 (chkM p))), st) := by
  obtain ⟨q, hq, e1, e2, e3, e4, e5, e6, e7, e8, hexp, _⟩ := expL_gm h st
  rw [call_plain T59 rfl rfl (show expA st [.agg (gm p)] = some ([.agg (gm q)], st) by simp [expA, exp1, hexp])]
  have hl := hq.lst.len
  unfold chkM
  rw [← e1, ← e2, ← e3, ← e4, ← e5, ← e6, ← e7]
  rw [← e7] at hx
  have hs := fun st => has84 hq.lst hx st
  by_cases c1 : q.kind < 1
  · simp [inner_eq, s59, gm, opLoad, c1, dropped, expR]
  by_cases c2 : 26 < q.kind
  · simp [inner_eq, s59, gm, opLoad, c1, c2, dropped, expR]
  cases t1 : timeB q.frm with
  | false => simp [inner_eq, s59, gm, opLoad, c1, c2, time34, t1, dropped, expR]
  | true =>
  cases t2 : timeB q.to with
  | false => simp [inner_eq, s59, gm, opLoad, c1, c2, time34, t1, t2, dropped, expR]
  | true =>
  cases t3 : numB q.num with
  | false => simp [inner_eq, s59, gm, opLoad, c1, c2, time34, number83, t1, t2, t3, dropped, expR]
  | true =>
  cases t4 : numB q.val with
  | false => simp [inner_eq, s59, gm, opLoad, c1, c2, time34, number83, t1, t2, t3, t4, dropped, expR]
  | true =>
  cases t5 : numB q.epo with
  | false => simp [inner_eq, s59, gm, opLoad, c1, c2, time34, number83, t1, t2, t3, t4, t5, dropped, expR]
  | true =>
  cases t6 : q.ns.all numB with
  | false => simp [-List.all_eq_true, -List.all_eq_false, inner_eq, s59, gm, opLoad, c1, c2, time34, number83, t1, t2, t3, t4, t5, hs, t6, dropped, expR]
  | true =>
  by_cases c6 : (4096 : Int) < q.ns.length
  · have c6' : 4096 < q.ns.length := by omega
    simp [-List.all_eq_true, -List.all_eq_false, inner_eq, s59, gm, opLoad, c1, c2, time34, number83, t1, t2, t3, t4, t5, hs, t6, hl, c6, c6', dropped, expR]
  · have c6' : ¬ 4096 < q.ns.length := by omega
    simp [-List.all_eq_true, -List.all_eq_false, inner_eq, s59, gm, opLoad, c1, c2, time34, number83, t1, t2, t3, t4, t5, hs, t6, hl, c6, c6', dropped, expR]

theorem at_gm {p : Ms} {st : St} (h : st.H = [{ cells := gm p, fz := false }]) (j : Nat) : opLoad st none (.ptr 0 j) = (gm p)[j]? := opLoad_at h j

theorem refLoop61 {p : Ms} {t : Tag} (hp : p.lst = .sl (ints p.ns) p.ns.length t) (hlen : p.ns.length ≤ 1000000) {st : St} (hst : st.H = [{ cells := gm p, fz := false }]) : ∀ (k i : Nat) (b : Bool), i + k = p.ns.length →
    ∃ fr', runL T (.loop [1, 3, 4] s61b0) { s := [(1, .ptr 0 0), (3, .v (.bool b)), (4, .v (.int .i64 i))], d := [] } st = some (.ex 0, fr', st) ∧ fr'.only [1, 3] = { s := [(1, .ptr 0 0), (3, .v (.bool (b && (p.ns.drop i).all numB)))], d := [] }
  | 0, i, b, hi => by
    have hd : p.ns.drop i = [] := List.drop_eq_nil_of_le (by omega)
    refine ⟨?s, ?a, ?b⟩
    case a =>
      rw [runL_loop]
      have : ¬ (i : Int) < p.ns.length := by omega
      simp [s61b0, this, at_gm hst, gm, hp]
      rfl
    case b => simp [hd]
  | k + 1, i, b, hi => by
    have hlt : i < p.ns.length := by omega
    have hd : p.ns.drop i = p.ns[i] :: p.ns.drop (i + 1) := List.drop_eq_getElem_cons hlt
    have h1 : (i : Int) < p.ns.length := by omega
    have hw : IntKind.wrap .i64 ((i : Int) + 1) = ((i + 1 : Nat) : Int) := by rw [wrap_i64 (by omega) (by omega)]; omega
    have hg := ints_get p.ns i hlt
    obtain ⟨fr', hr, hfr⟩ := refLoop61 hp hlen hst k (i + 1) (b && numB p.ns[i]) (by omega)
    refine ⟨fr', ?_, by rw [hd, hfr, List.all_cons, Bool.and_assoc]⟩
    rw [runL_loop]
    generalize hL : SCode.loop [1, 3, 4] s61b0 = L
    cases b with
    | false =>
      simp only [s61b0]
      simp [h1, at_gm hst, gm, hp, opLoad_ep, hg, hw]
      subst hL
      refine (loop_from ?_).trans hr
      simp
    | true =>
      by_cases h0 : 0 ≤ p.ns[i]
      · simp only [s61b0]
        simp [h1, at_gm hst, gm, hp, opLoad_ep, hg, hw, h0]
        subst hL
        refine (loop_from ?_).trans hr
        simp [numB, h0]
      · simp only [s61b0]
        simp [h1, at_gm hst, gm, hp, opLoad_ep, hg, hw, h0]
        subst hL
        refine (loop_from ?_).trans hr
        simp [numB, h0]

theorem ref61 {p : Ms} (h : p.Fit) (hlen : p.ns.length ≤ 1000000) (b : Bool) {st : St} (hst : st.H = [{ cells := gm p, fz := false }]) :
    ∃ fr', runL T (.loop [1, 3, 4] s61b0) { s := [(1, .ptr 0 0), (3, .v (.bool b)), (4, .v (.int .i64 (0 : Nat)))], d := [] } st = some (.ex 0, fr', st) ∧ fr'.only [1, 3] = { s := [(1, .ptr 0 0), (3, .v (.bool (b && p.ns.all numB)))], d := [] } := by
  have hf := h.lst
  generalize hc : ints p.ns = cs at hf
  generalize hn : p.ns.length = n at hf
  generalize hx : p.lst = x at hf
  cases hf with
  | nil =>
    have h0 : p.ns = [] := List.eq_nil_of_length_eq_zero hn
    refine ⟨?s, ?a, ?b⟩
    case a =>
      rw [runL_loop]
      simp [s61b0, at_gm hst, gm, hx]
      rfl
    case b => simp [h0]
  | @sl _ _ t ht hl =>
    subst hc; subst hn
    have := refLoop61 hx hlen hst p.ns.length 0 b (by omega)
    rw [List.drop_zero] at this
    exact this

/-- ref.CheckMessage -/
theorem check61 {p : Ms} (h : p.Fit) (hx : p.ns.length ≤ 1000000) (st : St) : callL T 61 [.agg (gm p)] st = some (.ret (.v (.int .i64 (chkM p))), st) := by
  obtain ⟨q, hq, e1, e2, e3, e4, e5, e6, e7, e8, hexp, _⟩ := expL_gm h st
  rw [call_plain T61 rfl rfl (show expA st [.agg (gm p)] = some ([.agg (gm q)], st) by simp [expA, exp1, hexp])]
  have hl := hq.lst.len
  unfold chkM
  rw [← e1, ← e2, ← e3, ← e4, ← e5, ← e6, ← e7]
  rw [← e7] at hx
  have hH : ({ H := [{ cells := gm q, fz := false }], F := [] } : St).H = [{ cells := gm q, fz := false }] := rfl
  by_cases c1 : q.kind < 1
  · simp [inner_eq, s61, gm, opLoad, c1, dropped, expR]
  by_cases c2 : 26 < q.kind
  · simp [inner_eq, s61, gm, opLoad, c1, c2, dropped, expR]
  obtain ⟨fr0, hr0, hfr0⟩ := ref61 hq hx false hH
  obtain ⟨fr1, hr1, hfr1⟩ := ref61 hq hx true hH
  have hu0 := loop_use hr0
  have hu1 := loop_use hr1
  simp only [gm] at hu0 hu1
  simp only [Bool.false_and] at hfr0
  simp only [Bool.true_and] at hfr1
  cases t1 : timeB q.frm with
  | false =>
    simp [St.mt, inner_eq, s61, gm, opLoad, c1, c2, time36, t1]
    rw [hu0 _ (by simp)]
    simp [hfr0, dropped, expR]
  | true =>
  cases t2 : timeB q.to with
  | false =>
    simp [St.mt, inner_eq, s61, gm, opLoad, c1, c2, time36, t1, t2]
    rw [hu0 _ (by simp)]
    simp [hfr0, dropped, expR]
  | true =>
  by_cases n0 : 0 ≤ q.num
  case neg =>
    have n1 : numB q.num = false := by simp [numB]; omega
    simp [St.mt, inner_eq, s61, gm, opLoad, c1, c2, time36, t1, t2, n0, n1]
    rw [hu0 _ (by simp)]
    simp [hfr0, dropped, expR]
  by_cases n2 : q.num ≤ 9007199254740991
  case neg =>
    have n1 : numB q.num = false := by simp [numB]; omega
    simp [St.mt, inner_eq, s61, gm, opLoad, c1, c2, time36, t1, t2, n0, n2, n1]
    rw [hu0 _ (by simp)]
    simp [hfr0, dropped, expR]
  have n3 : numB q.num = true := by simp [numB]; omega
  by_cases v0 : 0 ≤ q.val
  case neg =>
    have v1 : numB q.val = false := by simp [numB]; omega
    simp [St.mt, inner_eq, s61, gm, opLoad, c1, c2, time36, t1, t2, n0, n2, n3, v0, v1]
    rw [hu0 _ (by simp)]
    simp [hfr0, dropped, expR]
  by_cases v2 : q.val ≤ 9007199254740991
  case neg =>
    have v1 : numB q.val = false := by simp [numB]; omega
    simp [St.mt, inner_eq, s61, gm, opLoad, c1, c2, time36, t1, t2, n0, n2, n3, v0, v2, v1]
    rw [hu0 _ (by simp)]
    simp [hfr0, dropped, expR]
  have v3 : numB q.val = true := by simp [numB]; omega
  by_cases e0 : 0 ≤ q.epo
  case neg =>
    have e1 : numB q.epo = false := by simp [numB]; omega
    simp [St.mt, inner_eq, s61, gm, opLoad, c1, c2, time36, t1, t2, n0, n2, n3, v0, v2, v3, e0, e1]
    rw [hu0 _ (by simp)]
    simp [hfr0, dropped, expR]
  by_cases e2 : q.epo ≤ 9007199254740991
  case neg =>
    have e1 : numB q.epo = false := by simp [numB]; omega
    simp [St.mt, inner_eq, s61, gm, opLoad, c1, c2, time36, t1, t2, n0, n2, n3, v0, v2, v3, e0, e2, e1]
    rw [hu0 _ (by simp)]
    simp [hfr0, dropped, expR]
  have e3 : numB q.epo = true := by simp [numB]; omega
  cases t6 : q.ns.all numB with
  | false =>
    simp [St.mt, inner_eq, s61, gm, opLoad, c1, c2, time36, t1, t2, n0, n2, n3, v0, v2, v3, e0, e2, e3]
    rw [hu1 _ (by simp)]
    simp [hfr1, t6, dropped, expR, -List.all_eq_true, -List.all_eq_false]
  | true =>
  by_cases c6 : (4096 : Int) < q.ns.length
  · have c6' : 4096 < q.ns.length := by omega
    simp [St.mt, inner_eq, s61, gm, opLoad, c1, c2, time36, t1, t2, n0, n2, n3, v0, v2, v3, e0, e2, e3]
    rw [hu1 _ (by simp)]
    simp [hfr1, t6, opLoad, hl, c6, c6', dropped, expR, -List.all_eq_true, -List.all_eq_false]
  · have c6' : ¬ 4096 < q.ns.length := by omega
    simp [St.mt, inner_eq, s61, gm, opLoad, c1, c2, time36, t1, t2, n0, n2, n3, v0, v2, v3, e0, e2, e3]
    rw [hu1 _ (by simp)]
    simp [hfr1, t6, opLoad, hl, c6, c6', dropped, expR, -List.all_eq_true, -List.all_eq_false]

end VS
end Go.Proofs.Ytkhekmmldnjenaa
/- Encodings of packets and messages: both functions compute them. -/
namespace Go.Proofs.Ytkhekmmldnjenaa
namespace VS

/-- Bytes to which may be appended. -/
def AB (st : St) (x : AV) (l : List Int) : Prop := App st 1 x (bys l) l.length
theorem AB.nil {st : St} : AB st (.v (.slice none 0 0)) [] := App.nil
theorem AB.isB {st : St} {x : AV} {l : List Int} (h : AB st x l) : IsB x l := App.isB h

theorem pInt {x : AV} {l : List Int} {n : Int} (hx : IsB x l) (hm : l.length ≤ 1000000000)  (st : St) :
    ∃ y st', callL T 38 [x, .v (.int .i64 n)] st = some (.ret y, st') ∧ AB st' y (l ++ enc n) ∧ st'.H = st.H := by
  obtain ⟨y, st', h1, h2, h3⟩ := PutInt n hx.isL (by omega) st
  refine ⟨y, st', h1, ?_, h3⟩
  unfold AB
  simpa [bys_append, Nat.add_assoc] using h2
theorem rInt {x : AV} {l : List Int} {n : Int} (hx : IsB x l) (hm : l.length ≤ 1000000000)  (st : St) :
    ∃ y st', callL T 42 [x, .v (.int .i64 n)] st = some (.ret y, st') ∧ AB st' y (l ++ enc n) ∧ st'.H = st.H := by
  obtain ⟨y, st', h1, h2, h3⟩ := refPutInt n hx.isL (by omega) st
  refine ⟨y, st', h1, ?_, h3⟩
  unfold AB
  simpa [bys_append, Nat.add_assoc] using h2
theorem pBytes {x : AV} {l : List Int} {b : AV} {bs : List Int} (hx : IsB x l) (hm : l.length ≤ 1000000000) (hb : IsB b bs) (hk : bs.length ≤ 1000000000) (st : St) :
    ∃ y st', callL T 40 [x, b] st = some (.ret y, st') ∧ AB st' y (l ++ (enc bs.length ++ bs)) ∧ st'.H = st.H := by
  obtain ⟨y, st', h1, h2, h3⟩ := putBytes hx.isL hb.isL (by omega) (by omega) st
  refine ⟨y, st', h1, ?_, h3⟩
  unfold AB
  simpa [bys_append, Nat.add_assoc] using h2
theorem rBytes {x : AV} {l : List Int} {b : AV} {bs : List Int} (hx : IsB x l) (hm : l.length ≤ 1000000000) (hb : IsB b bs) (hk : bs.length ≤ 1000000000) (st : St) :
    ∃ y st', callL T 44 [x, b] st = some (.ret y, st') ∧ AB st' y (l ++ (enc bs.length ++ bs)) ∧ st'.H = st.H := by
  obtain ⟨y, st', h1, h2, h3⟩ := refPutBytes hx.isL hb.isL (by omega) (by omega) st
  refine ⟨y, st', h1, ?_, h3⟩
  unfold AB
  simpa [bys_append, Nat.add_assoc] using h2
theorem pInts {x : AV} {l : List Int} {b : AV} {ns : List Int} (hx : IsB x l) (hm : l.length ≤ 1000000000) (hb : IsL 1 b (ints ns) ns.length) (hk : ns.length ≤ 1000000) (st : St) :
    ∃ y st', callL T 64 [x, b] st = some (.ret y, st') ∧ AB st' y (l ++ (enc ns.length ++ encs ns)) ∧ st'.H = st.H := by
  obtain ⟨y, st', h1, h2, h3⟩ := putInts hx.isL hb (by omega) (by omega) st
  refine ⟨y, st', h1, ?_, h3⟩
  unfold AB
  simpa [bys_append, Nat.add_assoc] using h2
theorem rInts {x : AV} {l : List Int} {b : AV} {ns : List Int} (hx : IsB x l) (hm : l.length ≤ 1000000000) (hb : IsL 1 b (ints ns) ns.length) (hk : ns.length ≤ 1000000) (st : St) :
    ∃ y st', callL T 65 [x, b] st = some (.ret y, st') ∧ AB st' y (l ++ (enc ns.length ++ encs ns)) ∧ st'.H = st.H := by
  obtain ⟨y, st', h1, h2, h3⟩ := refPutInts hx.isL hb (by omega) (by omega) st
  refine ⟨y, st', h1, ?_, h3⟩
  unfold AB
  simpa [bys_append, Nat.add_assoc] using h2
theorem pExts {x : AV} {l : List Int} {b : AV} {xs : List (Int × Int)} (hx : IsB x l) (hm : l.length ≤ 1000000000) (hb : IsL 2 b (xs.flatMap gx) xs.length) (hk : xs.length ≤ 1000000) (st : St) :
    ∃ y st', callL T 41 [x, b] st = some (.ret y, st') ∧ AB st' y (l ++ (enc xs.length ++ xs.flatMap ex)) ∧ st'.H = st.H := by
  obtain ⟨y, st', h1, h2, h3⟩ := putExtents hk hx.isL hb (by omega) st
  refine ⟨y, st', h1, ?_, h3⟩
  unfold AB
  simpa [bys_append, Nat.add_assoc] using h2
theorem rExts {x : AV} {l : List Int} {b : AV} {xs : List (Int × Int)} (hx : IsB x l) (hm : l.length ≤ 1000000000) (hb : IsL 2 b (xs.flatMap gx) xs.length) (hk : xs.length ≤ 1000000) (st : St) :
    ∃ y st', callL T 43 [x, b] st = some (.ret y, st') ∧ AB st' y (l ++ (enc xs.length ++ xs.flatMap ex)) ∧ st'.H = st.H := by
  obtain ⟨y, st', h1, h2, h3⟩ := ref24 hk hx.isL hb (by omega) st
  refine ⟨y, st', h1, ?_, h3⟩
  unfold AB
  simpa [bys_append, Nat.add_assoc] using h2

/-- The bytes of a sum. -/
def sumB (r : BitVec 32) : List Int := [(r.toNat : Int) % 256, ((r >>> 8).toNat : Int) % 256, ((r >>> 16).toNat : Int) % 256, ((r >>> 24).toNat : Int) % 256]
/-- Bytes, followed by their sum. -/
def sealB (l : List Int) : List Int := l ++ sumB (crc l)
theorem sumB_byt (r : BitVec 32) : Byt (sumB r) := by
  intro b hb
  simp only [sumB, List.mem_cons, List.not_mem_nil, or_false] at hb
  rcases hb with rfl | rfl | rfl | rfl <;> omega
theorem sealB_byt {l : List Int} (h : Byt l) : Byt (sealB l) := h.append (sumB_byt _)
theorem sealB_len (l : List Int) : (sealB l).length = l.length + 4 := by simp [sealB, sumB]

/-- packet.seal -/
theorem seal39 {x : AV} {l : List Int} {st : St} (hx : AB st x l) (hb : Byt l) (hlen : l.length ≤ 1000000000) : ∃ y st', callL T 39 [x] st = some (.ret y, st') ∧ AB st' y (sealB l) ∧ st'.H = st.H := by
  rw [call_whole T39 (.inr rfl) rfl]
  have hs := sum68 hx.isB hb hlen st
  have h8 : shrI .u32 ((crc l).toNat : Int) 8 = (((crc l) >>> 8).toNat : Int) := shrI_u32 _ 8 (by omega)
  have h16 : shrI .u32 ((crc l).toNat : Int) 16 = (((crc l) >>> 16).toNat : Int) := shrI_u32 _ 16 (by omega)
  have h24 : shrI .u32 ((crc l).toNat : Int) 24 = (((crc l) >>> 24).toNat : Int) := shrI_u32 _ 24 (by omega)
  have hx' : App st 1 x (bys l) l.length := hx
  obtain ⟨z, st1, happ, hA, hH⟩ := app_append (bytes := 1) hx' (y := .sl (bys (sumB (crc l))) 4 .full) (ds := bys (sumB (crc l))) (m := 4) (.sl (by simp) (by simp [sumB])) (by omega) (by simp only [most47]; omega) (by omega)
  refine ⟨z, st1, ?_, ?_, hH⟩
  · simp only [bys, sumB, List.map_cons, List.map_nil] at happ
    simp only [inner_eq, s39]
    simp [-Int.natCast_emod, -BitVec.toNat_ushiftRight, u32, hs, h8, h16, h24, wrap_u8, happ]
  · unfold AB
    rw [sealB_len, sealB, bys_append]
    exact hA

/-- ref.Sealed -/
theorem sealed21 {x : AV} {l : List Int} (hx : IsB x l) (hb : Byt l) (hlen : l.length ≤ 1000000000) (st : St) : ∃ y st', callL T 21 [x] st = some (.ret y, st') ∧ AB st' y (sealB l) ∧ st'.H = st.H := by
  obtain ⟨x', hx1, hx2, _⟩ := hx.exp st
  rw [call_keep T21 rfl rfl (show expA st [x] = some ([x'], st) by simp [expA, hx1])]
  obtain ⟨u, st0, hap, hA0, _⟩ := app_append (st := .mt) (bytes := 1) .nil hx2.isL (by omega) (by simp only [most47]; omega) (by omega)
  rw [List.nil_append, Nat.zero_add] at hA0
  have hs := refSum hx2 hb hlen st0
  have h8 : shrI .u32 ((crc l).toNat : Int) 8 = (((crc l) >>> 8).toNat : Int) := shrI_u32 _ 8 (by omega)
  have h16 : shrI .u32 ((crc l).toNat : Int) 16 = (((crc l) >>> 16).toNat : Int) := shrI_u32 _ 16 (by omega)
  have h24 : shrI .u32 ((crc l).toNat : Int) 24 = (((crc l) >>> 24).toNat : Int) := shrI_u32 _ 24 (by omega)
  obtain ⟨z, st1, happ, hA, _⟩ := app_append (bytes := 1) hA0 (y := .sl (bys (sumB (crc l))) 4 .full) (ds := bys (sumB (crc l))) (m := 4) (.sl (by simp) (by simp [sumB])) (by omega) (by simp only [most47]; omega) (by omega)
  obtain ⟨y', st', hk, hA', hH'⟩ := kept_app (st := st) hA
  refine ⟨y', st', ?_, ?_, hH'⟩
  · simp only [bys, sumB, List.map_cons, List.map_nil] at happ
    simp only [inner_eq, s21]
    simp [-Int.natCast_emod, -BitVec.toNat_ushiftRight, u32, hap, hs, h8, h16, h24, wrap_u8, happ, hk]
  · unfold AB
    rw [sealB_len, sealB, bys_append]
    exact hA'

/-- What stands in front of the sum. -/
def bodP (p : Pk) : List Int := encs [p.kind, p.ses, p.seq, p.ack, p.cre] ++ (enc p.xs.length ++ p.xs.flatMap ex) ++ (enc p.bs.length ++ p.bs)
def bodM (p : Ms) : List Int := encs [p.kind, p.frm, p.to, p.num, p.val, p.epo] ++ (enc p.ns.length ++ encs p.ns) ++ (enc p.bs.length ++ p.bs)
theorem bodP_byt {p : Pk} (h : p.Fit) : Byt (bodP p) := ((encs_byt _).append ((enc_byt _).append (flatMap_byt fun p _ => ex_byt p))).append ((enc_byt _).append h.byt)
theorem bodM_byt {p : Ms} (h : p.Fit) : Byt (bodM p) := ((encs_byt _).append ((enc_byt _).append (encs_byt _))).append ((enc_byt _).append h.byt)
theorem bodP_le {p : Pk} (hx : p.xs.length ≤ 1000000) (hb : p.bs.length ≤ 1000000) : (bodP p).length ≤ 20000000 := by
  have h1 := encs_le [p.kind, p.ses, p.seq, p.ack, p.cre]
  have h2 := (enc_length (p.xs.length : Int)).2
  have h3 : (p.xs.flatMap ex).length ≤ 18 * p.xs.length := flat_le fun x _ => ex_le x
  have h4 := (enc_length (p.bs.length : Int)).2
  simp only [bodP, List.length_append, List.length_cons, List.length_nil] at h1 ⊢
  omega
theorem bodM_le {p : Ms} (hx : p.ns.length ≤ 1000000) (hb : p.bs.length ≤ 1000000) : (bodM p).length ≤ 20000000 := by
  have h1 := encs_le [p.kind, p.frm, p.to, p.num, p.val, p.epo]
  have h2 := (enc_length (p.ns.length : Int)).2
  have h3 := encs_le p.ns
  have h4 := (enc_length (p.bs.length : Int)).2
  simp only [bodM, List.length_append, List.length_cons, List.length_nil] at h1 ⊢
  omega

theorem loop18 (q : AV) (ns : List Int) (t : Tag) (hlen : ns.length ≤ 1000) : ∀ (k i : Nat) (x : AV) (l : List Int) (st : St), AB st x l → i + k = ns.length → l.length + 9 * k ≤ 1000000 →
    ∃ y fr' st', runL T (.loop [1, 5, 23, 24, 25] s18b0) { s := [(1, q), (5, x), (23, .sl (ints ns) ns.length t), (24, .v (.int .i64 ns.length)), (25, .v (.int .i64 i))], d := [] } st = some (.ex 0, fr', st') ∧ fr'.only [1, 5] = { s := [(1, q), (5, y)], d := [] } ∧ AB st' y (l ++ encs (ns.drop i)) ∧ st'.H = st.H
  | 0, i, x, l, st, hx, hi, _ => by
    have hd : ns.drop i = [] := List.drop_eq_nil_of_le (by omega)
    refine ⟨x, ?s, st, ?a, ?b, by rw [hd]; simpa [encs] using hx, rfl⟩
    case a =>
      rw [runL_loop]
      have : ¬ (i : Int) < ns.length := by omega
      simp [s18b0, this]
      rfl
    case b => simp
  | k + 1, i, x, l, st, hx, hi, hm => by
    have hlt : i < ns.length := by omega
    have hd : ns.drop i = ns[i] :: ns.drop (i + 1) := List.drop_eq_getElem_cons hlt
    obtain ⟨u, st1, hp, hA, hH⟩ := pInt (n := ns[i]) hx.isB (by omega) st
    have hle := (enc_length ns[i]).2
    obtain ⟨y, fr', st', hr, hfr, hA', hH'⟩ := loop18 q ns t hlen k (i + 1) u _ st1 hA (by omega) (by rw [List.length_append]; omega)
    refine ⟨y, fr', st', ?_, hfr, ?_, hH'.trans hH⟩
    · rw [runL_loop]
      generalize hL : SCode.loop [1, 5, 23, 24, 25] s18b0 = L
      have hw : IntKind.wrap .i64 ((i : Int) + 1) = ((i + 1 : Nat) : Int) := by rw [wrap_i64 (by omega) (by omega)]; omega
      have h1 : (i : Int) < ns.length := by omega
      have h2 := ints_get ns i hlt
      simp [s18b0, h1, opLoad_ep, h2, hp, hw]
      subst hL
      refine (loop_from ?_).trans hr
      simp
    · rw [hd, encs_cons, ← List.append_assoc]
      exact hA'

theorem loop29 (q : AV) (ns : List Int) (t : Tag) (hlen : ns.length ≤ 1000) : ∀ (k i : Nat) (x : AV) (l : List Int) (st : St), AB st x l → i + k = ns.length → l.length + 9 * k ≤ 1000000 →
    ∃ y fr' st', runL T (.loop [1, 5, 25, 26, 27] s29b0) { s := [(1, q), (5, x), (25, .sl (ints ns) ns.length t), (26, .v (.int .i64 ns.length)), (27, .v (.int .i64 i))], d := [] } st = some (.ex 0, fr', st') ∧ fr'.only [1, 5] = { s := [(1, q), (5, y)], d := [] } ∧ AB st' y (l ++ encs (ns.drop i)) ∧ st'.H = st.H
  | 0, i, x, l, st, hx, hi, _ => by
    have hd : ns.drop i = [] := List.drop_eq_nil_of_le (by omega)
    refine ⟨x, ?s, st, ?a, ?b, by rw [hd]; simpa [encs] using hx, rfl⟩
    case a =>
      rw [runL_loop]
      have : ¬ (i : Int) < ns.length := by omega
      simp [s29b0, this]
      rfl
    case b => simp
  | k + 1, i, x, l, st, hx, hi, hm => by
    have hlt : i < ns.length := by omega
    have hd : ns.drop i = ns[i] :: ns.drop (i + 1) := List.drop_eq_getElem_cons hlt
    obtain ⟨u, st1, hp, hA, hH⟩ := pInt (n := ns[i]) hx.isB (by omega) st
    have hle := (enc_length ns[i]).2
    obtain ⟨y, fr', st', hr, hfr, hA', hH'⟩ := loop29 q ns t hlen k (i + 1) u _ st1 hA (by omega) (by rw [List.length_append]; omega)
    refine ⟨y, fr', st', ?_, hfr, ?_, hH'.trans hH⟩
    · rw [runL_loop]
      generalize hL : SCode.loop [1, 5, 25, 26, 27] s29b0 = L
      have hw : IntKind.wrap .i64 ((i : Int) + 1) = ((i + 1 : Nat) : Int) := by rw [wrap_i64 (by omega) (by omega)]; omega
      have h1 : (i : Int) < ns.length := by omega
      have h2 := ints_get ns i hlt
      simp [s29b0, h1, opLoad_ep, h2, hp, hw]
      subst hL
      refine (loop_from ?_).trans hr
      simp
    · rw [hd, encs_cons, ← List.append_assoc]
      exact hA'

theorem at_gp {p : Pk} {st : St} (h : st.H = [{ cells := gp p, fz := false }]) (j : Nat) : opLoad st none (.ptr 0 j) = (gp p)[j]? := opLoad_at h j
theorem all_gp {p : Pk} {st : St} (h : st.H = [{ cells := gp p, fz := false }]) : opLoad st (some 7) (.ptr 0 0) = some (.agg (gp p)) := by simp [opLoad, h, gp]
theorem all_gm {p : Ms} {st : St} (h : st.H = [{ cells := gm p, fz := false }]) : opLoad st (some 8) (.ptr 0 0) = some (.agg (gm p)) := by simp [opLoad, h, gm]

def encP (p : Pk) : List Int := if chk p = 0 then sealB (bodP p) else []
/-- The error of a message, its length among them. -/
def errM (p : Ms) : Int := if chkM p = 0 then (if 65536 < (sealB (bodM p)).length then 5 else 0) else chkM p
def encM (p : Ms) : List Int := if errM p = 0 then sealB (bodM p) else []

theorem tup_out {x : AV} {l : List Int} (hx : IsB x l) (n : Int) (s st : St) : ∃ y, dropped st (some (.ret (.tup [x, .v (.int .i64 n)]), s)) = some (.ret (.tup [y, .v (.int .i64 n)]), st) ∧ IsB y l := by
  obtain ⟨y, h1, h2, _⟩ := hx.exps
  exact ⟨y, by simp [dropped, expR, expA, h1], h2⟩

/-- packet.Encode -/
theorem enc18 {p : Pk} (h : p.Fit) (hx : p.xs.length ≤ 1000000) (hb : p.bs.length ≤ 1000000) (st : St) : ∃ y, callL T 18 [.agg (gp p)] st = some (.ret (.tup [y, .v (.int .i64 (chk p))]), st) ∧ IsB y (encP p) := by
  obtain ⟨q, hq, e1, e2, e3, e4, e5, e6, e7, hexp, hexp2⟩ := expL_gp h st
  rw [call_plain T18 rfl rfl (show expA st [.agg (gp p)] = some ([.agg (gp q)], st) by simp [expA, exp1, hexp])]
  have hbod : bodP q = bodP p := by simp only [bodP, e1, e2, e3, e4, e5, e6, e7]
  have hchk : chk q = chk p := by simp only [chk, e1, e2, e3, e4, e5, e6, e7]
  rw [← e6] at hx
  rw [← e7] at hb
  have hle := bodP_le hx hb
  have hbyt := bodP_byt hq
  have hck := fun s => check13 hq hx s
  rw [hchk] at hck
  by_cases hc : chk p = 0
  · obtain ⟨x1, fr1, s1, hr1, hf1, hA1, hH1⟩ := loop18 (.ptr 0 0) [q.kind, q.ses, q.seq, q.ack, q.cre] .full (by simp) 5 0 (.v (.slice none 0 0)) [] { H := [{ cells := gp q, fz := false }], F := [] } AB.nil rfl (by simp)
    have hu := loop_use hr1
    have hl1 := encs_le [q.kind, q.ses, q.seq, q.ack, q.cre]
    rw [List.nil_append, List.drop_zero] at hA1
    simp only [List.length_cons, List.length_nil] at hl1
    obtain ⟨x2, s2, h2, hA2, hH2⟩ := pExts hA1.isB (by omega) hq.sel hx s1
    have hl2 : (encs [q.kind, q.ses, q.seq, q.ack, q.cre] ++ (enc q.xs.length ++ q.xs.flatMap ex)).length ≤ (bodP q).length := by unfold bodP; simp only [List.length_append]; omega
    obtain ⟨x3, s3, h3, hA3, hH3⟩ := pBytes hA2.isB (by omega) hq.pay (by omega) s2
    obtain ⟨x4, s4, h4, hA4, hH4⟩ := seal39 (l := bodP q) hA3 hbyt (by omega)
    have g1 := at_gp hH1
    have g2 := at_gp (hH2.trans hH1)
    obtain ⟨y, hy, hyb⟩ := tup_out hA4.isB 0 s4 st
    refine ⟨y, ?_, ?_⟩
    · simp only [gp] at hu hck g1 g2
      simp only [inner_eq, s18]
      simp [St.mt, gp, opLoad, hck, hc]
      rw [hu _ (by simp [ints])]
      simp [hf1, g1, g2, h2, h3, h4, hy]
    · rw [encP, if_pos hc, ← hbod]; exact hyb
  · refine ⟨.v (.slice none 0 0), ?_, ?_⟩
    · simp only [gp] at hck
      simp only [inner_eq, s18]
      simp [St.mt, gp, opLoad, hck, hc, dropped, expR, expA]
    · rw [encP, if_neg hc]; exact .nil

/-- packet.EncodeMessage -/
theorem enc29 {p : Ms} (h : p.Fit) (hx : p.ns.length ≤ 1000000) (hb : p.bs.length ≤ 1000000) (st : St) : ∃ y, callL T 29 [.agg (gm p)] st = some (.ret (.tup [y, .v (.int .i64 (errM p))]), st) ∧ IsB y (encM p) := by
  obtain ⟨q, hq, e1, e2, e3, e4, e5, e6, e7, e8, hexp, hexp2⟩ := expL_gm h st
  rw [call_plain T29 rfl rfl (show expA st [.agg (gm p)] = some ([.agg (gm q)], st) by simp [expA, exp1, hexp])]
  have hbod : bodM q = bodM p := by simp only [bodM, e1, e2, e3, e4, e5, e6, e7, e8]
  have hchk : chkM q = chkM p := by simp only [chkM, e1, e2, e3, e4, e5, e6, e7]
  rw [← e7] at hx
  rw [← e8] at hb
  have hle := bodM_le hx hb
  have hbyt := bodM_byt hq
  have hck := fun s => check59 hq hx s
  rw [hchk] at hck
  by_cases hc : chkM p = 0
  · obtain ⟨x1, fr1, s1, hr1, hf1, hA1, hH1⟩ := loop29 (.ptr 0 0) [q.kind, q.frm, q.to, q.num, q.val, q.epo] .full (by simp) 6 0 (.v (.slice none 0 0)) [] { H := [{ cells := gm q, fz := false }], F := [] } AB.nil rfl (by simp)
    have hu := loop_use hr1
    have hl1 := encs_le [q.kind, q.frm, q.to, q.num, q.val, q.epo]
    rw [List.nil_append, List.drop_zero] at hA1
    simp only [List.length_cons, List.length_nil] at hl1
    obtain ⟨x2, s2, h2, hA2, hH2⟩ := pInts hA1.isB (by omega) hq.lst hx s1
    have hl2 : (encs [q.kind, q.frm, q.to, q.num, q.val, q.epo] ++ (enc q.ns.length ++ encs q.ns)).length ≤ (bodM q).length := by unfold bodM; simp only [List.length_append]; omega
    obtain ⟨x3, s3, h3, hA3, hH3⟩ := pBytes hA2.isB (by omega) hq.bod (by omega) s2
    obtain ⟨x4, s4, h4, hA4, hH4⟩ := seal39 (l := bodM q) hA3 hbyt (by omega)
    have g1 := at_gm hH1
    have g2 := at_gm (hH2.trans hH1)
    have hk := hA4.isB.isL.len
    simp only [gm] at hu hck g1 g2
    by_cases hlong : 65536 < (sealB (bodM q)).length
    · have hlong' : (65536 : Int) < (sealB (bodM q)).length := by omega
      have he : errM p = 5 := by rw [errM, if_pos hc, ← hbod, if_pos hlong]
      refine ⟨.v (.slice none 0 0), ?_, ?_⟩
      · rw [he]
        simp only [inner_eq, s29]
        simp [St.mt, gm, opLoad, hck, hc]
        rw [hu _ (by simp [ints])]
        simp [hf1, g1, g2, h2, h3, h4, hk, hlong', dropped, expR, expA]
      · rw [encM, he]; exact .nil
    · have hlong' : ¬ (65536 : Int) < (sealB (bodM q)).length := by omega
      have he : errM p = 0 := by rw [errM, if_pos hc, ← hbod, if_neg hlong]
      obtain ⟨y, hy, hyb⟩ := tup_out hA4.isB 0 s4 st
      refine ⟨y, ?_, ?_⟩
      · rw [he]
        simp only [inner_eq, s29]
        simp [St.mt, gm, opLoad, hck, hc]
        rw [hu _ (by simp [ints])]
        simp [hf1, g1, g2, h2, h3, h4, hk, hlong', hy]
      · rw [encM, if_pos he, ← hbod]; exact hyb
  · have he : errM p = chkM p := by rw [errM, if_neg hc]
    refine ⟨.v (.slice none 0 0), ?_, ?_⟩
    · simp only [gm] at hck
      rw [he]
      simp only [inner_eq, s29]
      simp [St.mt, gm, opLoad, hck, hc, dropped, expR, expA]
    · rw [encM, he, if_neg hc]; exact .nil

/-- ref.Encode -/
theorem enc19 {p : Pk} (h : p.Fit) (hx : p.xs.length ≤ 1000000) (hb : p.bs.length ≤ 1000000) (st : St) : ∃ y, callL T 19 [.agg (gp p)] st = some (.ret (.tup [y, .v (.int .i64 (chk p))]), st) ∧ IsB y (encP p) := by
  obtain ⟨q, hq, e1, e2, e3, e4, e5, e6, e7, hexp, hexp2⟩ := expL_gp h st
  rw [call_plain T19 rfl rfl (show expA st [.agg (gp p)] = some ([.agg (gp q)], st) by simp [expA, exp1, hexp])]
  have hbod : bodP q = bodP p := by simp only [bodP, e1, e2, e3, e4, e5, e6, e7]
  have hchk : chk q = chk p := by simp only [chk, e1, e2, e3, e4, e5, e6, e7]
  rw [← e6] at hx
  rw [← e7] at hb
  have hle := bodP_le hx hb
  have hbyt := bodP_byt hq
  have hck := fun s => check14 hq hx s
  rw [hchk] at hck
  by_cases hc : chk p = 0
  · have l0 := (enc_length q.kind).2
    have l1 := (enc_length q.ses).2
    have l2 := (enc_length q.seq).2
    have l3 := (enc_length q.ack).2
    have l4 := (enc_length q.cre).2
    have hq0 : ({ H := [{ cells := gp q, fz := false }], F := [] } : St).H = [{ cells := gp q, fz := false }] := rfl
    obtain ⟨x1, s1, h1, hA1, hH1⟩ := rInt (n := q.kind) (IsB.nil (q := none)) (by simp) { H := [{ cells := gp q, fz := false }], F := [] }
    have hq1 := hH1.trans hq0
    obtain ⟨x2, s2, h2, hA2, hH2⟩ := rInt (n := q.ses) hA1.isB (by simp only [List.nil_append, List.length_append, List.length_nil]; omega) s1
    have hq2 := hH2.trans hq1
    obtain ⟨x3, s3, h3, hA3, hH3⟩ := rInt (n := q.seq) hA2.isB (by simp only [List.nil_append, List.length_append, List.length_nil]; omega) s2
    have hq3 := hH3.trans hq2
    obtain ⟨x4, s4, h4, hA4, hH4⟩ := rInt (n := q.ack) hA3.isB (by simp only [List.nil_append, List.length_append, List.length_nil]; omega) s3
    have hq4 := hH4.trans hq3
    obtain ⟨x5, s5, h5, hA5, hH5⟩ := rInt (n := q.cre) hA4.isB (by simp only [List.nil_append, List.length_append, List.length_nil]; omega) s4
    have hq5 := hH5.trans hq4
    have hAm : AB s5 x5 (encs [q.kind, q.ses, q.seq, q.ack, q.cre]) := by simpa [encs, List.append_assoc] using hA5
    have hl1 := encs_le [q.kind, q.ses, q.seq, q.ack, q.cre]
    simp only [List.length_cons, List.length_nil] at hl1
    obtain ⟨y2, t2, k2, hB2, hG2⟩ := rExts hAm.isB (by omega) hq.sel hx s5
    have hr2 := hG2.trans hq5
    have hl2 : (encs [q.kind, q.ses, q.seq, q.ack, q.cre] ++ (enc q.xs.length ++ q.xs.flatMap ex)).length ≤ (bodP q).length := by unfold bodP; simp only [List.length_append]; omega
    obtain ⟨y3, t3, k3, hB3, hG3⟩ := rBytes hB2.isB (by omega) hq.pay (by omega) t2
    obtain ⟨y4, t4, k4, hB4, hG4⟩ := sealed21 (l := bodP q) hB3.isB hbyt (by omega) t3
    have a1 := at_gp hq1
    have a2 := at_gp hq2
    have a3 := at_gp hq3
    have a4 := at_gp hq4
    have a5 := at_gp hq5
    have b2 := at_gp hr2
    have a0 := at_gp hq0
    have aA := all_gp hq0
    simp only [gp] at hck h1 a0 aA a1 a2 a3 a4 a5 b2
    obtain ⟨y, hy, hyb⟩ := tup_out hB4.isB 0 t4 st
    refine ⟨y, ?_, ?_⟩
    · simp only [inner_eq, s19]
      simp [St.mt, gp, hck, hc, h1, h2, h3, h4, h5, a0, aA, a1, a2, a3, a4, a5, b2, k2, k3, k4, hy]
    · rw [encP, if_pos hc, ← hbod]; exact hyb
  · refine ⟨.v (.slice none 0 0), ?_, ?_⟩
    · simp only [gp] at hck
      simp only [inner_eq, s19]
      simp [St.mt, gp, opLoad, hck, hc, dropped, expR, expA]
    · rw [encP, if_neg hc]; exact .nil

/-- ref.EncodeMessage -/
theorem enc30 {p : Ms} (h : p.Fit) (hx : p.ns.length ≤ 1000000) (hb : p.bs.length ≤ 1000000) (st : St) : ∃ y, callL T 30 [.agg (gm p)] st = some (.ret (.tup [y, .v (.int .i64 (errM p))]), st) ∧ IsB y (encM p) := by
  obtain ⟨q, hq, e1, e2, e3, e4, e5, e6, e7, e8, hexp, hexp2⟩ := expL_gm h st
  rw [call_plain T30 rfl rfl (show expA st [.agg (gm p)] = some ([.agg (gm q)], st) by simp [expA, exp1, hexp])]
  have hbod : bodM q = bodM p := by simp only [bodM, e1, e2, e3, e4, e5, e6, e7, e8]
  have hchk : chkM q = chkM p := by simp only [chkM, e1, e2, e3, e4, e5, e6, e7]
  rw [← e7] at hx
  rw [← e8] at hb
  have hle := bodM_le hx hb
  have hbyt := bodM_byt hq
  have hck := fun s => check61 hq hx s
  rw [hchk] at hck
  by_cases hc : chkM p = 0
  · have l0 := (enc_length q.kind).2
    have l1 := (enc_length q.frm).2
    have l2 := (enc_length q.to).2
    have l3 := (enc_length q.num).2
    have l4 := (enc_length q.val).2
    have l5 := (enc_length q.epo).2
    have hq0 : ({ H := [{ cells := gm q, fz := false }], F := [] } : St).H = [{ cells := gm q, fz := false }] := rfl
    obtain ⟨x1, s1, h1, hA1, hH1⟩ := rInt (n := q.kind) (IsB.nil (q := none)) (by simp) { H := [{ cells := gm q, fz := false }], F := [] }
    have hq1 := hH1.trans hq0
    obtain ⟨x2, s2, h2, hA2, hH2⟩ := rInt (n := q.frm) hA1.isB (by simp only [List.nil_append, List.length_append, List.length_nil]; omega) s1
    have hq2 := hH2.trans hq1
    obtain ⟨x3, s3, h3, hA3, hH3⟩ := rInt (n := q.to) hA2.isB (by simp only [List.nil_append, List.length_append, List.length_nil]; omega) s2
    have hq3 := hH3.trans hq2
    obtain ⟨x4, s4, h4, hA4, hH4⟩ := rInt (n := q.num) hA3.isB (by simp only [List.nil_append, List.length_append, List.length_nil]; omega) s3
    have hq4 := hH4.trans hq3
    obtain ⟨x5, s5, h5, hA5, hH5⟩ := rInt (n := q.val) hA4.isB (by simp only [List.nil_append, List.length_append, List.length_nil]; omega) s4
    have hq5 := hH5.trans hq4
    obtain ⟨x6, s6, h6, hA6, hH6⟩ := rInt (n := q.epo) hA5.isB (by simp only [List.nil_append, List.length_append, List.length_nil]; omega) s5
    have hq6 := hH6.trans hq5
    have hAm : AB s6 x6 (encs [q.kind, q.frm, q.to, q.num, q.val, q.epo]) := by simpa [encs, List.append_assoc] using hA6
    have hl1 := encs_le [q.kind, q.frm, q.to, q.num, q.val, q.epo]
    simp only [List.length_cons, List.length_nil] at hl1
    obtain ⟨y2, t2, k2, hB2, hG2⟩ := rInts hAm.isB (by omega) hq.lst hx s6
    have hr2 := hG2.trans hq6
    have hl2 : (encs [q.kind, q.frm, q.to, q.num, q.val, q.epo] ++ (enc q.ns.length ++ encs q.ns)).length ≤ (bodM q).length := by unfold bodM; simp only [List.length_append]; omega
    obtain ⟨y3, t3, k3, hB3, hG3⟩ := rBytes hB2.isB (by omega) hq.bod (by omega) t2
    obtain ⟨y4, t4, k4, hB4, hG4⟩ := sealed21 (l := bodM q) hB3.isB hbyt (by omega) t3
    have a1 := at_gm hq1
    have a2 := at_gm hq2
    have a3 := at_gm hq3
    have a4 := at_gm hq4
    have a5 := at_gm hq5
    have a6 := at_gm hq6
    have b2 := at_gm hr2
    have a0 := at_gm hq0
    have aA := all_gm hq0
    simp only [gm] at hck h1 a0 aA a1 a2 a3 a4 a5 a6 b2
    have hk := hB4.isB.isL.len
    by_cases hlong : 65536 < (sealB (bodM q)).length
    · have hlong' : (65536 : Int) < (sealB (bodM q)).length := by omega
      have he : errM p = 5 := by rw [errM, if_pos hc, ← hbod, if_pos hlong]
      refine ⟨.v (.slice none 0 0), ?_, ?_⟩
      · rw [he]
        simp only [inner_eq, s30]
        simp [St.mt, gm, hck, hc, h1, h2, h3, h4, h5, h6, a0, aA, a1, a2, a3, a4, a5, a6, b2, k2, k3, k4, hk, hlong', dropped, expR, expA]
      · rw [encM, he]; exact .nil
    · have hlong' : ¬ (65536 : Int) < (sealB (bodM q)).length := by omega
      have he : errM p = 0 := by rw [errM, if_pos hc, ← hbod, if_neg hlong]
      obtain ⟨y, hy, hyb⟩ := tup_out hB4.isB 0 t4 st
      refine ⟨y, ?_, ?_⟩
      · rw [he]
        simp only [inner_eq, s30]
        simp [St.mt, gm, hck, hc, h1, h2, h3, h4, h5, h6, a0, aA, a1, a2, a3, a4, a5, a6, b2, k2, k3, k4, hk, hlong', hy]
      · rw [encM, if_pos he, ← hbod]; exact hyb
  · have he : errM p = chkM p := by rw [errM, if_neg hc]
    refine ⟨.v (.slice none 0 0), ?_, ?_⟩
    · simp only [gm] at hck
      rw [he]
      simp only [inner_eq, s30]
      simp [St.mt, gm, opLoad, hck, hc, dropped, expR, expA]
    · rw [encM, he, if_neg hc]; exact .nil

end VS
end Go.Proofs.Ytkhekmmldnjenaa
/- Bytes are opened: what stands in front of a right sum. -/
namespace Go.Proofs.Ytkhekmmldnjenaa
namespace VS

theorem cells_agg (cs : List AV) : AV.cells (.agg cs) = cs := rfl
theorem tup_agg (cs : List AV) : AV.isTup (.agg cs) = false := rfl
theorem byt_get {l : List Int} (h : Byt l) (i : Nat) (hi : i < l.length) : 0 ≤ l[i] ∧ l[i] < 256 := h l[i] (List.getElem_mem hi)

theorem eqLoop71 {a b : List Int} (t u : Tag) (hab : a.length = b.length) (hlen : a.length ≤ 1000000000) : ∀ (k i : Nat) (st : St), i + k = a.length →
    (a.drop i = b.drop i → ∃ fr', runL T (.loop [0, 1, 12, 13] s71b0) { s := [(0, .sl (bys a) a.length t), (1, .sl (bys b) b.length u), (12, .v (.int .i64 a.length)), (13, .v (.int .i64 i))], d := [] } st = some (.ex 0, fr', st) ∧ fr'.only [] = { s := [], d := [] }) ∧
    (a.drop i ≠ b.drop i → runL T (.loop [0, 1, 12, 13] s71b0) { s := [(0, .sl (bys a) a.length t), (1, .sl (bys b) b.length u), (12, .v (.int .i64 a.length)), (13, .v (.int .i64 i))], d := [] } st = some (.rt, { s := [(4, .v (.bool false))], d := [] }, st))
  | 0, i, st, hi => by
    have hd : a.drop i = [] := List.drop_eq_nil_of_le (by omega)
    have hd2 : b.drop i = [] := List.drop_eq_nil_of_le (by omega)
    refine ⟨fun _ => ⟨?s, ?a, ?b⟩, fun h => absurd (hd.trans hd2.symm) h⟩
    case a =>
      rw [runL_loop]
      have : ¬ (i : Int) < a.length := by omega
      simp [s71b0, this]
      rfl
    case b => simp
  | k + 1, i, st, hi => by
    have hlt : i < a.length := by omega
    have hlt2 : i < b.length := by omega
    have hd : a.drop i = a[i] :: a.drop (i + 1) := List.drop_eq_getElem_cons hlt
    have hd2 : b.drop i = b[i] :: b.drop (i + 1) := List.drop_eq_getElem_cons hlt2
    have h1 : (i : Int) < a.length := by omega
    have h2 : (i : Int) < b.length := by omega
    have hw : IntKind.wrap .i64 ((i : Int) + 1) = ((i + 1 : Nat) : Int) := by rw [wrap_i64 (by omega) (by omega)]; omega
    have ga := bys_get a i hlt
    have gb := bys_get b i hlt2
    rw [hd, hd2]
    by_cases he : a[i] = b[i]
    · obtain ⟨ok, er⟩ := eqLoop71 t u hab hlen k (i + 1) st (by omega)
      have step : runL T (.loop [0, 1, 12, 13] s71b0) { s := [(0, .sl (bys a) a.length t), (1, .sl (bys b) b.length u), (12, .v (.int .i64 a.length)), (13, .v (.int .i64 i))], d := [] } st = runL T (.loop [0, 1, 12, 13] s71b0) { s := [(0, .sl (bys a) a.length t), (1, .sl (bys b) b.length u), (12, .v (.int .i64 a.length)), (13, .v (.int .i64 (i + 1 : Nat)))], d := [] } st := by
        rw [runL_loop]
        generalize hL : SCode.loop [0, 1, 12, 13] s71b0 = L
        simp [s71b0, h1, h2, opLoad_ep, ga, gb, he, hw]
        subst hL
        refine loop_from ?_
        simp
      rw [step]
      refine ⟨fun h => ok (List.cons.inj h).2, fun h => er fun h2 => h (by rw [he, h2])⟩
    · refine ⟨fun h => absurd (List.cons.inj h).1 he, fun _ => ?_⟩
      rw [runL_loop]
      simp [s71b0, h1, h2, opLoad_ep, ga, gb, he]

/-- slices.Equal of bytes -/
theorem eq71 {x y : AV} {a b : List Int} (hx : IsB x a) (hy : IsB y b) (hlen : a.length ≤ 1000000000) (st : St) : callL T 71 [x, y] st = some (.ret (.v (.bool (decide (a = b)))), st) := by
  obtain ⟨x', hx1, hx2, _⟩ := hx.exps
  obtain ⟨y', hy1, hy2, _⟩ := hy.exps
  rw [call_plain T71 rfl rfl (show expA st [x, y] = some ([x', y'], st) by simp [expA, hx1, hy1])]
  have lx := hx2.isL.len
  have ly := hy2.isL.len
  by_cases hl : a.length = b.length
  · have hl' : (a.length : Int) = b.length := by omega
    rcases hx2.cases2 with ⟨t, rfl⟩ | ⟨rfl, q, rfl⟩
    · rcases hy2.cases2 with ⟨u, rfl⟩ | ⟨rfl, q, rfl⟩
      · obtain ⟨ok, er⟩ := eqLoop71 t u hl hlen a.length 0 .mt (by omega)
        rw [List.drop_zero, List.drop_zero] at ok er
        by_cases he : a = b
        · obtain ⟨fr', hr, hfr⟩ := ok he
          rw [decide_eq_true he]
          simp [inner_eq, s71, hl]
          rw [loop_use hr _ (by simp [hl])]
          simp [hfr, dropped, expR]
        · have hr := er he
          rw [decide_eq_false he]
          simp [inner_eq, s71, hl]
          rw [loop_use hr _ (by simp [hl])]
          simp [dropped, expR]
      · have : a = [] := List.eq_nil_of_length_eq_zero hl
        subst this
        simp [inner_eq, s71]
        rw [runL_loop]
        simp [s71b0, dropped, expR]
    · have : b = [] := List.eq_nil_of_length_eq_zero hl.symm
      subst this
      simp [inner_eq, s71, ly]
      rw [runL_loop]
      simp [s71b0, dropped, expR]
  · have hl' : ¬ (a.length : Int) = b.length := by omega
    have he : ¬ a = b := fun h => hl (by rw [h])
    rw [decide_eq_false he]
    simp [inner_eq, s71, lx, ly, hl', dropped, expR]

theorem eqLoop63 {a b : List Int} (t u : Tag) (hab : a.length = b.length) (hlen : a.length ≤ 1000000000) : ∀ (k i : Nat) (st : St), i + k = a.length →
    (a.drop i = b.drop i → ∃ fr', runL T (.loop [0, 1, 5] s63b0) { s := [(0, .sl (bys a) a.length t), (1, .sl (bys b) b.length u), (5, .v (.int .i64 i))], d := [] } st = some (.ex 0, fr', st) ∧ fr'.only [] = { s := [], d := [] }) ∧
    (a.drop i ≠ b.drop i → runL T (.loop [0, 1, 5] s63b0) { s := [(0, .sl (bys a) a.length t), (1, .sl (bys b) b.length u), (5, .v (.int .i64 i))], d := [] } st = some (.rt, { s := [(4, .v (.bool false))], d := [] }, st))
  | 0, i, st, hi => by
    have hd : a.drop i = [] := List.drop_eq_nil_of_le (by omega)
    have hd2 : b.drop i = [] := List.drop_eq_nil_of_le (by omega)
    refine ⟨fun _ => ⟨?s, ?a, ?b⟩, fun h => absurd (hd.trans hd2.symm) h⟩
    case a =>
      rw [runL_loop]
      have : ¬ (i : Int) < a.length := by omega
      simp [s63b0, this]
      rfl
    case b => simp
  | k + 1, i, st, hi => by
    have hlt : i < a.length := by omega
    have hlt2 : i < b.length := by omega
    have hd : a.drop i = a[i] :: a.drop (i + 1) := List.drop_eq_getElem_cons hlt
    have hd2 : b.drop i = b[i] :: b.drop (i + 1) := List.drop_eq_getElem_cons hlt2
    have h1 : (i : Int) < a.length := by omega
    have h2 : (i : Int) < b.length := by omega
    have hw : IntKind.wrap .i64 ((i : Int) + 1) = ((i + 1 : Nat) : Int) := by rw [wrap_i64 (by omega) (by omega)]; omega
    have ga := bys_get a i hlt
    have gb := bys_get b i hlt2
    rw [hd, hd2]
    by_cases he : a[i] = b[i]
    · obtain ⟨ok, er⟩ := eqLoop63 t u hab hlen k (i + 1) st (by omega)
      have step : runL T (.loop [0, 1, 5] s63b0) { s := [(0, .sl (bys a) a.length t), (1, .sl (bys b) b.length u), (5, .v (.int .i64 i))], d := [] } st = runL T (.loop [0, 1, 5] s63b0) { s := [(0, .sl (bys a) a.length t), (1, .sl (bys b) b.length u), (5, .v (.int .i64 (i + 1 : Nat)))], d := [] } st := by
        rw [runL_loop]
        generalize hL : SCode.loop [0, 1, 5] s63b0 = L
        simp [s63b0, h1, h2, opLoad_ep, ga, gb, he, hw]
        subst hL
        refine loop_from ?_
        simp
      rw [step]
      refine ⟨fun h => ok (List.cons.inj h).2, fun h => er fun h2 => h (by rw [he, h2])⟩
    · refine ⟨fun h => absurd (List.cons.inj h).1 he, fun _ => ?_⟩
      rw [runL_loop]
      simp [s63b0, h1, h2, opLoad_ep, ga, gb, he]

/-- ref.SameBytes -/
theorem eq63 {x y : AV} {a b : List Int} (hx : IsB x a) (hy : IsB y b) (hlen : a.length ≤ 1000000000) (st : St) : callL T 63 [x, y] st = some (.ret (.v (.bool (decide (a = b)))), st) := by
  obtain ⟨x', hx1, hx2, _⟩ := hx.exps
  obtain ⟨y', hy1, hy2, _⟩ := hy.exps
  rw [call_plain T63 rfl rfl (show expA st [x, y] = some ([x', y'], st) by simp [expA, hx1, hy1])]
  have lx := hx2.isL.len
  have ly := hy2.isL.len
  by_cases hl : a.length = b.length
  · have hl' : (a.length : Int) = b.length := by omega
    rcases hx2.cases2 with ⟨t, rfl⟩ | ⟨rfl, q, rfl⟩
    · rcases hy2.cases2 with ⟨u, rfl⟩ | ⟨rfl, q, rfl⟩
      · obtain ⟨ok, er⟩ := eqLoop63 t u hl hlen a.length 0 .mt (by omega)
        rw [List.drop_zero, List.drop_zero] at ok er
        by_cases he : a = b
        · obtain ⟨fr', hr, hfr⟩ := ok he
          rw [decide_eq_true he]
          simp [inner_eq, s63, hl]
          rw [loop_use hr _ (by simp [hl])]
          simp [hfr, dropped, expR]
        · have hr := er he
          rw [decide_eq_false he]
          simp [inner_eq, s63, hl]
          rw [loop_use hr _ (by simp [hl])]
          simp [dropped, expR]
      · have : a = [] := List.eq_nil_of_length_eq_zero hl
        subst this
        simp [inner_eq, s63]
        rw [runL_loop]
        simp [s63b0, dropped, expR]
    · have : b = [] := List.eq_nil_of_length_eq_zero hl.symm
      subst this
      simp [inner_eq, s63, ly]
      rw [runL_loop]
      simp [s63b0, dropped, expR]
  · have hl' : ¬ (a.length : Int) = b.length := by omega
    have he : ¬ a = b := fun h => hl (by rw [h])
    rw [decide_eq_false he]
    simp [inner_eq, s63, lx, ly, hl', dropped, expR]

/-- packet.demand -/
theorem demand52 (st : St) : callL T 52 [.v (.int .i64 0)] st = some (.ret (.tup []), st) := by
  rw [call_plain T52 rfl rfl rfl]
  simp [inner_eq, s52, dropped, expR, expA]
theorem demand52e {e : Int} (he : e ≠ 0) (st : St) : callL T 52 [.v (.int .i64 e)] st = some (.pan (.ifc 102 (.v (.int .i64 e))), st) := by
  rw [call_plain T52 rfl rfl rfl]
  simp [inner_eq, s52, he, dropped, expR]

/-- packet.caught -/
theorem caught46 (e : Int) (st : St) : callL T 46 [.ifc 102 (.v (.int .i64 e))] st = some (.ret (.v (.int .i64 e)), st) := by
  rw [call_whole T46 (.inl rfl) rfl]
  simp [inner_eq, s46]

/-- What stands in front of a right sum, or the error. -/
def openE (l : List Int) : Except Int (List Int) :=
  if 65536 < l.length then .error 5
  else if l.length < 4 then .error 10
  else if sealB (l.take (l.length - 4)) = l then .ok (l.take (l.length - 4))
  else .error 9

theorem Byt.tk {l : List Int} (h : Byt l) (n : Nat) : Byt (l.take n) := fun b hb => h b (List.mem_of_mem_take hb)

/-- packet.open -/
theorem open47 {x : AV} {l : List Int} (hx : IsB x l) (hb : Byt l) (hlen : l.length ≤ 1000000) (st : St) :
    (∀ b, openE l = .ok b → ∃ y F', callL T 47 [x] st = some (.ret (.ptr st.H.length 0), { H := st.H ++ [{ cells := [y, .v (.slice none 0 0)], fz := false }], F := F' }) ∧ IsB y b ∧ Byt b ∧ b.length ≤ 65536) ∧
    (∀ e, openE l = .error e → ∃ F', callL T 47 [x] st = some (.pan (.ifc 102 (.v (.int .i64 e))), { H := st.H, F := F' })) := by
  rw [call_whole T47 (.inl rfl) rfl]
  have hk := hx.isL.len
  have hw : IntKind.wrap .i64 ((l.length : Int) - 4) = l.length - 4 := wrap_i64 (by omega) (by omega)
  unfold openE
  by_cases c1 : 65536 < l.length
  · have c1' : (65536 : Int) < l.length := by omega
    rw [if_pos c1]
    refine ⟨fun b h => by simp at h, fun e h => ⟨st.F, ?_⟩⟩
    cases h
    have hd := demand52e (e := 5) (by omega) st
    simp [inner_eq, s47, hk, hw, c1', hd]
  rw [if_neg c1]
  have c1' : ¬ (65536 : Int) < l.length := by omega
  by_cases c2 : l.length < 4
  · have c2' : (l.length : Int) < 4 := by omega
    rw [if_pos c2]
    refine ⟨fun b h => by simp at h, fun e h => ⟨st.F, ?_⟩⟩
    cases h
    have hd := demand52e (e := 10) (by omega) st
    have c3 : (l.length : Int) - 4 < 0 := by omega
    simp [inner_eq, s47, hk, hw, c1', c3, hd]
  rw [if_neg c2]
  have c3 : ¬ (l.length : Int) - 4 < 0 := by omega
  have hn : ((l.length - 4 : Nat) : Int) = (l.length : Int) - 4 := by omega
  obtain ⟨y, hy, hyb⟩ := slice_to (k := .i64) hx (i := l.length - 4) (by omega)
  rw [hn] at hy
  obtain ⟨z, s1, h1, hA1, hH1⟩ := clone hyb.isL (by rw [List.length_take]; omega) st
  have hA1' : AB s1 z (l.take (l.length - 4)) := hA1
  obtain ⟨u, s2, h2, hA2, hH2⟩ := seal39 hA1' (hb.tk _) (by rw [List.length_take]; omega)
  have heq := eq71 hA2.isB hx (by rw [sealB_len, List.length_take]; omega) s2
  have hH : s2.H = st.H := hH2.trans hH1
  by_cases c4 : sealB (l.take (l.length - 4)) = l
  · rw [if_pos c4]
    rw [decide_eq_true c4] at heq
    refine ⟨fun b h => ?_, fun e h => by simp at h⟩
    cases h
    refine ⟨y, s2.F, ?_, hyb, hb.tk _, by rw [List.length_take]; omega⟩
    obtain ⟨o1, o2⟩ := hyb.one
    simp [inner_eq, s47, hk, hw, c1', c3, hy, h1, h2, heq, hH, -AV.cells, -AV.isTup, o1, o2, cells_agg, tup_agg]
  · rw [if_neg c4]
    rw [decide_eq_false c4] at heq
    refine ⟨fun b h => by simp at h, fun e h => ⟨s2.F, ?_⟩⟩
    cases h
    have hd := demand52e (e := 9) (by omega) s2
    have hs : s2 = { H := st.H, F := s2.F } := by rw [← hH]
    simp [inner_eq, s47, hk, hw, c1', c3, hy, h1, h2, heq, hd]
    exact hs

/-- ref.Opened -/
theorem opened53 {x : AV} {l : List Int} (hx : IsB x l) (hb : Byt l) (hlen : l.length ≤ 1000000) (st : St) :
    (∀ b, openE l = .ok b → ∃ y, callL T 53 [x] st = some (.ret (.tup [y, .v (.int .i64 0)]), st) ∧ IsB y b ∧ Byt b ∧ b.length ≤ 65536) ∧
    (∀ e, openE l = .error e → e ≠ 0 ∧ callL T 53 [x] st = some (.ret (.tup [.v (.slice none 0 0), .v (.int .i64 e)]), st)) := by
  obtain ⟨x', hx1, hx2, _⟩ := hx.exps
  rw [call_plain T53 rfl rfl (show expA st [x] = some ([x'], st) by simp [expA, hx1])]
  have hk := hx2.isL.len
  have hw : IntKind.wrap .i64 ((l.length : Int) - 4) = l.length - 4 := wrap_i64 (by omega) (by omega)
  unfold openE
  by_cases c1 : 65536 < l.length
  · have c1' : (65536 : Int) < l.length := by omega
    rw [if_pos c1]
    refine ⟨fun b h => by simp at h, fun e h => ?_⟩
    cases h
    refine ⟨by omega, ?_⟩
    simp [inner_eq, s53, hk, c1', dropped, expR, expA]
  rw [if_neg c1]
  have c1' : ¬ (65536 : Int) < l.length := by omega
  by_cases c2 : l.length < 4
  · have c2' : (l.length : Int) < 4 := by omega
    rw [if_pos c2]
    refine ⟨fun b h => by simp at h, fun e h => ?_⟩
    cases h
    refine ⟨by omega, ?_⟩
    simp [inner_eq, s53, hk, c1', c2', dropped, expR, expA]
  rw [if_neg c2]
  have c2' : ¬ (l.length : Int) < 4 := by omega
  have hn : ((l.length - 4 : Nat) : Int) = (l.length : Int) - 4 := by omega
  obtain ⟨y, hy, hyb⟩ := slice_to (k := .i64) hx2 (i := l.length - 4) (by omega)
  rw [hn] at hy
  obtain ⟨u, s2, h2, hA2, hH2⟩ := sealed21 hyb (hb.tk _) (by rw [List.length_take]; omega) .mt
  have heq := eq63 hA2.isB hx2 (by rw [sealB_len, List.length_take]; omega) s2
  by_cases c4 : sealB (l.take (l.length - 4)) = l
  · rw [if_pos c4]
    rw [decide_eq_true c4] at heq
    refine ⟨fun b h => ?_, fun e h => by simp at h⟩
    cases h
    obtain ⟨v, hv, hvb⟩ := tup_out hyb 0 s2 st
    refine ⟨v, ?_, hvb, hb.tk _, by rw [List.length_take]; omega⟩
    simp [inner_eq, s53, hk, hw, c1', c2', hy, h2, heq, hv]
  · rw [if_neg c4]
    rw [decide_eq_false c4] at heq
    refine ⟨fun b h => by simp at h, fun e h => ?_⟩
    cases h
    refine ⟨by omega, ?_⟩
    simp [inner_eq, s53, hk, hw, c1', c2', hy, h2, heq, dropped, expR, expA]

end VS
end Go.Proofs.Ytkhekmmldnjenaa
/- The fields of a value, read one by one. -/
namespace Go.Proofs.Ytkhekmmldnjenaa
namespace VS

theorem IsL.one1 {sz : Nat} {x : AV} {cs : List AV} {n : Nat} (h : IsL sz x cs n) : x.isTup = false ∧ x.cells = [x] := by
  cases h <;> simp

theorem load1 {st : St} {a : Nat} {cs : List AV} {f : Bool} (h : st.H[a]? = some { cells := cs, fz := f }) (o : Nat) : opLoad st none (.ptr a o) = cs[o]? := by
  simp [opLoad, h, partOf]
theorem store1 {st : St} {a k : Nat} {cs : List AV} {v : AV} (h : st.H[a]? = some { cells := cs, fz := false }) (hk : k < cs.length) (hv : v.isTup = false ∧ v.cells = [v]) : opStore st 1 (.ptr a k) v = some { H := st.H.set a { cells := cs.set k v, fz := false }, F := st.F } := by
  have e : putAt cs k [v] = cs.set k v := by
    rw [List.set_eq_take_append_cons_drop, if_pos hk]
    simp [putAt]
  have hk' : k + 1 ≤ cs.length := hk
  unfold opStore
  simp only [h, hv.1, hv.2, e]
  simp [hk']

/-- a number -/
theorem rd72 {st : St} {a b j k : Nat} {x fl : AV} {pc : List AV} {l : List Int} (ha : st.H[a]? = some { cells := [.ptr j 0], fz := false }) (hb : st.H[b]? = some { cells := [.ptr 0 k], fz := false }) (hj : st.H[j]? = some { cells := [x, fl], fz := false }) (h0 : st.H[0]? = some { cells := pc, fz := false })
    (hk : k < pc.length) (hj0 : j ≠ 0) (ha0 : a ≠ 0) (haj : a ≠ j) (hb0 : b ≠ 0) (hbj : b ≠ j) (hx : IsB x l) (hl : Byt l) (hlen : l.length ≤ 1000000) :
    (∀ n r, num l = .ok (n, r) → ∃ v y, fInt n v ∧ IsB y r ∧ Byt r ∧ r.length ≤ l.length ∧ callL T 72 [.ptr a 0, .ptr b 0] st = some (.ret (.tup []), { H := (st.H.set 0 { cells := pc.set k v, fz := false }).set j { cells := [y, fl], fz := false }, F := st.F })) ∧
    (∀ e, num l = .error e → callL T 72 [.ptr a 0, .ptr b 0] st = some (.pan (.ifc 102 (.v (.int .i64 e))), st)) := by
  have l1 := load1 ha 0
  have l2 := load1 hj 0
  have l3 := load1 hb 0
  obtain ⟨ok, er⟩ := pub28 hx hl (by omega) st
  have n1 : ¬ 0 = b := fun h => hb0 h.symm
  have n2 : ¬ 0 = a := fun h => ha0 h.symm
  have n3 : ¬ j = b := fun h => hbj h.symm
  have n4 : ¬ j = a := fun h => haj h.symm
  refine ⟨fun n r h => ?_, fun e h => ?_⟩
  · obtain ⟨v, y, hc, hy, hyb, hyl, hf⟩ := ok n r h
    refine ⟨v, y, hf, hy, hyb, hyl, ?_⟩
    have hv : v.isTup = false ∧ v.cells = [v] := by cases hf; exact ⟨rfl, rfl⟩
    have s1 := store1 h0 hk hv
    have hj' : ({ H := st.H.set 0 { cells := pc.set k v, fz := false }, F := st.F } : St).H[j]? = some { cells := [x, fl], fz := false } := by
      show (st.H.set 0 _)[j]? = _
      rw [List.getElem?_set_ne (fun h => hj0 h.symm)]; exact hj
    have s2 := store1 hj' (k := 0) (v := y) (by simp) hy.one
    rw [call_whole T72 (.inl rfl) rfl]
    simp [inner_eq, s72, l1, l2, l3, hc, demand52, s1, s2, freeR, touched, stepS, touch, freeOk, hb0, hbj, ha0, haj]
  · obtain ⟨he, hc⟩ := er e h
    have hd := demand52e he st
    rw [call_whole T72 (.inl rfl) rfl]
    simp [inner_eq, s72, l1, l2, hc, hd]

/-- extents -/
theorem rd74 {st : St} {a b j k : Nat} {x fl : AV} {pc : List AV} {l : List Int} (ha : st.H[a]? = some { cells := [.ptr j 0], fz := false }) (hb : st.H[b]? = some { cells := [.ptr 0 k], fz := false }) (hj : st.H[j]? = some { cells := [x, fl], fz := false }) (h0 : st.H[0]? = some { cells := pc, fz := false })
    (hk : k < pc.length) (hj0 : j ≠ 0) (ha0 : a ≠ 0) (haj : a ≠ j) (hb0 : b ≠ 0) (hbj : b ≠ j) (hx : IsB x l) (hl : Byt l) (hlen : l.length ≤ 1000000) :
    (∀ n r, lists pairR l = .ok (n, r) → ∃ v y, fExts n v ∧ IsB y r ∧ Byt r ∧ r.length ≤ l.length ∧ callL T 74 [.ptr a 0, .ptr b 0] st = some (.ret (.tup []), { H := (st.H.set 0 { cells := pc.set k v, fz := false }).set j { cells := [y, fl], fz := false }, F := st.F })) ∧
    (∀ e, lists pairR l = .error e → callL T 74 [.ptr a 0, .ptr b 0] st = some (.pan (.ifc 102 (.v (.int .i64 e))), st)) := by
  have l1 := load1 ha 0
  have l2 := load1 hj 0
  have l3 := load1 hb 0
  obtain ⟨ok, er⟩ := pub34 hx hl (by omega) st
  have n1 : ¬ 0 = b := fun h => hb0 h.symm
  have n2 : ¬ 0 = a := fun h => ha0 h.symm
  have n3 : ¬ j = b := fun h => hbj h.symm
  have n4 : ¬ j = a := fun h => haj h.symm
  refine ⟨fun n r h => ?_, fun e h => ?_⟩
  · obtain ⟨v, y, hc, hy, hyb, hyl, hf⟩ := ok n r h
    refine ⟨v, y, hf, hy, hyb, hyl, ?_⟩
    have hv : v.isTup = false ∧ v.cells = [v] := IsL.one1 hf
    have s1 := store1 h0 hk hv
    have hj' : ({ H := st.H.set 0 { cells := pc.set k v, fz := false }, F := st.F } : St).H[j]? = some { cells := [x, fl], fz := false } := by
      show (st.H.set 0 _)[j]? = _
      rw [List.getElem?_set_ne (fun h => hj0 h.symm)]; exact hj
    have s2 := store1 hj' (k := 0) (v := y) (by simp) hy.one
    rw [call_whole T74 (.inl rfl) rfl]
    simp [inner_eq, s74, l1, l2, l3, hc, demand52, s1, s2, freeR, touched, stepS, touch, freeOk, hb0, hbj, ha0, haj]
  · obtain ⟨he, hc⟩ := er e h
    have hd := demand52e he st
    rw [call_whole T74 (.inl rfl) rfl]
    simp [inner_eq, s74, l1, l2, hc, hd]

/-- bytes -/
theorem rd76 {st : St} {a b j k : Nat} {x fl : AV} {pc : List AV} {l : List Int} (ha : st.H[a]? = some { cells := [.ptr j 0], fz := false }) (hb : st.H[b]? = some { cells := [.ptr 0 k], fz := false }) (hj : st.H[j]? = some { cells := [x, fl], fz := false }) (h0 : st.H[0]? = some { cells := pc, fz := false })
    (hk : k < pc.length) (hj0 : j ≠ 0) (ha0 : a ≠ 0) (haj : a ≠ j) (hb0 : b ≠ 0) (hbj : b ≠ j) (hx : IsB x l) (hl : Byt l) (hlen : l.length ≤ 1000000) :
    (∀ n r, textR l = .ok (n, r) → ∃ v y, fBytes n v ∧ IsB y r ∧ Byt r ∧ r.length ≤ l.length ∧ callL T 76 [.ptr a 0, .ptr b 0] st = some (.ret (.tup []), { H := (st.H.set 0 { cells := pc.set k v, fz := false }).set j { cells := [y, fl], fz := false }, F := st.F })) ∧
    (∀ e, textR l = .error e → callL T 76 [.ptr a 0, .ptr b 0] st = some (.pan (.ifc 102 (.v (.int .i64 e))), st)) := by
  have l1 := load1 ha 0
  have l2 := load1 hj 0
  have l3 := load1 hb 0
  obtain ⟨ok, er⟩ := pub33 hx hl (by omega) st
  have n1 : ¬ 0 = b := fun h => hb0 h.symm
  have n2 : ¬ 0 = a := fun h => ha0 h.symm
  have n3 : ¬ j = b := fun h => hbj h.symm
  have n4 : ¬ j = a := fun h => haj h.symm
  refine ⟨fun n r h => ?_, fun e h => ?_⟩
  · obtain ⟨v, y, hc, hy, hyb, hyl, hf⟩ := ok n r h
    refine ⟨v, y, hf, hy, hyb, hyl, ?_⟩
    have hv : v.isTup = false ∧ v.cells = [v] := hf.1.one
    have s1 := store1 h0 hk hv
    have hj' : ({ H := st.H.set 0 { cells := pc.set k v, fz := false }, F := st.F } : St).H[j]? = some { cells := [x, fl], fz := false } := by
      show (st.H.set 0 _)[j]? = _
      rw [List.getElem?_set_ne (fun h => hj0 h.symm)]; exact hj
    have s2 := store1 hj' (k := 0) (v := y) (by simp) hy.one
    rw [call_whole T76 (.inl rfl) rfl]
    simp [inner_eq, s76, l1, l2, l3, hc, demand52, s1, s2, freeR, touched, stepS, touch, freeOk, hb0, hbj, ha0, haj]
  · obtain ⟨he, hc⟩ := er e h
    have hd := demand52e he st
    rw [call_whole T76 (.inl rfl) rfl]
    simp [inner_eq, s76, l1, l2, hc, hd]

/-- numbers -/
theorem rd81 {st : St} {a b j k : Nat} {x fl : AV} {pc : List AV} {l : List Int} (ha : st.H[a]? = some { cells := [.ptr j 0], fz := false }) (hb : st.H[b]? = some { cells := [.ptr 0 k], fz := false }) (hj : st.H[j]? = some { cells := [x, fl], fz := false }) (h0 : st.H[0]? = some { cells := pc, fz := false })
    (hk : k < pc.length) (hj0 : j ≠ 0) (ha0 : a ≠ 0) (haj : a ≠ j) (hb0 : b ≠ 0) (hbj : b ≠ j) (hx : IsB x l) (hl : Byt l) (hlen : l.length ≤ 1000000) :
    (∀ n r, lists num l = .ok (n, r) → ∃ v y, fInts n v ∧ IsB y r ∧ Byt r ∧ r.length ≤ l.length ∧ callL T 81 [.ptr a 0, .ptr b 0] st = some (.ret (.tup []), { H := (st.H.set 0 { cells := pc.set k v, fz := false }).set j { cells := [y, fl], fz := false }, F := st.F })) ∧
    (∀ e, lists num l = .error e → callL T 81 [.ptr a 0, .ptr b 0] st = some (.pan (.ifc 102 (.v (.int .i64 e))), st)) := by
  have l1 := load1 ha 0
  have l2 := load1 hj 0
  have l3 := load1 hb 0
  obtain ⟨ok, er⟩ := pub31 hx hl (by omega) st
  have n1 : ¬ 0 = b := fun h => hb0 h.symm
  have n2 : ¬ 0 = a := fun h => ha0 h.symm
  have n3 : ¬ j = b := fun h => hbj h.symm
  have n4 : ¬ j = a := fun h => haj h.symm
  refine ⟨fun n r h => ?_, fun e h => ?_⟩
  · obtain ⟨v, y, hc, hy, hyb, hyl, hf⟩ := ok n r h
    refine ⟨v, y, hf, hy, hyb, hyl, ?_⟩
    have hv : v.isTup = false ∧ v.cells = [v] := IsL.one1 hf
    have s1 := store1 h0 hk hv
    have hj' : ({ H := st.H.set 0 { cells := pc.set k v, fz := false }, F := st.F } : St).H[j]? = some { cells := [x, fl], fz := false } := by
      show (st.H.set 0 _)[j]? = _
      rw [List.getElem?_set_ne (fun h => hj0 h.symm)]; exact hj
    have s2 := store1 hj' (k := 0) (v := y) (by simp) hy.one
    rw [call_whole T81 (.inl rfl) rfl]
    simp [inner_eq, s81, l1, l2, l3, hc, demand52, s1, s2, freeR, touched, stepS, touch, freeOk, hb0, hbj, ha0, haj]
  · obtain ⟨he, hc⟩ := er e h
    have hd := demand52e he st
    rw [call_whole T81 (.inl rfl) rfl]
    simp [inner_eq, s81, l1, l2, hc, hd]

theorem mk48 (x y : AV) (hx : x.isTup = false ∧ x.cells = [x]) (hy : y.isTup = false ∧ y.cells = [y]) (st : St) : callL T 48 [x, y] st = some (.ret (.fn 72 [.ptr st.H.length 0, .ptr (st.H.length + 1) 0]), { H := st.H ++ [{ cells := [x], fz := false }, { cells := [y], fz := false }], F := st.F }) := by
  rw [call_whole T48 (.inl rfl) rfl]
  simp [inner_eq, s48, hx.1, hx.2, hy.1, hy.2, -AV.cells, -AV.isTup]

theorem mk49 (x y : AV) (hx : x.isTup = false ∧ x.cells = [x]) (hy : y.isTup = false ∧ y.cells = [y]) (st : St) : callL T 49 [x, y] st = some (.ret (.fn 74 [.ptr st.H.length 0, .ptr (st.H.length + 1) 0]), { H := st.H ++ [{ cells := [x], fz := false }, { cells := [y], fz := false }], F := st.F }) := by
  rw [call_whole T49 (.inl rfl) rfl]
  simp [inner_eq, s49, hx.1, hx.2, hy.1, hy.2, -AV.cells, -AV.isTup]

theorem mk50 (x y : AV) (hx : x.isTup = false ∧ x.cells = [x]) (hy : y.isTup = false ∧ y.cells = [y]) (st : St) : callL T 50 [x, y] st = some (.ret (.fn 76 [.ptr st.H.length 0, .ptr (st.H.length + 1) 0]), { H := st.H ++ [{ cells := [x], fz := false }, { cells := [y], fz := false }], F := st.F }) := by
  rw [call_whole T50 (.inl rfl) rfl]
  simp [inner_eq, s50, hx.1, hx.2, hy.1, hy.2, -AV.cells, -AV.isTup]

theorem mk58 (x y : AV) (hx : x.isTup = false ∧ x.cells = [x]) (hy : y.isTup = false ∧ y.cells = [y]) (st : St) : callL T 58 [x, y] st = some (.ret (.fn 81 [.ptr st.H.length 0, .ptr (st.H.length + 1) 0]), { H := st.H ++ [{ cells := [x], fz := false }, { cells := [y], fz := false }], F := st.F }) := by
  rw [call_whole T58 (.inl rfl) rfl]
  simp [inner_eq, s58, hx.1, hx.2, hy.1, hy.2, -AV.cells, -AV.isTup]

end VS
end Go.Proofs.Ytkhekmmldnjenaa
