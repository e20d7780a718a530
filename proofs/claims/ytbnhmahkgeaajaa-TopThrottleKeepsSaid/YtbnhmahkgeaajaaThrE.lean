/- caseRun: what it computes. -/
import Derived.Test.YtbnhmahkgeaajaaThrL
namespace Go.Proofs.Ytbnhmahkgeaajaa
namespace VS

def ints (l : List Int) : List AV := l.map fun x => .v (.int .i64 x)
theorem ints_len (l : List Int) : (ints l).length = l.length := by simp [ints]

theorem app_tail {st : St} {x : AV} {s : Int} {w : List Int} (h : App st 1 x (ints (s :: w)) (w.length + 1)) :
    ∃ tg, x = .sl (ints (s :: w)) (w.length + 1) tg ∧ App st 1 (.sl (ints w) w.length tg) (ints w) w.length ∧ tagCut tg true = tg := by
  cases h with
  | full h => exact ⟨_, rfl, .full (by simp [ints]), rfl⟩
  | own h h2 => exact ⟨_, rfl, .own (by simp [ints]) h2, rfl⟩

theorem App.F {H H' : List HB} {F : List (Nat × Nat)} {sz : Nat} {x : AV} {cs : List AV} {n : Nat} (h : App { H := H, F := F } sz x cs n) : App { H := H', F := F } sz x cs n := by
  cases h with
  | nil => exact .nil
  | full h => exact .full h
  | own h h2 => exact .own h h2

theorem waitLoop6 {o r now : Int} (n0 : 0 ≤ now) (n2 : now ≤ 4000) (X : AV) (old conf bound : Int) : ∀ (w : List Int) (t b : Int) (l : List (Int × Int)) (free : Bool) (x M : AV) (J : List HB) (F : List (Nat × Nat)),
    WOk o r now w t b l → MR M l → App { H := [], F := F } 1 x (ints w) w.length →
    ∃ fr' x' M' J', runL T (.loop [0, 2, 9, 11, 12, 13, 14, 15, 31, 32] s6b0) { s := [(0, X), (2, .v (.int .i64 r)), (9, .ptr 0 0), (11, x), (12, .v (.int .i64 old)), (13, .v (.bool free)), (14, .v (.int .i64 conf)), (15, .v (.int .i64 now)), (31, .v (.int .i64 bound)), (32, .v (.int .i64 now))], d := [] } { H := { cells := th o r t b M, fz := false } :: J, F := F } =
        some (.ex 2, fr', { H := { cells := th o r (loopW o r now w t b l free).2.1 (loopW o r now w t b l free).2.2.1 M', fz := false } :: J', F := F }) ∧
      fr'.only [0, 2, 9, 11, 12, 13, 14, 15, 31, 32] = { s := [(0, X), (2, .v (.int .i64 r)), (9, .ptr 0 0), (11, x'), (12, .v (.int .i64 old)), (13, .v (.bool (loopW o r now w t b l free).2.2.2.2)), (14, .v (.int .i64 conf)), (15, .v (.int .i64 now)), (31, .v (.int .i64 bound)), (32, .v (.int .i64 now))], d := [] } ∧
      MR M' (loopW o r now w t b l free).2.2.2.1 ∧ App { H := [], F := F } 1 x' (ints (loopW o r now w t b l free).1) (loopW o r now w t b l free).1.length
  | [], t, b, l, free, x, M, J, F, h, hM, hx => by
    have hlen : ∀ st, lenK (some x) st = some (.ret (.v (.int .i64 0)), st) := fun st => by
      cases hx <;> simp
    refine ⟨?s, x, M, J, ?a, ?b, hM, hx⟩
    case a =>
      rw [runL_loop]
      simp [s6b0, hlen, loopW]
      rfl
    case b => simp [loopW]
  | s :: w, t, b, l, free, x, M, J, F, h, hM, hx => by
    have hs := h.el s (by simp)
    obtain ⟨tg, rfl, hx2, htg⟩ := app_tail (by simpa using hx)
    have hw := h.sum
    rw [List.sum_cons] at hw
    have hw0 := sum_nonneg (w := w) fun y hy => h.el y (by simp [hy])
    have e0 : (ints (s :: w)).length = w.length + 1 := by simp [ints]
    have e1 : (ints (s :: w))[0]? = some (.v (.int .i64 s)) := by simp [ints]
    have e2 : (ints (s :: w)).tail.take w.length = ints w := by
      show (ints w).take w.length = ints w
      exact List.take_of_length_le (by rw [ints_len]; omega)
    have e3 : ∀ h, (ints (s :: w))[0]'h = .v (.int .i64 s) := fun h => rfl
    have hpos : (0 : Int) < (w.length : Int) + 1 := by omega
    have hle : (1 : Int) ≤ (w.length : Int) + 1 := by omega
    rw [loopW]
    generalize hI : ints (s :: w) = I at *
    by_cases c1 : r * o < s
    · rw [if_pos c1]
      have hcall := write13_bound hM h.ok h.tn (by omega) hs.1 (by omega) c1
      obtain ⟨fr', x', M', J', i1, i2, i3, i4⟩ := waitLoop6 n0 n2 X old conf bound w t b l false (.sl (ints w) w.length tg) M (J ++ [{ cells := thZ, fz := false }]) F h.tail hM hx2
      refine ⟨fr', x', M', J', ?_, i2, i3, i4⟩
      rw [← i1, runL_loop]
      generalize hL : SCode.loop [0, 2, 9, 11, 12, 13, 14, 15, 31, 32] s6b0 = L
      unfold th thZ at *
      simp [s6b0, hpos, opLoad, opStore, opLoad_ep, hcall, e1, e3, e2, opSlice, e0, htg, hle]
    · rw [if_neg c1]
      by_cases c2 : r * o < b + s
      · rw [if_pos c2]
        obtain ⟨M', hcall, hM'⟩ := write13_wait hM h.ok h.tn (by omega) hs.1 (by omega) (by omega) c2 { H := { cells := th o r t b M, fz := false } :: J, F := F }
        have hr1 := h.ok.r1
        have hd : 0 < (b + s - r * o + r - 1).tdiv r := by
          rw [Int.tdiv_eq_ediv_of_nonneg (by omega)]
          have := Int.le_ediv_of_mul_le (a := 1) (b := b + s - r * o + r - 1) (c := r) (by omega) (by omega)
          omega
        have hd2 : ¬ (b + s - r * o + r - 1).tdiv r < 0 := by omega
        refine ⟨?s2, .sl I (w.length + 1) tg, M', J ++ [{ cells := th o r now b M', fz := false }], ?a2, ?b2, hM', by rw [show (s :: w, now, b, l, false).1 = s :: w from rfl, hI]; exact hx⟩
        case a2 =>
          rw [runL_loop]
          unfold th at *
          simp [s6b0, hpos, opLoad, opStore, opLoad_ep, hcall, e1, e3, e0, hd, hd2]
          rfl
        case b2 => simp
      · rw [if_neg c2]
        have hadm := h.adm n2 (by omega)
        obtain ⟨M', hcall, hM'⟩ := write13_ok hM h.ok h.tn (by omega) hs.1 (by omega) (by omega) (by omega) (by omega) hadm.ok.len { H := { cells := th o r t b M, fz := false } :: J, F := F }
        obtain ⟨fr', x', M2, J', i1, i2, i3, i4⟩ := waitLoop6 n0 n2 X old conf bound w now (b + s) _ free (.sl (ints w) w.length tg) M' (J ++ [{ cells := th o r now (b + s) M', fz := false }]) F hadm hM' hx2
        refine ⟨fr', x', M2, J', ?_, i2, i3, i4⟩
        rw [← i1, runL_loop]
        generalize hL : SCode.loop [0, 2, 9, 11, 12, 13, 14, 15, 31, 32] s6b0 = L
        unfold th at *
        simp [s6b0, hpos, opLoad, opStore, opLoad_ep, hcall, e1, e3, e2, opSlice, e0, htg, hle]
        subst hL
        refine loop_from ?_
        simp

theorem MR.age {M : AV} {l : List (Int × Int)} (hM : MR M l) {o r t b now : Int} (h : Ok o r t b l) (n1 : 0 ≤ now) (n2 : now ≤ 4000) (st : St) : callL T 11 [.agg (th o r t b M), .v (.int .i64 now)] st = some (.ret (.v (.int .i64 (ageS now b l))), st) := by
  have ht := h.t2
  exact age11 hM h n1 (by omega) fun m hm => by
    have := asc_mem h.asc m hm
    have h1 : (-1 : Int) < m.1 := this.1
    omega

theorem ints_drop1 {w : List Int} {s : Int} : ints (w ++ [s]) = ints w ++ [.v (.int .i64 s)] := by simp [ints]

theorem IsL.len {sz : Nat} {X : AV} {cs : List AV} {n : Nat} (h : IsL sz X cs n) (st : St) : lenK (some X) st = some (.ret (.v (.int .i64 n)), st) := by
  cases h <;> simp

theorem IsL.form {sz : Nat} {X : AV} {cs : List AV} {n : Nat} (h : IsL sz X cs n) (hn : 0 < n) : ∃ t, X = .sl cs n t ∧ t ≠ .ptrs := by
  cases h with
  | nil => omega
  | sl h1 h2 => exact ⟨_, rfl, h1⟩

theorem sum_nonneg0 {w : List Int} (h : ∀ x ∈ w, 0 ≤ x ∧ x ≤ 60) : 0 ≤ w.sum := by
  induction w with
  | nil => simp
  | cons x r ih =>
    have := h x (by simp)
    have := ih fun y hy => h y (by simp [hy])
    rw [List.sum_cons]; omega

theorem sum_len {w : List Int} (h : ∀ x ∈ w, 1 ≤ x ∧ x ≤ 60) : (w.length : Int) ≤ w.sum := by
  induction w with
  | nil => simp
  | cons x r ih =>
    have := h x (by simp)
    have := ih fun y hy => h y (by simp [hy])
    rw [List.sum_cons, List.length_cons]; omega

theorem tickLoop6 {o r : Int} {ws : List Int} {X : AV} (hX : IsL 1 X (ints ws) ws.length) (hws : ∀ x ∈ ws, 0 ≤ x ∧ x ≤ 60) (hlen : ws.length ≤ 40) (N : Nat) (hN : N ≤ 3999) : ∀ (k n : Nat) (S : Sm) (x M : AV) (J : List HB) (F : List (Nat × Nat)),
    n + k = N → JOk o r ws n S → MR M S.l → App { H := [], F := F } 1 x (ints S.w) S.w.length →
    ∃ fr' st', runL T (.loop [0, 2, 9, 11, 12, 13, 14, 31, 32] s6b1) { s := [(0, X), (2, .v (.int .i64 r)), (9, .ptr 0 0), (11, x), (12, .v (.int .i64 S.old)), (13, .v (.bool S.free)), (14, .v (.int .i64 S.conf)), (31, .v (.int .i64 N)), (32, .v (.int .i64 n))], d := [] } { H := { cells := th o r S.t S.b M, fz := false } :: J, F := F } = some (.ex 0, fr', st') ∧
      fr'.only [12, 13] = { s := [(12, .v (.int .i64 (runS o r ws k n S).old)), (13, .v (.bool (runS o r ws k n S).free))], d := [] }
  | 0, n, S, x, M, J, F, hn, h, hM, hx => by
    refine ⟨?s, { H := { cells := th o r S.t S.b M, fz := false } :: J, F := F }, ?a, ?b⟩
    case a =>
      rw [runL_loop]
      have : ¬ (n : Int) < N := by omega
      simp [s6b1, this]
      rfl
    case b => simp [runS]
  | k + 1, n, S, x, M, J, F, hn, h, hM, hx => by
    have hnN : (n : Int) < N := by omega
    have hnN' : n < N := by omega
    have hok := h.ok
    have hb1 := hok.b1
    have hb2 := hok.b2
    have hr1 := hok.r1
    have hr2 := hok.r2
    have hlast := hok.last
    have hsum := h.sum
    obtain ⟨hw, hlc⟩ := h.mid hws (by omega)
    have hd0 : 0 ≤ S.done r ∧ S.done r ≤ S.b := by unfold Sm.done; split <;> omega
    have hconf : S.conf = lastT S.l - S.b := rfl
    have hback := fun st => backlog10 (st := st) hM hok
    have hage := hM.age hok (now := n) (by omega) (by omega)
    obtain ⟨M1, hprog, hM1⟩ := progress12 hM hok (now := n) (tot := S.conf + S.done r) h.tn (by omega) (by omega) (by omega) { H := { cells := th o r S.t S.b M, fz := false } :: J, F := F }
    have hwc : IntKind.wrap .i64 (S.conf + S.done r) = S.conf + S.done r := wrap_i64 (by omega) (by omega)
    have hwn : IntKind.wrap .i64 ((n : Int) + 1) = ((n + 1 : Nat) : Int) := by rw [wrap_i64 (by omega) (by omega)]; omega
    have hmin : (if S.b < r then S.b else r) = S.done r := rfl
    have hmax : ∀ a : Int, (if S.old < a then a else S.old) = max S.old a := fun a => by omega
    have hmax2 : ∀ m a : Int, (if m < a then a else m) = max m a := fun m a => by omega
    have hlenX := fun st => hX.len st
    have hSw : (S.w.length : Int) ≤ 2400 := by
      have := sum_len h.el
      have := sum_nonneg0 (w := ws.drop n) fun y hy => hws y (List.mem_of_mem_drop hy)
      omega
    by_cases c0 : n < ws.length
    · have hx0 : 0 ≤ ws[n] ∧ ws[n] ≤ 60 := hws ws[n] (List.getElem_mem c0)
      obtain ⟨tg, rfl, _⟩ := hX.form (by omega)
      have hg : (ints ws)[n]? = some (.v (.int .i64 ws[n])) := by simp [ints, c0]
      have hg2 : ∀ h, (ints ws)[n]'h = .v (.int .i64 ws[n]) := fun h => by simp [ints]
      have hil := ints_len ws
      by_cases c1 : 0 < ws[n]
      · have haw : addW ws n S.w = S.w ++ [ws[n]] := by unfold addW; rw [List.getElem?_eq_getElem c0]; simp only; rw [if_pos c1]
        obtain ⟨z, ⟨H1, F1⟩, happ, hz, hH1⟩ := app_append (st := { H := { cells := th o r n (lastT S.l - (S.conf + S.done r)) M1, fz := false } :: J, F := F }) (bytes := 8) (ds := [.v (.int .i64 ws[n])]) (m := 1) (App.F hx) (.sl (t := .full) (by simp) (by simp)) (by omega) (by unfold most47; omega) (by omega)
        simp only at hH1
        subst hH1
        have hz' : App { H := [], F := F1 } 1 z (ints (addW ws n S.w)) (addW ws n S.w).length := by
          rw [haw, ints_drop1, List.length_append]
          exact App.F hz
        obtain ⟨fr', x2, M2, J2, i1, i2, i3, i4⟩ := waitLoop6 (o := o) (r := r) (now := n) (by omega) (by omega) (.sl (ints ws) ws.length tg) (max S.old (ageS n S.b S.l)) (S.conf + S.done r) N (addW ws n S.w) n (lastT S.l - (S.conf + S.done r)) (cutP (S.conf + S.done r) S.l) S.free z M1 J F1 hw hM1 hz'
        obtain ⟨q1, q2, _⟩ := loopW_ok (by omega) _ _ _ _ S.free hw
        have hage2 := i3.age q1.ok (now := n) (by omega) (by omega)
        obtain ⟨fr2, st2, j1, j2⟩ := tickLoop6 hX hws hlen N hN k (n + 1) (tickS o r ws n S) x2 M2 J2 F1 (by omega) (h.next hws (by omega)) i3 i4
        have hc2 : (tickS o r ws n S).conf = S.conf + S.done r := by
          show lastT _ - _ = _
          rw [show lastT (tickS o r ws n S).l - (tickS o r ws n S).b = lastT (loopW o r n (addW ws n S.w) n (lastT S.l - (S.conf + S.done r)) (cutP (S.conf + S.done r) S.l) S.free).2.2.2.1 - (loopW o r n (addW ws n S.w) n (lastT S.l - (S.conf + S.done r)) (cutP (S.conf + S.done r) S.l) S.free).2.2.1 from rfl, q2, hlc]
          omega
        have ho2 : (tickS o r ws n S).old = max (max S.old (ageS n S.b S.l)) (ageS n (tickS o r ws n S).b (tickS o r ws n S).l) := rfl
        have hrun : runS o r ws (k + 1) n S = runS o r ws k (n + 1) (tickS o r ws n S) := rfl
        rw [hrun]
        refine ⟨fr2, st2, ?_, j2⟩
        rw [← j1, hc2, ho2, runL_loop]
        have et : (tickS o r ws n S).t = (loopW o r n (addW ws n S.w) n (lastT S.l - (S.conf + S.done r)) (cutP (S.conf + S.done r) S.l) S.free).2.1 := rfl
        have eb : (tickS o r ws n S).b = (loopW o r n (addW ws n S.w) n (lastT S.l - (S.conf + S.done r)) (cutP (S.conf + S.done r) S.l) S.free).2.2.1 := rfl
        have el : (tickS o r ws n S).l = (loopW o r n (addW ws n S.w) n (lastT S.l - (S.conf + S.done r)) (cutP (S.conf + S.done r) S.l) S.free).2.2.2.1 := rfl
        have ef : (tickS o r ws n S).free = (loopW o r n (addW ws n S.w) n (lastT S.l - (S.conf + S.done r)) (cutP (S.conf + S.done r) S.l) S.free).2.2.2.2 := rfl
        rw [← et, ← eb] at i1
        rw [← ef] at i2
        rw [← eb, ← et, ← el] at hage2
        generalize hL : SCode.loop [0, 2, 9, 11, 12, 13, 14, 31, 32] s6b1 = L
        unfold th at *
        simp [s6b1, hnN', opLoad, opStore, hback, hmin, hage, hmax, hwc, hprog, c0, hlenX, opLoad_ep, hg, hg2, hil, c1, happ]
        rw [loop_use i1 _ (by simp)]
        simp [i2, opLoad, hage2, hmax2, hwn]
        subst hL
        refine loop_from ?_
        simp
      · have haw : addW ws n S.w = S.w := by unfold addW; rw [List.getElem?_eq_getElem c0]; simp only; rw [if_neg c1]
        obtain ⟨fr', x2, M2, J2, i1, i2, i3, i4⟩ := waitLoop6 (o := o) (r := r) (now := n) (by omega) (by omega) (.sl (ints ws) ws.length tg) (max S.old (ageS n S.b S.l)) (S.conf + S.done r) N (addW ws n S.w) n (lastT S.l - (S.conf + S.done r)) (cutP (S.conf + S.done r) S.l) S.free x M1 J F hw hM1 (by rw [haw]; exact hx)
        obtain ⟨q1, q2, _⟩ := loopW_ok (by omega) _ _ _ _ S.free hw
        have hage2 := i3.age q1.ok (now := n) (by omega) (by omega)
        obtain ⟨fr2, st2, j1, j2⟩ := tickLoop6 hX hws hlen N hN k (n + 1) (tickS o r ws n S) x2 M2 J2 F (by omega) (h.next hws (by omega)) i3 i4
        have hc2 : (tickS o r ws n S).conf = S.conf + S.done r := by
          show lastT _ - _ = _
          rw [show lastT (tickS o r ws n S).l - (tickS o r ws n S).b = lastT (loopW o r n (addW ws n S.w) n (lastT S.l - (S.conf + S.done r)) (cutP (S.conf + S.done r) S.l) S.free).2.2.2.1 - (loopW o r n (addW ws n S.w) n (lastT S.l - (S.conf + S.done r)) (cutP (S.conf + S.done r) S.l) S.free).2.2.1 from rfl, q2, hlc]
          omega
        have ho2 : (tickS o r ws n S).old = max (max S.old (ageS n S.b S.l)) (ageS n (tickS o r ws n S).b (tickS o r ws n S).l) := rfl
        have hrun : runS o r ws (k + 1) n S = runS o r ws k (n + 1) (tickS o r ws n S) := rfl
        rw [hrun]
        refine ⟨fr2, st2, ?_, j2⟩
        rw [← j1, hc2, ho2, runL_loop]
        have et : (tickS o r ws n S).t = (loopW o r n (addW ws n S.w) n (lastT S.l - (S.conf + S.done r)) (cutP (S.conf + S.done r) S.l) S.free).2.1 := rfl
        have eb : (tickS o r ws n S).b = (loopW o r n (addW ws n S.w) n (lastT S.l - (S.conf + S.done r)) (cutP (S.conf + S.done r) S.l) S.free).2.2.1 := rfl
        have el : (tickS o r ws n S).l = (loopW o r n (addW ws n S.w) n (lastT S.l - (S.conf + S.done r)) (cutP (S.conf + S.done r) S.l) S.free).2.2.2.1 := rfl
        have ef : (tickS o r ws n S).free = (loopW o r n (addW ws n S.w) n (lastT S.l - (S.conf + S.done r)) (cutP (S.conf + S.done r) S.l) S.free).2.2.2.2 := rfl
        rw [← et, ← eb] at i1
        rw [← ef] at i2
        rw [← eb, ← et, ← el] at hage2
        generalize hL : SCode.loop [0, 2, 9, 11, 12, 13, 14, 31, 32] s6b1 = L
        unfold th at *
        simp [s6b1, hnN', opLoad, opStore, hback, hmin, hage, hmax, hwc, hprog, c0, hlenX, opLoad_ep, hg, hg2, hil, c1]
        rw [loop_use i1 _ (by simp)]
        simp [i2, opLoad, hage2, hmax2, hwn]
        subst hL
        refine loop_from ?_
        simp
    · have haw : addW ws n S.w = S.w := by unfold addW; rw [List.getElem?_eq_none (by omega)]
      obtain ⟨fr', x2, M2, J2, i1, i2, i3, i4⟩ := waitLoop6 (o := o) (r := r) (now := n) (by omega) (by omega) X (max S.old (ageS n S.b S.l)) (S.conf + S.done r) N (addW ws n S.w) n (lastT S.l - (S.conf + S.done r)) (cutP (S.conf + S.done r) S.l) S.free x M1 J F hw hM1 (by rw [haw]; exact hx)
      obtain ⟨q1, q2, _⟩ := loopW_ok (by omega) _ _ _ _ S.free hw
      have hage2 := i3.age q1.ok (now := n) (by omega) (by omega)
      obtain ⟨fr2, st2, j1, j2⟩ := tickLoop6 hX hws hlen N hN k (n + 1) (tickS o r ws n S) x2 M2 J2 F (by omega) (h.next hws (by omega)) i3 i4
      have hc2 : (tickS o r ws n S).conf = S.conf + S.done r := by
        show lastT _ - _ = _
        rw [show lastT (tickS o r ws n S).l - (tickS o r ws n S).b = lastT (loopW o r n (addW ws n S.w) n (lastT S.l - (S.conf + S.done r)) (cutP (S.conf + S.done r) S.l) S.free).2.2.2.1 - (loopW o r n (addW ws n S.w) n (lastT S.l - (S.conf + S.done r)) (cutP (S.conf + S.done r) S.l) S.free).2.2.1 from rfl, q2, hlc]
        omega
      have ho2 : (tickS o r ws n S).old = max (max S.old (ageS n S.b S.l)) (ageS n (tickS o r ws n S).b (tickS o r ws n S).l) := rfl
      have hrun : runS o r ws (k + 1) n S = runS o r ws k (n + 1) (tickS o r ws n S) := rfl
      rw [hrun]
      refine ⟨fr2, st2, ?_, j2⟩
      rw [← j1, hc2, ho2, runL_loop]
      have et : (tickS o r ws n S).t = (loopW o r n (addW ws n S.w) n (lastT S.l - (S.conf + S.done r)) (cutP (S.conf + S.done r) S.l) S.free).2.1 := rfl
      have eb : (tickS o r ws n S).b = (loopW o r n (addW ws n S.w) n (lastT S.l - (S.conf + S.done r)) (cutP (S.conf + S.done r) S.l) S.free).2.2.1 := rfl
      have el : (tickS o r ws n S).l = (loopW o r n (addW ws n S.w) n (lastT S.l - (S.conf + S.done r)) (cutP (S.conf + S.done r) S.l) S.free).2.2.2.1 := rfl
      have ef : (tickS o r ws n S).free = (loopW o r n (addW ws n S.w) n (lastT S.l - (S.conf + S.done r)) (cutP (S.conf + S.done r) S.l) S.free).2.2.2.2 := rfl
      rw [← et, ← eb] at i1
      rw [← ef] at i2
      rw [← eb, ← et, ← el] at hage2
      generalize hL : SCode.loop [0, 2, 9, 11, 12, 13, 14, 31, 32] s6b1 = L
      unfold th at *
      simp [s6b1, hnN', opLoad, opStore, hback, hmin, hage, hmax, hwc, hprog, c0, hlenX]
      rw [loop_use i1 _ (by simp)]
      simp [i2, opLoad, hage2, hmax2, hwn]
      subst hL
      refine loop_from ?_
      simp

end VS
end Go.Proofs.Ytbnhmahkgeaajaa
