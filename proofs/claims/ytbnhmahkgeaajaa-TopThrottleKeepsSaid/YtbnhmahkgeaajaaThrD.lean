/- admit, Write. -/
import Derived.Test.YtbnhmahkgeaajaaThrC
namespace Go.Proofs.Ytbnhmahkgeaajaa
namespace VS

/-- Marks, when at 'now' so many sectors have been admitted in all; 'c' are confirmed. -/
def admS (now tot c : Int) (l : List (Int × Int)) : List (Int × Int) :=
  if (l.getLast?).map (·.1) = some now then l.dropLast ++ [(now, tot)] else l.drop (opn c l) ++ [(now, tot)]

theorem admit22 {M2 : AV} {l : List (Int × Int)} {J : List HB} (hCL : CL 3 l M2 J) {o r t b now s : Int} (h : Ok o r t b l) (s1 : 1 ≤ s) (s2 : lastT l + s ≤ 1073741824) (hlen2 : (admS now (lastT l + s) (lastT l - b) l).length ≤ 4096) (x0 x1 : HB) :
    ∃ M4 J4 F4, callL T 22 [.ptr 2 0, .v (.int .i64 s)] { H := [x0, x1, { cells := th o r now b M2, fz := false }] ++ J, F := [] } = some (.ret (.v (.int .i64 0)), { H := [x0, x1, { cells := th o r now (b + s) M4, fz := false }] ++ J4, F := F4 }) ∧
      ∀ x y z, MK { H := x :: y :: z :: J4, F := F4 } M4 (admS now (lastT l + s) (lastT l - b) l) := by
  have hl := h.len
  have hlast := h.last
  have hb1 := h.b1
  have hb2 := h.b2
  have hK : ∀ (x y z : HB) F, MK { H := x :: y :: z :: J, F := F } M2 l := fun x y z F => by
    have := CL.mk (H := [x, y, z]) (F := F) hCL
    exact this
  have htot := fun x y z F b => total20 (hK x y z F) (by omega) o r now b
  have hcon := fun x y z F => confirmed18 (hK x y z F) (by omega) o r now b (wrap_i64 (by omega) (by omega))
  have hop := fun x y z F b' => open17 (hK x y z F) (by omega) o r now b' (lastT l - b)
  have hw1 : IntKind.wrap .i64 (lastT l + s) = lastT l + s := wrap_i64 (by omega) (by omega)
  have hw2 : IntKind.wrap .i64 (b + s) = b + s := wrap_i64 (by omega) (by omega)
  have hfull : ¬ (1073741824 : Int) < lastT l + s := by omega
  rw [call_whole T22 (.inl rfl) rfl]
  by_cases h0 : l = []
  · have hadm : admS now (lastT l + s) (lastT l - b) l = [(now, lastT l + s)] := by subst h0; simp [admS]
    have hop0 : opn (lastT l - b) l = 0 := by subst h0; rfl
    rw [hadm]
    generalize lastT l - b = c at *
    generalize lastT l = tt at *
    refine ⟨.sl (mx [(now, tt + s)]) 1 (.own 0 2), J, [(2, 2)], ?_, fun x y z => .sl (l := [(now, tt + s)]) (by simp)⟩
    have hlen := hCL.len
    have hlen0 : l.length = 0 := by simp [h0]
    cases hCL with
    | nil =>
      unfold th at *
      simp [inner_eq, s22, opLoad, opStore, htot, hcon, hop, hop0, hlen, hw1, hw2, hfull, opSlice, opAppend, srcOf, most47, maxLen, -AV.cells, -AV.isTup, cells_v, tup_v, cells_agg, tup_agg, cells_sl, tup_sl, mx, gx]
    | full =>
      unfold th at *
      simp [inner_eq, s22, opLoad, opStore, htot, hcon, hop, hop0, hlen, hw1, hw2, hfull, opSlice, opAppend, srcOf, most47, maxLen, tagCut, -AV.cells, -AV.isTup, cells_v, tup_v, cells_agg, tup_agg, cells_sl, tup_sl, mx, gx]
    | hs hh => exact absurd h0 hh
  · cases hCL with
    | nil => exact absurd rfl h0
    | full => exact absurd rfl h0
    | hs _ =>
      rcases List.eq_nil_or_concat l with hh | ⟨l', m, hm⟩
      · exact absurd hh h0
      have hm : l = l' ++ [m] := by rw [hm, List.concat_eq_append]
      have hn : l.length = l'.length + 1 := by simp [hm]
      generalize hn' : l'.length = n at *
      have hq0 : (mx l)[n * 2]? = some (.v (.int .i64 m.1)) := by
        have := (mx_flat l).fld n 0 (by omega) (by omega)
        have e : l[n]'(by omega) = m := by subst hm; simp [← hn']
        rw [e] at this
        simpa [gx] using this
      have hq1 : ∀ h, (mx l)[n * 2]'h = .v (.int .i64 m.1) := fun h => by rw [List.getElem?_eq_getElem h] at hq0; exact Option.some.inj hq0
      have hget : l.getLast? = some m := by simp [hm]
      have hmx : (mx l).length = (n + 1) * 2 := by rw [mx_len, hn]
      have hlenS : ∀ k (st : St), lenK (some (.hs 3 0 k 2)) st = some (.ret (.v (.int .i64 k)), st) := fun k st => by cases st; rfl
      have hlenL : ∀ cs k tg (st : St), lenK (some (.sl cs k tg)) st = some (.ret (.v (.int .i64 k)), st) := fun cs k tg st => by cases st; rfl
      have hwn : IntKind.wrap .i64 (n : Int) = (n : Int) := wrap_i64 (by omega) (by omega)
      have hwn1 : IntKind.wrap .i64 ((n : Int) + 1 - 1) = (n : Int) := by rw [wrap_i64 (by omega) (by omega)]; omega
      have hmany : ¬ 4096 < n + 1 := by omega
      have hmany' : ¬ (4096 : Int) < (n : Int) + 1 := by omega
      have hpos : (0 : Int) < (n : Int) + 1 := by omega
      have hle2 : n * 2 + 1 + 1 ≤ (n + 1) * 2 := by omega
      have hnn : (n : Int) < (n : Int) + 1 := by omega
      simp only [hn] at htot hcon hop ⊢
      by_cases hnow : m.1 = now
      · have hadm : admS now (lastT l + s) (lastT l - b) l = l' ++ [(now, lastT l + s)] := by simp [admS, hget, hnow, hm]
        have hput : (mx l).take (n * 2 + 1) ++ [.v (.int .i64 (lastT l + s))] ++ (mx l).drop (n * 2 + 1 + 1) = mx (l' ++ [(now, lastT l + s)]) := by
          have e1 : mx l = mx l' ++ [.v (.int .i64 m.1), .v (.int .i64 m.2)] := by rw [hm, mx_append]; simp [mx, gx]
          have e2 : (mx l').length = n * 2 := by rw [mx_len, hn']
          rw [mx_append, e1, List.take_append, List.drop_append, e2]
          rw [List.take_of_length_le (by omega), List.drop_of_length_le (by omega)]
          have a1 : n * 2 + 1 - n * 2 = 1 := by omega
          have a2 : n * 2 + 1 + 1 - n * 2 = 2 := by omega
          rw [a1, a2]
          simp [mx, gx, hnow]
        have hput' : (mx l).take (n * 2 + 1) ++ (.v (.int .i64 (lastT l + s)) :: (mx l).drop (n * 2 + 1 + 1)) = mx (l' ++ [(now, lastT l + s)]) := by rw [← hput]; simp
        rw [hadm]
        refine ⟨.hs 3 0 (n + 1) 2, [{ cells := mx (l' ++ [(now, lastT l + s)]), fz := false }], [], ?_, fun x y z => ?_⟩
        · unfold th at *
          simp [inner_eq, s22, opLoad, opStore, htot, hlenS, hw1, hw2, hfull, hwn, hwn1, hpos, hnn, hle2, hq0, hq1, hnow, hmx, hput', hmany, hmany', -AV.cells, -AV.isTup, cells_v, tup_v, cells_agg, tup_agg, cells_hs, tup_hs]
        · have e : n + 1 = (l' ++ [(now, lastT l + s)]).length := by simp [hn']
          rw [e]
          exact .hs (hb := { cells := mx (l' ++ [(now, lastT l + s)]), fz := false }) rfl (by rw [mx_len]; omega) (by simp)
      · have hadm : admS now (lastT l + s) (lastT l - b) l = l.drop (opn (lastT l - b) l) ++ [(now, lastT l + s)] := by simp [admS, hget, hnow]
        have hk := opn_le (lastT l - b) l
        rw [hadm] at hlen2 ⊢
        generalize opn (lastT l - b) l = k at *
        have hkn : k ≤ n + 1 := by omega
        have hkn' : (k : Int) ≤ (n : Int) + 1 := by omega
        have hln : (l.drop k ++ [(now, lastT l + s)]).length = n + 1 - k + 1 := by simp [hn]
        have hsrc : ∀ k' : Nat, k' ≤ n + 1 → (n + 1 - k' + 1) * 16 ≤ most47 ∧ n + 1 - k' + 1 ≤ maxLen := fun k' hk' => by unfold most47 maxLen; omega
        obtain ⟨g1, g2⟩ := hsrc k hkn
        have hdr : (mx l).drop (k * 2) = mx (l.drop k) := mx_drop l k
        have hcl := cleanL_mx (l.drop k)
        have hfit : (n + 1) * 2 = k * 2 + (n + 1 - k) * 2 := by rw [← Nat.add_mul]; congr 1; omega
        refine ⟨.sl (mx (l.drop k ++ [(now, lastT l + s)])) (n + 1 - k + 1) (.own 0 ((n + 1) * 2 + 2)), [{ cells := mx l, fz := true }], [((n + 1) * 2 + 2, 2)], ?_, fun x y z => ?_⟩
        · have hmany2 : ¬ 4096 < n + 1 - k + 1 := by omega
          have hmany3 : ¬ (4096 : Int) < ((n + 1 - k : Nat) : Int) + 1 := by omega
          rw [mx_append]
          unfold th at *
          simp [inner_eq, s22, opLoad, opStore, htot, hcon, hop, hlenS, hlenL, hw1, hw2, hfull, hwn, hwn1, hpos, hnn, hle2, hq0, hq1, hnow, hmx, hkn, hkn', opSlice, opAppend, srcOf, g1, g2, hfit, hdr, hcl, hmany2, hmany3, -AV.cells, -AV.isTup, cells_v, tup_v, cells_agg, tup_agg, cells_hs, tup_hs, cells_sl, tup_sl]
          rfl
        · rw [← hln]
          exact .sl (by simp)

theorem Ok.mul {o r t b : Int} {l : List (Int × Int)} (h : Ok o r t b l) : 1 ≤ r * o ∧ r * o ≤ 4398046511104 := by
  have h1 := h.o1
  have h2 := h.o2
  have h3 := h.r1
  have h4 := h.r2
  constructor
  · have := Int.mul_le_mul h3 h1 (by omega) (by omega)
    omega
  · have := Int.mul_le_mul h4 h2 (by omega) (by omega)
    omega

def thZ : List AV := [.v (.int .i64 0), .v (.int .i64 0), .v (.int .i64 0), .v (.int .i64 0), .v (.slice none 0 0)]

section
variable {M : AV} {l : List (Int × Int)} {o r t b now s : Int}

theorem write13_bound (hM : MR M l) (h : Ok o r t b l) (n1 : t ≤ now) (n2 : now ≤ 1073741824) (s1 : 1 ≤ s) (s2 : s ≤ 4096) (hs : r * o < s) (st : St) :
    callL T 13 [.agg (th o r t b M), .v (.int .i64 now), .v (.int .i64 s)] st = some (.ret (.tup [.agg thZ, .v (.int .i64 0), .v (.int .i64 21)]), st) := by
  obtain ⟨M2, J, hadv, hCL⟩ := advance19 hM h n1 n2 { cells := th o r t b M, fz := false } { cells := thZ, fz := false }
  have hx : expA st [.agg (th o r t b M), .v (.int .i64 now), .v (.int .i64 s)] = some ([.agg (th o r t b M), .v (.int .i64 now), .v (.int .i64 s)], st) := by simp only [expA, hM.exp, exp1_v]
  have hK : ∀ (x y z : HB) F, MK { H := x :: y :: z :: J, F := F } M2 l := fun x y z F => by
    have := CL.mk (H := [x, y, z]) (F := F) hCL
    exact this
  obtain ⟨m1, m2⟩ := h.mul
  have hbd := fun x y z F => bound21 (hK x y z F) o r now b (wrap_i64 (by omega) (by omega))
  have hbt := between15 s 1 4096
  simp only [s1, s2, and_self, decide_true] at hbt
  obtain ⟨f1, f2⟩ := hM.cells
  rw [call_pure T13 rfl rfl hx]
  unfold th thZ at *
  simp [inner_eq, s13, St.mt, opLoad, opStore, hadv, hbt, hbd, hs, f1, f2, -AV.cells, -AV.isTup, cells_v, tup_v, cells_agg, tup_agg, pured, expR, expA, exp1, scalR, scal1, AV.isV]

theorem write13_wait (hM : MR M l) (h : Ok o r t b l) (n1 : t ≤ now) (n2 : now ≤ 1073741824) (s1 : 1 ≤ s) (s2 : s ≤ 4096) (hs : s ≤ r * o) (hm : r * o < b + s) (st : St) :
    ∃ M', callL T 13 [.agg (th o r t b M), .v (.int .i64 now), .v (.int .i64 s)] st = some (.ret (.tup [.agg (th o r now b M'), .v (.int .i64 ((b + s - r * o + r - 1).tdiv r)), .v (.int .i64 0)]), st) ∧ MR M' l := by
  obtain ⟨M2, J, hadv, hCL⟩ := advance19 hM h n1 n2 { cells := th o r t b M, fz := false } { cells := thZ, fz := false }
  have hx : expA st [.agg (th o r t b M), .v (.int .i64 now), .v (.int .i64 s)] = some ([.agg (th o r t b M), .v (.int .i64 now), .v (.int .i64 s)], st) := by simp only [expA, hM.exp, exp1_v]
  have hK : ∀ (x y z : HB) F, MK { H := x :: y :: z :: J, F := F } M2 l := fun x y z F => by
    have := CL.mk (H := [x, y, z]) (F := F) hCL
    exact this
  have hlast := h.last
  have hb1 := h.b1
  have hb2 := h.b2
  have hr1 := h.r1
  have hr2 := h.r2
  obtain ⟨m1, m2⟩ := h.mul
  have hbd := fun x y z F => bound21 (hK x y z F) o r now b (wrap_i64 (by omega) (by omega))
  have hbt := between15 s 1 4096
  simp only [s1, s2, and_self, decide_true] at hbt
  obtain ⟨f1, f2⟩ := hM.cells
  obtain ⟨e1, e2⟩ := hCL.cells
  have hhs := hM.no_hs3 o r t b (.int .i64 now) (.int .i64 s)
  have hns : ¬ r * o < s := by omega
  generalize r * o = bd at *
  have w1 : IntKind.wrap .i64 (b + s) = b + s := wrap_i64 (by omega) (by omega)
  have w2 : IntKind.wrap .i64 (b + s - bd) = b + s - bd := wrap_i64 (by omega) (by omega)
  have w3 : IntKind.wrap .i64 (b + s - bd + r) = b + s - bd + r := wrap_i64 (by omega) (by omega)
  have w4 : IntKind.wrap .i64 (b + s - bd + r - 1) = b + s - bd + r - 1 := wrap_i64 (by omega) (by omega)
  have hr0 : ¬ r = 0 := by omega
  have d1 : 0 ≤ (b + s - bd + r - 1).tdiv r := Int.tdiv_nonneg (by omega) (by omega)
  have d2 : (b + s - bd + r - 1).tdiv r ≤ b + s - bd + r - 1 := by
    rw [Int.tdiv_eq_ediv_of_nonneg (by omega)]
    exact Int.ediv_le_self _ (by omega)
  have w5 : IntKind.wrap .i64 ((b + s - bd + r - 1).tdiv r) = (b + s - bd + r - 1).tdiv r := wrap_i64 (by omega) (by omega)
  have hin : inner (runL T) s13 [.agg (th o r t b M), .v (.int .i64 now), .v (.int .i64 s)] .mt = some (.ret (.tup [.agg (th o r now b M2), .v (.int .i64 ((b + s - bd + r - 1).tdiv r)), .v (.int .i64 0)]), { H := [{ cells := th o r t b M, fz := false }, { cells := th o r now b M2, fz := false }, { cells := th o r now b M2, fz := false }] ++ J, F := [] }) := by
    unfold th thZ at *
    simp [inner_eq, s13, St.mt, opLoad, opStore, hadv, hbt, hbd, hns, w1, w2, w3, w4, w5, hm, hr0, f1, f2, e1, e2, freeR, touched, stepS, touch, freeOk, -AV.cells, -AV.isTup, cells_v, tup_v, cells_agg, tup_agg]
  obtain ⟨M', h3, h4⟩ := (hK { cells := th o r t b M, fz := false } { cells := th o r now b M2, fz := false } { cells := th o r now b M2, fz := false } []).res3 o r now b (.int .i64 ((b + s - bd + r - 1).tdiv r)) (.int .i64 0)
  refine ⟨M', ?_, h4⟩
  rw [call_pure T13 rfl rfl hx, hin]
  simp only [pured]
  rw [show ({ H := [{ cells := th o r t b M, fz := false }, { cells := th o r now b M2, fz := false }, { cells := th o r now b M2, fz := false }] ++ J, F := [] } : St) = { H := { cells := th o r t b M, fz := false } :: { cells := th o r now b M2, fz := false } :: { cells := th o r now b M2, fz := false } :: J, F := [] } from rfl, h3]
  simp only
  rw [if_pos (by rw [hhs]; simp)]

theorem write13_ok (hM : MR M l) (h : Ok o r t b l) (n1 : t ≤ now) (n2 : now ≤ 1073741824) (s1 : 1 ≤ s) (s2 : s ≤ 4096) (hs : s ≤ r * o) (hm : b + s ≤ r * o) (hf : lastT l + s ≤ 1073741824) (hlen : (admS now (lastT l + s) (lastT l - b) l).length ≤ 4096) (st : St) :
    ∃ M', callL T 13 [.agg (th o r t b M), .v (.int .i64 now), .v (.int .i64 s)] st = some (.ret (.tup [.agg (th o r now (b + s) M'), .v (.int .i64 0), .v (.int .i64 0)]), st) ∧ MR M' (admS now (lastT l + s) (lastT l - b) l) := by
  obtain ⟨M2, J, hadv, hCL⟩ := advance19 hM h n1 n2 { cells := th o r t b M, fz := false } { cells := thZ, fz := false }
  have hx : expA st [.agg (th o r t b M), .v (.int .i64 now), .v (.int .i64 s)] = some ([.agg (th o r t b M), .v (.int .i64 now), .v (.int .i64 s)], st) := by simp only [expA, hM.exp, exp1_v]
  have hK : ∀ (x y z : HB) F, MK { H := x :: y :: z :: J, F := F } M2 l := fun x y z F => by
    have := CL.mk (H := [x, y, z]) (F := F) hCL
    exact this
  have hlast := h.last
  have hb1 := h.b1
  have hb2 := h.b2
  obtain ⟨m1, m2⟩ := h.mul
  have hbd := fun x y z F => bound21 (hK x y z F) o r now b (wrap_i64 (by omega) (by omega))
  have hbt := between15 s 1 4096
  simp only [s1, s2, and_self, decide_true] at hbt
  obtain ⟨f1, f2⟩ := hM.cells
  obtain ⟨e1, e2⟩ := hCL.cells
  have hhs := hM.no_hs3 o r t b (.int .i64 now) (.int .i64 s)
  obtain ⟨M4, J4, F4, hadm, hK4⟩ := admit22 hCL h s1 hf hlen (x0 := { cells := th o r t b M, fz := false }) (x1 := { cells := thZ, fz := false })
  simp only [List.cons_append, List.nil_append] at hadm
  have hns : ¬ r * o < s := by omega
  generalize r * o = bd at *
  have w1 : IntKind.wrap .i64 (b + s) = b + s := wrap_i64 (by omega) (by omega)
  have w2 : IntKind.wrap .i64 (b + s - bd) = b + s - bd := wrap_i64 (by omega) (by omega)
  have hpos : ¬ bd < b + s := by omega
  have hin : inner (runL T) s13 [.agg (th o r t b M), .v (.int .i64 now), .v (.int .i64 s)] .mt = some (.ret (.tup [.agg (th o r now (b + s) M4), .v (.int .i64 0), .v (.int .i64 0)]), { H := [{ cells := th o r t b M, fz := false }, { cells := th o r now (b + s) M4, fz := false }, { cells := th o r now (b + s) M4, fz := false }] ++ J4, F := F4 }) := by
    unfold th thZ at *
    simp [inner_eq, s13, St.mt, opLoad, opStore, hadv, hbt, hbd, hns, w1, w2, hpos, f1, f2, e1, e2, hadm, -AV.cells, -AV.isTup, cells_v, tup_v, cells_agg, tup_agg]
  obtain ⟨M', h3, h4⟩ := (hK4 { cells := th o r t b M, fz := false } { cells := th o r now (b + s) M4, fz := false } { cells := th o r now (b + s) M4, fz := false }).res3 o r now (b + s) (.int .i64 0) (.int .i64 0)
  refine ⟨M', ?_, h4⟩
  rw [call_pure T13 rfl rfl hx, hin]
  simp only [pured]
  rw [show ({ H := [{ cells := th o r t b M, fz := false }, { cells := th o r now (b + s) M4, fz := false }, { cells := th o r now (b + s) M4, fz := false }] ++ J4, F := F4 } : St) = { H := { cells := th o r t b M, fz := false } :: { cells := th o r now (b + s) M4, fz := false } :: { cells := th o r now (b + s) M4, fz := false } :: J4, F := F4 } from rfl, h3]
  simp only
  rw [if_pos (by rw [hhs]; simp)]

end

end VS
end Go.Proofs.Ytbnhmahkgeaajaa
