/- caseRun, caseSequence, caseThrottled, the law. -/
import Derived.Test.YtbnhmahkgeaajaaThrE
namespace Go.Proofs.Ytbnhmahkgeaajaa
namespace VS

theorem run6 {o r : Int} {ws : List Int} {X : AV} (hX : IsL 1 X (ints ws) ws.length) (hws : ∀ x ∈ ws, 0 ≤ x ∧ x ≤ 60) (hlen : ws.length ≤ 40) (o1 : 1 ≤ o) (o2 : o ≤ 1073741824) (r1 : 1 ≤ r) (r2 : r ≤ 4096) (hs : ws.sum ≤ 2400) (st : St) :
    callL T 6 [X, .v (.int .i64 o), .v (.int .i64 r)] st = some (.ret (.tup [.v (.int .i64 (runS o r ws (4 * ws.length + 400) 0 S0).old), .v (.bool (runS o r ws (4 * ws.length + 400) 0 S0).free), .v (.bool true)]), st) := by
  obtain ⟨Y, he, hY, _⟩ := hX.exp st
  rw [call_plain T6 rfl rfl (show expA st _ = some ([Y, .v (.int .i64 o), .v (.int .i64 r)], st) by simp only [expA, he, exp1_v])]
  have hnew := new9 o1 o2 r1 r2
  obtain ⟨fr', st', h1, h2⟩ := tickLoop6 hY hws hlen (4 * ws.length + 400) (by omega) (4 * ws.length + 400) 0 S0 (.v (.slice none 0 0)) (.v (.slice none 0 0)) [] [] (by omega) (start_ok o1 o2 r1 r2 hs) .nil .nil
  have hl := hY.len
  have hw1 : IntKind.wrap .i64 (4 * (ws.length : Int)) = 4 * (ws.length : Int) := wrap_i64 (by omega) (by omega)
  have hw2 : IntKind.wrap .i64 (4 * (ws.length : Int) + 400) = ((4 * ws.length + 400 : Nat) : Int) := by rw [wrap_i64 (by omega) (by omega)]; omega
  unfold th at *
  simp [inner_eq, s6, St.mt, opLoad, opStore, hnew, hl, hw1, hw2]
  simp [S0, Sm.conf, lastT] at h1
  rw [loop_use h1 _ (by simp)]
  simp [h2, dropped, expR, expA, exp1]

def bad (x : Int) : Bool := decide (x < 0 ∨ 60 < x)

theorem clo8 (x : Int) (st : St) : callL T 8 [.v (.int .i64 x)] st = some (.ret (.v (.bool (bad x))), st) := by
  rw [call_plain T8 rfl rfl (show expA st _ = some ([.v (.int .i64 x)], st) from rfl)]
  unfold bad
  by_cases h : x < 0 <;> simp [inner_eq, s8, h, dropped, expR]

theorem idxLoop14 {l : List Int} {tg : Tag} (hlen : l.length ≤ 1000000000) : ∀ (k i : Nat) (st : St), i + k = l.length →
    ((l.drop i).any bad = true → ∃ j : Nat, runL T (.loop [0, 1, 7, 8] s14b0) { s := [(0, .sl (ints l) l.length tg), (1, .fn 8 []), (7, .v (.int .i64 l.length)), (8, .v (.int .i64 i))], d := [] } st = some (.rt, { s := [(4, .v (.int .i64 j))], d := [] }, st)) ∧
    ((l.drop i).any bad = false → ∃ fr', runL T (.loop [0, 1, 7, 8] s14b0) { s := [(0, .sl (ints l) l.length tg), (1, .fn 8 []), (7, .v (.int .i64 l.length)), (8, .v (.int .i64 i))], d := [] } st = some (.ex 0, fr', st) ∧ fr'.only [] = { s := [], d := [] })
  | 0, i, st, hi => by
    have hd : l.drop i = [] := List.drop_eq_nil_of_le (by omega)
    refine ⟨fun h => by simp [hd] at h, fun _ => ⟨?s, ?a, ?b⟩⟩
    case a =>
      rw [runL_loop]
      have : ¬ (i : Int) < l.length := by omega
      simp [s14b0, this]
      rfl
    case b => simp
  | k + 1, i, st, hi => by
    have hlt : i < l.length := by omega
    have hd : l.drop i = l[i] :: l.drop (i + 1) := List.drop_eq_getElem_cons hlt
    have h2 : (i : Int) < l.length := by omega
    have hw : IntKind.wrap .i64 ((i : Int) + 1) = ((i + 1 : Nat) : Int) := by rw [wrap_i64 (by omega) (by omega)]; omega
    have hg : (ints l)[i]? = some (.v (.int .i64 l[i])) := by simp [ints, hlt]
    have hg2 : ∀ h, (ints l)[i]'h = .v (.int .i64 l[i]) := fun h => by simp [ints]
    have hil := ints_len l
    have hcall := clo8 l[i]
    rw [hd, List.any_cons]
    generalize l[i] = x at *
    cases hb : bad x with
    | true =>
      rw [hb] at hcall
      refine ⟨fun _ => ⟨i, ?_⟩, fun h => by simp at h⟩
      rw [runL_loop]
      simp [s14b0, h2, hlt, opLoad_ep, hg, hg2, hil, hcall]
    | false =>
      rw [hb] at hcall
      have step : runL T (.loop [0, 1, 7, 8] s14b0) { s := [(0, .sl (ints l) l.length tg), (1, .fn 8 []), (7, .v (.int .i64 l.length)), (8, .v (.int .i64 i))], d := [] } st =
          runL T (.loop [0, 1, 7, 8] s14b0) { s := [(0, .sl (ints l) l.length tg), (1, .fn 8 []), (7, .v (.int .i64 l.length)), (8, .v (.int .i64 (i + 1 : Nat)))], d := [] } st := by
        rw [runL_loop]
        generalize hL : SCode.loop [0, 1, 7, 8] s14b0 = L
        simp [s14b0, h2, hlt, opLoad_ep, hg, hg2, hil, hcall, hw]
        subst hL
        refine loop_from ?_
        simp
      rw [step, Bool.false_or]
      exact idxLoop14 hlen k (i + 1) st (by omega)

theorem idx14 {X : AV} {l : List Int} (hX : IsL 1 X (ints l) l.length) (hlen : l.length ≤ 1000000000) (st : St) :
    ∃ j : Int, callL T 14 [X, .fn 8 []] st = some (.ret (.v (.int .i64 j)), st) ∧ decide (0 ≤ j) = l.any bad := by
  obtain ⟨Y, he, hY, _⟩ := hX.exp st
  rw [call_plain T14 rfl rfl (show expA st _ = some ([Y, .fn 8 []], st) by simp only [expA, he, exp1_fn])]
  have hl := hY.len
  have key : (l.any bad = true → ∃ j : Nat, runL T (.loop [0, 1, 7, 8] s14b0) { s := [(0, Y), (1, .fn 8 []), (7, .v (.int .i64 l.length)), (8, .v (.int .i64 0))], d := [] } .mt = some (.rt, { s := [(4, .v (.int .i64 j))], d := [] }, .mt)) ∧
      (l.any bad = false → ∃ fr', runL T (.loop [0, 1, 7, 8] s14b0) { s := [(0, Y), (1, .fn 8 []), (7, .v (.int .i64 l.length)), (8, .v (.int .i64 0))], d := [] } .mt = some (.ex 0, fr', .mt) ∧ fr'.only [] = { s := [], d := [] }) := by
    by_cases h0 : l = []
    · subst h0
      refine ⟨fun h => by simp at h, fun _ => ⟨?s, ?a, ?b⟩⟩
      case a =>
        rw [runL_loop]
        simp [s14b0]
        rfl
      case b => simp
    · have hpos : 0 < l.length := List.length_pos_iff.2 h0
      obtain ⟨tg, rfl, _⟩ := hY.form hpos
      have := idxLoop14 (l := l) (tg := tg) hlen l.length 0 .mt (by omega)
      simpa using this
  cases hb : l.any bad with
  | true =>
    obtain ⟨j, h⟩ := key.1 hb
    refine ⟨j, ?_, by simp⟩
    simp [inner_eq, s14, hl]
    rw [loop_use h _ (by simp)]
    simp [dropped, expR]
  | false =>
    obtain ⟨fr', h, h2⟩ := key.2 hb
    refine ⟨-1, ?_, by decide⟩
    simp [inner_eq, s14, hl]
    rw [loop_use h _ (by simp)]
    simp [h2, dropped, expR]

theorem contains7 {X : AV} {l : List Int} (hX : IsL 1 X (ints l) l.length) (hlen : l.length ≤ 1000000000) (st : St) : callL T 7 [X, .fn 8 []] st = some (.ret (.v (.bool (l.any bad))), st) := by
  obtain ⟨Y, he, hY, _⟩ := hX.exp st
  rw [call_plain T7 rfl rfl (show expA st _ = some ([Y, .fn 8 []], st) by simp only [expA, he, exp1_fn])]
  obtain ⟨j, h1, h2⟩ := idx14 hY hlen .mt
  rw [← h2]
  simp [inner_eq, s7, h1, dropped, expR]

def fewS (l : List Int) : Bool := decide (l.length ≤ 40) && !l.any bad

theorem seq4 {X : AV} {l : List Int} (hX : IsL 1 X (ints l) l.length) (st : St) : callL T 4 [X] st = some (.ret (.v (.bool (fewS l))), st) := by
  obtain ⟨Y, he, hY, _⟩ := hX.exp st
  rw [call_pure T4 rfl rfl (show expA st _ = some ([Y], st) by simp only [expA, he])]
  have hl := hY.len
  unfold fewS
  by_cases h : l.length ≤ 40
  · have h' : (l.length : Int) ≤ 40 := by omega
    have hc := contains7 hY (by omega)
    simp [inner_eq, s4, hl, h, h', hc, pured, expR, scalR, scal1]
  · have h' : ¬ (l.length : Int) ≤ 40 := by omega
    simp [inner_eq, s4, hl, h, h', pured, expR, scalR, scal1]

theorem fewS_ok {l : List Int} (h : fewS l = true) : l.length ≤ 40 ∧ (∀ x ∈ l, 0 ≤ x ∧ x ≤ 60) ∧ l.sum ≤ 2400 := by
  simp only [fewS, Bool.and_eq_true, decide_eq_true_eq, Bool.not_eq_true'] at h
  obtain ⟨h1, h2⟩ := h
  have h3 : ∀ x ∈ l, 0 ≤ x ∧ x ≤ 60 := fun x hx => by
    have := List.any_eq_false.1 h2 x hx
    simp only [bad, decide_eq_true_eq] at this
    omega
  refine ⟨h1, h3, ?_⟩
  have : ∀ v : List Int, (∀ x ∈ v, 0 ≤ x ∧ x ≤ 60) → v.sum ≤ 60 * v.length := by
    intro v hv
    induction v with
    | nil => simp
    | cons x r ih =>
      have := hv x (by simp)
      have := ih fun y hy => hv y (by simp [hy])
      rw [List.sum_cons, List.length_cons]; omega
  have := this l h3
  omega

theorem run_old {o r : Int} {ws : List Int} (hws : ∀ x ∈ ws, 0 ≤ x ∧ x ≤ 60) (hlen : ws.length ≤ 40) (o1 : 1 ≤ o) (o2 : o ≤ 1073741824) (r1 : 1 ≤ r) (r2 : r ≤ 4096) (hs : ws.sum ≤ 2400) : (runS o r ws (4 * ws.length + 400) 0 S0).old ≤ o :=
  (run_ok hws (4 * ws.length + 400) 0 S0 (by omega) (start_ok o1 o2 r1 r2 hs)).old.2

theorem free1 : (runS 3 2 [6] 404 0 S0).free = true := by kernel_rfl
theorem free2 : (runS 3 2 [6, 1, 5] 412 0 S0).free = false := by kernel_rfl

theorem throttled5 (st : St) : callL T 5 [] st = some (.ret (.v (.bool true)), st) := by
  rw [call_plain T5 rfl rfl (show expA st [] = some ([], st) from rfl)]
  have h1 := fun s => run6 (o := 3) (r := 2) (ws := [6]) (X := .sl (ints [6]) 1 .full) (.sl (by simp) (by simp [ints])) (by decide) (by decide) (by decide) (by decide) (by decide) (by decide) (by decide) s
  have h2 := fun s => run6 (o := 3) (r := 2) (ws := [6, 1, 5]) (X := .sl (ints [6, 1, 5]) 3 .full) (.sl (by simp) (by simp [ints])) (by decide) (by decide) (by decide) (by decide) (by decide) (by decide) (by decide) s
  have o1 := run_old (o := 3) (r := 2) (ws := [6]) (by decide) (by decide) (by decide) (by decide) (by decide) (by decide) (by decide)
  have o2 := run_old (o := 3) (r := 2) (ws := [6, 1, 5]) (by decide) (by decide) (by decide) (by decide) (by decide) (by decide) (by decide)
  have e1 : 4 * ([6] : List Int).length + 400 = 404 := rfl
  have e2 : 4 * ([6, 1, 5] : List Int).length + 400 = 412 := rfl
  have i1 : ints [6] = [.v (.int .i64 6)] := rfl
  have i2 : ints [6, 1, 5] = [.v (.int .i64 6), .v (.int .i64 1), .v (.int .i64 5)] := rfl
  rw [e1] at o1
  rw [e2] at o2
  simp only [e1, free1, i1] at h1
  simp only [e2, free2, i2] at h2
  generalize (runS 3 2 [6] 404 0 S0).old = a at *
  generalize (runS 3 2 [6, 1, 5] 412 0 S0).old = b at *
  simp [inner_eq, s5, h1, h2, o1, o2, dropped, expR]

theorem law3 {X : AV} {ws : List Int} (hX : IsL 1 X (ints ws) ws.length) {ob rt : Int} (b1 : 0 ≤ ob) (b2 : ob ≤ 255) (c1 : 0 ≤ rt) (c2 : rt ≤ 255) :
    callL T 3 [X, .v (.int .u8 ob), .v (.int .u8 rt)] .mt = some (.ret (.v (.bool true)), .mt) := by
  obtain ⟨Y, he, hY, _⟩ := hX.exp .mt
  rw [call_plain T3 rfl rfl (show expA .mt _ = some ([Y, .v (.int .u8 ob), .v (.int .u8 rt)], .mt) by simp only [expA, he, exp1_v])]
  have hs := seq4 hY .mt
  have ht := throttled5 .mt
  cases hf : fewS ws with
  | false =>
    rw [hf] at hs
    simp [inner_eq, s3, hs, ht, dropped, expR]
  | true =>
    rw [hf] at hs
    obtain ⟨f1, f2, f3⟩ := fewS_ok hf
    have m1 : 0 ≤ ob.tmod 30 ∧ ob.tmod 30 < 30 := ⟨Int.tmod_nonneg _ b1, by have := Int.tmod_lt_of_pos ob (b := 30) (by omega); exact this⟩
    have m2 : 0 ≤ rt.tmod 20 ∧ rt.tmod 20 < 20 := ⟨Int.tmod_nonneg _ c1, by have := Int.tmod_lt_of_pos rt (b := 20) (by omega); exact this⟩
    have w1 : IntKind.wrap .i64 (ob.tmod 30) = ob.tmod 30 := wrap_i64 (by omega) (by omega)
    have w2 : IntKind.wrap .i64 (ob.tmod 30 + 1) = ob.tmod 30 + 1 := wrap_i64 (by omega) (by omega)
    have w3 : IntKind.wrap .i64 (rt.tmod 20) = rt.tmod 20 := wrap_i64 (by omega) (by omega)
    have w4 : IntKind.wrap .i64 (rt.tmod 20 + 1) = rt.tmod 20 + 1 := wrap_i64 (by omega) (by omega)
    have hr := run6 hY f2 f1 (o := ob.tmod 30 + 1) (r := rt.tmod 20 + 1) (by omega) (by omega) (by omega) (by omega) f3 .mt
    have ho := run_old (o := ob.tmod 30 + 1) (r := rt.tmod 20 + 1) f2 f1 (by omega) (by omega) (by omega) (by omega) f3
    simp [inner_eq, s3, hs, ht, w1, w2, w3, w4, hr, ho, dropped, expR]

end VS
end Go.Proofs.Ytbnhmahkgeaajaa
