/- The values of a law: few; what they read as. -/
import Derived.Test.YtohfbjgcfbkgnaaWRefs
namespace Go.Proofs.Ytohfbjgcfbkgnaa
namespace VS

structure Wr.Fit (w : Wr) : Prop where
  isL : IsL 8 w.dat (w.secs.flatMap bys) w.secs.length
  sec : ∀ s ∈ w.secs, Sec s
theorem Wr.Fit.ok {w : Wr} (h : w.Fit) (hf : w.secs.length ≤ 1000) : w.Ok := ⟨h.isL, h.sec, hf⟩

theorem expL_cons {st : St} {a : AV} {r l : List AV} (h : exp0 st a = some (a, st)) (hr : expL st r = some (l, st)) : expL st (a :: r) = some (a :: l, st) := by
  simp only [expL, h, hr]

/-- Values, as a law has them. -/
structure Vals (a b c d : AV) (ns : List Int) (ss : List (List Int)) (xs : List (Int × Int)) (ws : List Wr) : Prop where
  cl : ∀ st, expL st [a, b, c, d] = some ([a, b, c, d], st)
  i : IsL 1 a (ints ns) ns.length
  s : IsL 8 b (ss.flatMap bys) ss.length
  sec : ∀ s ∈ ss, Sec s
  e : IsL 2 c (xs.flatMap gx) xs.length
  w : IsL 3 d (ws.flatMap gw) ws.length
  fit : ∀ w ∈ ws, w.Fit

theorem exp0_F {st st1 : St} {a b : AV} (h : exp0 st a = some (b, st1)) : st1.F = st.F := by
  unfold exp0 at h
  split at h
  · split at h
    · split at h
      · split at h
        · cases h; rfl
        · cases h
      · cases h
    · cases h
  · split at h
    · cases h; rfl
    · cases h

theorem expL_F : ∀ {l m : List AV} {st st1 : St}, expL st l = some (m, st1) → st1.F = st.F
  | [], m, st, st1, h => by simp only [expL, Option.some.injEq, Prod.mk.injEq] at h; rw [← h.2]
  | a :: r, m, st, st1, h => by
    simp only [expL] at h
    split at h
    · rename_i x s1 h1
      split at h
      · rename_i l s2 h2
        cases h
        exact (expL_F h2).trans (exp0_F h1)
      · cases h
    · cases h

theorem exp1_F {st st1 : St} {a b : AV} (h : exp1 st a = some (b, st1)) : st1.F = st.F := by
  unfold exp1 at h
  split at h
  · split at h
    · rename_i l s1 h1; cases h; exact expL_F h1
    · cases h
  · exact exp0_F h

theorem expA_F : ∀ {l m : List AV} {st st1 : St}, expA st l = some (m, st1) → st1.F = st.F
  | [], m, st, st1, h => by simp only [expA, Option.some.injEq, Prod.mk.injEq] at h; rw [← h.2]
  | a :: r, m, st, st1, h => by
    simp only [expA] at h
    split at h
    · rename_i x s1 h1
      split at h
      · rename_i l s2 h2
        cases h
        exact (expA_F h2).trans (exp1_F h1)
      · cases h
    · cases h

/-- Rows that there are stay as they are. -/
def Rows.Le (s t : St) : Prop := ∀ (i : Nat) (p : Nat × Nat), s.F[i]? = some p → t.F[i]? = some p
theorem Rows.Le.refl (s : St) : Rows.Le s s := fun _ _ h => h
theorem Rows.Le.trans {a b c : St} (h : Rows.Le a b) (k : Rows.Le b c) : Rows.Le a c := fun i p hp => k i p (h i p hp)
theorem App.later {st st' : St} {sz : Nat} {x : AV} {cs : List AV} {n : Nat} (h : App st sz x cs n) (hF : Rows.Le st st') : App st' sz x cs n := by
  cases h with
  | nil => exact .nil
  | full h => exact .full h
  | own h h2 => exact .own h (hF _ _ h2)

theorem kept_F {st st' : St} {o : Option (Res × St)} {r : Res} (h : kept st o = some (r, st')) : Rows.Le st st' := by
  unfold kept at h
  split at h
  · split at h
    · split at h
      · cases h
        intro i p hp
        show (st.F ++ _)[i]? = _
        rw [List.getElem?_append_left (List.getElem?_eq_some_iff.1 hp).1]; exact hp
      · cases h
    · cases h
  · cases h; exact Rows.Le.refl _
  · rw [Option.map_eq_some_iff] at h
    obtain ⟨_, _, h⟩ := h
    cases h; exact Rows.Le.refl _
  · rw [Option.map_eq_some_iff] at h
    obtain ⟨_, _, h⟩ := h
    cases h; exact Rows.Le.refl _
  · cases h

/-- A callee with a memory of its own leaves the caller's rows. -/
theorem call_F {f : FuncId} {s : SFn} {args : List AV} {st st' : St} {r : Res} (hT : T f = some s) (hk : s.kind = .keep) (h : callL T f args st = some (r, st')) : Rows.Le st st' := by
  by_cases hl : args.length = s.np
  · cases hx : expA st args with
    | none =>
      rw [callL_eq] at h
      unfold callOf at h
      rw [hT] at h
      simp [hl, hk, hx] at h
    | some p =>
      obtain ⟨args1, st0⟩ := p
      rw [call_keep hT hk hl hx] at h
      have h1 := kept_F h
      have h2 := expA_F hx
      intro i q hq
      exact h1 i q (by rw [h2]; exact hq)
  · rw [callL_eq] at h
    unfold callOf at h
    rw [hT] at h
    simp [hl] at h

theorem exp0_v (st : St) (x : Value) : exp0 st (.v x) = some (.v x, st) := by cases st; rfl

theorem long53 {w : Wr} (h : w.Fit) (st : St) : callL T 53 [.agg (gw w)] st = some (.ret (.v (.bool (decide (20 < w.secs.length)))), st) := by
  obtain ⟨y, _, hy, hy0, _⟩ := h.isL.exp st
  rw [call_plain T53 rfl rfl (show expA st [.agg (gw w)] = some ([.agg [.v (.int .i64 w.vol), .v (.int .i64 w.start), y]], st) by simp [expA, exp1, gw, exp0_v, hy0, -exp0])]
  have hk := hy.len
  simp [inner_eq, s53, opLoad, hk, dropped, expR]
  omega

theorem few20 {a b c d : AV} {ns : List Int} {ss : List (List Int)} {xs : List (Int × Int)} {ws : List Wr} (v : Vals a b c d ns ss xs ws) :
    ∃ r : Bool, (∀ st, callL T 20 [.agg [a, b, c, d]] st = some (.ret (.v (.bool r)), st)) ∧ (r = true → ns.length ≤ 40 ∧ ss.length ≤ 40 ∧ xs.length ≤ 40 ∧ ws.length ≤ 20 ∧ ∀ w ∈ ws, w.secs.length ≤ 20) := by
  have ha := v.i.len
  have hb := v.s.len
  have hc := v.e.len
  have hd := v.w.len
  have hx : ∀ st, expA st [.agg [a, b, c, d]] = some ([.agg [a, b, c, d]], st) := fun st => by simp [expA, exp1, v.cl st, -expL]
  by_cases g1 : (ns.length : Int) ≤ 40
  · by_cases g2 : (ss.length : Int) ≤ 40
    · by_cases g3 : (xs.length : Int) ≤ 40
      · by_cases g4 : (ws.length : Int) ≤ 20
        · have hh := has83 (p := fun w : Wr => decide (20 < w.secs.length)) (F := 53) (by omega) (flat_wr ws) v.w (fun w hw st => long53 (v.fit w hw) st)
          refine ⟨!(ws.any fun w => decide (20 < w.secs.length)), fun st => ?_, fun hr => ⟨by omega, by omega, by omega, by omega, ?_⟩⟩
          · rw [call_plain T20 rfl rfl (hx st)]
            simp [inner_eq, s20, opLoad, ha, hb, hc, hd, g1, g2, g3, g4, hh, dropped, expR]
          · intro w hw
            rw [Bool.not_eq_true', List.any_eq_false] at hr
            have := hr w hw
            simp only [decide_eq_true_eq] at this
            omega
        · refine ⟨false, fun st => ?_, by simp⟩
          rw [call_plain T20 rfl rfl (hx st)]
          simp [inner_eq, s20, opLoad, ha, hb, hc, hd, g1, g2, g3, g4, dropped, expR]
      · refine ⟨false, fun st => ?_, by simp⟩
        rw [call_plain T20 rfl rfl (hx st)]
        simp [inner_eq, s20, opLoad, ha, hb, hc, g1, g2, g3, dropped, expR]
    · refine ⟨false, fun st => ?_, by simp⟩
      rw [call_plain T20 rfl rfl (hx st)]
      simp [inner_eq, s20, opLoad, ha, hb, g1, g2, dropped, expR]
  · refine ⟨false, fun st => ?_, by simp⟩
    rw [call_plain T20 rfl rfl (hx st)]
    simp [inner_eq, s20, opLoad, ha, g1, dropped, expR]

theorem opLoad_at {st : St} {l : List AV} {b : Bool} (h : st.H = [{ cells := l, fz := b }]) (j : Nat) : opLoad st none (.ptr 0 j) = l[j]? := by
  simp [opLoad, h, partOf]
theorem opLoad_all {st : St} {a b c d : AV} {f : Bool} (h : st.H = [{ cells := [a, b, c, d], fz := f }]) : opLoad st (some 4) (.ptr 0 0) = some (.agg [a, b, c, d]) := by
  simp [opLoad, h, partOf]

theorem App.isB' {st : St} {x : AV} {l : List Int} {n : Nat} (h : App st 1 x (bys l) n) (hn : n = l.length) : IsB x l := by
  subst hn; exact h.isB

/-- Two encodings behind the same bytes. -/
theorem two {N M : FuncId} {x v : AV} {d e : List Int} (hd : Byt d) (he : Byt e)
    (hN : ∀ st, ∃ z st', callL T N [x, v] st = some (.ret z, st') ∧ App st' 1 z (bys d ++ bys e) (d.length + e.length) ∧ st'.H = st.H)
    (hM : ∀ st, ∃ z st', callL T M [x, v] st = some (.ret z, st') ∧ App st' 1 z (bys d ++ bys e) (d.length + e.length) ∧ st'.H = st.H) (st : St) :
    ∃ z st1 u st2, callL T N [x, v] st = some (.ret z, st1) ∧ st1.H = st.H ∧ callL T M [x, v] st1 = some (.ret u, st2) ∧ st2.H = st.H ∧ callL T 12 [z, u] st2 = some (.ret (.v (.bool true)), st2) := by
  obtain ⟨z, st1, h1, hA, hH⟩ := hN st
  obtain ⟨u, st2, h2, hB, hH2⟩ := hM st1
  rw [← bys_append] at hA hB
  refine ⟨z, st1, u, st2, h1, hH, h2, hH2.trans hH, ?_⟩
  rw [bytesEqual' (hA.isB' (by simp)) (hB.isB' (by simp)) (hd.append he) (hd.append he)]
  simp

/-- What is put stands behind the bytes. -/
theorem behind {N : FuncId} {s : SFn} (hT : T N = some s) (hk : s.kind = .keep) {x o v : AV} {d e : List Int} (hx : IsB x d) (ho : IsB o d) (hd : Byt d) (he : Byt e) (hdl : d.length ≤ 1000) (hel : e.length ≤ 1000000)
    (hN : ∀ (x : AV) (cs : List AV) (m : Nat) (st : St), IsL 1 x cs m → m ≤ 1000 → ∃ z st', callL T N [x, v] st = some (.ret z, st') ∧ App st' 1 z (cs ++ bys e) (m + e.length) ∧ st'.H = st.H) (st : St) :
    ∃ z st1 o' st2 u st3 p st4, callL T N [x, v] st = some (.ret z, st1) ∧ st1.H = st.H ∧ callL T 27 [o] st1 = some (.ret o', st2) ∧ st2.H = st.H ∧ callL T N [.v (.slice none 0 0), v] st2 = some (.ret u, st3) ∧ st3.H = st.H ∧
      opAppend st3 1 1 o' u = some (p, st4) ∧ st4.H = st.H ∧ callL T 12 [z, p] st4 = some (.ret (.v (.bool true)), st4) := by
  obtain ⟨z, st1, h1, hA, hH1⟩ := hN x _ _ st hx.isL hdl
  obtain ⟨o', st2, h2, hB, hH2⟩ := clone ho.isL (by omega) st1
  obtain ⟨u, st3, h3, hC, hH3⟩ := hN _ _ _ st2 .nil (by omega)
  rw [List.nil_append, Nat.zero_add] at hC
  obtain ⟨p, st4, h4, hD, hH4⟩ := app_append (bytes := 1) (hB.later (call_F hT hk h3)) hC.isL (by omega) (by simp only [most47]; omega) (by omega)
  have e1 := hH2.trans hH1
  have e2 := hH3.trans e1
  refine ⟨z, st1, o', st2, u, st3, p, st4, h1, hH1, h2, e1, h3, e2, h4, hH4.trans e2, ?_⟩
  rw [← bys_append] at hA hD
  rw [bytesEqual' (hA.isB' (by simp)) (hD.isB' (by simp)) (hd.append he) (hd.append he)]
  simp

end VS
end Go.Proofs.Ytohfbjgcfbkgnaa
