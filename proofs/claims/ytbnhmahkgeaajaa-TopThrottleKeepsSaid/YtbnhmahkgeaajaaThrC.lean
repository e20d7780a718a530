/- Backlog, Age, Clone, advance, Progress. -/
import Derived.Test.YtbnhmahkgeaajaaThrB
namespace Go.Proofs.Ytbnhmahkgeaajaa
namespace VS

theorem MR.mk {M : AV} {l : List (Int × Int)} (h : MR M l) (st : St) : MK st M l := by
  cases h with
  | nil => exact .nil
  | sl => exact .sl (by simp)

theorem MR.exp {M : AV} {l : List (Int × Int)} (h : MR M l) (st : St) (o r t b : Int) : exp1 st (.agg (th o r t b M)) = some (.agg (th o r t b M), st) := by
  cases h <;> simp [exp1, th]

theorem MR.no_hs {M : AV} {l : List (Int × Int)} (h : MR M l) (o r t b : Int) : hsOf (.agg (th o r t b M)) = [] := by
  cases h <;> simp [hsOf, hsOf0, th]

theorem backlog10 {st : St} {M : AV} {l : List (Int × Int)} (hM : MR M l) {o r t b : Int} (h : Ok o r t b l) : callL T 10 [.agg (th o r t b M)] st = some (.ret (.v (.int .i64 b)), st) := by
  rw [call_pure T10 rfl rfl (show expA st _ = some ([.agg (th o r t b M)], st) by simp only [expA, hM.exp])]
  have hc := fun s => check16 (hM.mk s) h
  unfold th at *
  simp [inner_eq, s10, St.mt, opLoad, hc, pured, expR, scalR, scal1]

theorem opn_lt {c : Int} : ∀ {l : List (Int × Int)}, c < lastT l → 0 ≤ c → opn c l < l.length := by
  intro l h h0
  cases hl : l.getLast? with
  | none => simp [lastT, hl] at h; omega
  | some m =>
    have hm : m ∈ l := List.mem_of_getLast? hl
    simp only [lastT, hl] at h
    exact List.findIdx_lt_length_of_exists ⟨m, hm, by simpa using h⟩

/-- How long the oldest write that is not confirmed has been waiting. -/
def ageS (now b : Int) (l : List (Int × Int)) : Int := if b = 0 then 0 else match l[opn (lastT l - b) l]? with
  | some m => if now < m.1 then 0 else max 0 (now - m.1)
  | none => 0

theorem age11 {st : St} {M : AV} {l : List (Int × Int)} (hM : MR M l) {o r t b now : Int} (h : Ok o r t b l) (n1 : 0 ≤ now) (n2 : now ≤ 1073741824) (hpos : ∀ m ∈ l, 0 ≤ m.1 ∧ m.1 ≤ 1073741824) :
    callL T 11 [.agg (th o r t b M), .v (.int .i64 now)] st = some (.ret (.v (.int .i64 (ageS now b l))), st) := by
  rw [call_pure T11 rfl rfl (show expA st _ = some ([.agg (th o r t b M), .v (.int .i64 now)], st) by simp only [expA, hM.exp, exp1_v])]
  have hl := h.len
  have hlast := h.last
  have hb1 := h.b1
  have hb2 := h.b2
  have hc := fun s => check16 (hM.mk s) h
  have hcon := fun s => confirmed18 (hM.mk s) (by omega) o r t b (wrap_i64 (by omega) (by omega))
  have hop := fun s => open17 (hM.mk s) (by omega) o r t b (lastT l - b)
  by_cases hb : b = 0
  · subst hb
    unfold th at *
    simp [inner_eq, s11, St.mt, opLoad, opStore, hc, ageS, pured, expR, scalR, scal1]
  · have hlt : opn (lastT l - b) l < l.length := opn_lt (by omega) (by omega)
    generalize hj : opn (lastT l - b) l = j at *
    have hm : l[j]? = some l[j] := by simp [hlt]
    have hq : (mx l)[j * 2]? = some (.v (.int .i64 l[j].1)) := by simpa [gx] using (mx_flat l).fld j 0 hlt (by omega)
    obtain ⟨p1, p2⟩ := hpos l[j] (List.getElem_mem hlt)
    have hage : ageS now b l = if now < l[j].1 then 0 else max 0 (now - l[j].1) := by
      unfold ageS
      rw [if_neg hb, hj, hm]
    rw [hage]
    have hw : IntKind.wrap .i64 (now - l[j].1) = now - l[j].1 := wrap_i64 (by omega) (by omega)
    have hmax : ∀ x : Int, max 0 x = if 0 < x then x else 0 := fun x => by omega
    cases hM with
    | nil => simp at hlt
    | sl =>
      unfold th at *
      by_cases c1 : now < l[j].1
      · simp [inner_eq, s11, St.mt, opLoad, opStore, hc, hb, hcon, hop, opLoad_ep, hlt, hq, c1, pured, expR, scalR, scal1]
      · simp [inner_eq, s11, St.mt, opLoad, opStore, hc, hb, hcon, hop, opLoad_ep, hlt, hq, c1, hw, hmax, pured, expR, scalR, scal1]

/-- What Clone makes of marks. -/
inductive CL (n : Nat) : List (Int × Int) → AV → List HB → Prop where
  | nil : CL n [] (.v (.slice none 0 0)) []
  | full : CL n [] (.sl [] 0 .full) []
  | hs {l : List (Int × Int)} : l ≠ [] → CL n l (.hs n 0 l.length 2) [{ cells := mx l, fz := false }]

theorem clone25 {st : St} {M : AV} {l : List (Int × Int)} (hM : MR M l) (hlen : l.length ≤ 1000000) : ∃ M2 J, callL T 25 [M] st = some (.ret M2, { H := st.H ++ J, F := st.F }) ∧ CL st.H.length l M2 J := by
  cases hM with
  | nil =>
    refine ⟨_, [], ?_, .nil⟩
    rw [call_fresh T25 rfl rfl (show expA st _ = some ([.v (.slice none 0 0)], st) from rfl)]
    simp [inner_eq, s25, freshed, expR]
  | sl =>
    have hx : expA st [.sl (mx l) l.length .ro] = some ([.sl (mx l) l.length .ro], st) := rfl
    by_cases h0 : l = []
    · subst h0
      refine ⟨_, [], ?_, .full⟩
      rw [call_fresh T25 rfl rfl hx]
      simp [inner_eq, s25, freshed, opAppend, srcOf, mx]
    · refine ⟨_, _, ?_, .hs h0⟩
      have hne : 0 < l.length := List.length_pos_iff.2 h0
      have hm47 : l.length * 16 ≤ most47 := by unfold most47; omega
      have hmax : l.length ≤ maxLen := by unfold maxLen; omega
      have hmx := mx_len l
      rw [call_fresh T25 rfl rfl hx]
      simp [inner_eq, s25, freshed, opAppend, srcOf, hmx, hm47, hmax, h0, mx_isV, St.mt, hne]

theorem CL.mk {l : List (Int × Int)} {M : AV} {J : List HB} {H : List HB} {F : List (Nat × Nat)} (h : CL H.length l M J) : MK { H := H ++ J, F := F } M l := by
  cases h with
  | nil => exact .nil
  | full => exact .sl (l := []) (by simp)
  | hs h => exact .hs (hb := { cells := mx l, fz := false }) (by simp) (by simp [mx_len]) (by simp)

theorem CL.len {n : Nat} {l : List (Int × Int)} {M : AV} {J : List HB} (h : CL n l M J) (st : St) : lenK (some M) st = some (.ret (.v (.int .i64 l.length)), st) := by
  cases h with
  | nil => simp
  | full => simp
  | hs h => cases st; rfl

theorem cells_v (x : Value) : (AV.v x).cells = [.v x] := rfl
theorem tup_v (x : Value) : (AV.v x).isTup = false := rfl
theorem cells_agg (l : List AV) : (AV.agg l).cells = l := rfl
theorem tup_agg (l : List AV) : (AV.agg l).isTup = false := rfl
theorem cells_hs (b q n z : Nat) : (AV.hs b q n z).cells = [.hs b q n z] := rfl
theorem tup_hs (b q n z : Nat) : (AV.hs b q n z).isTup = false := rfl
theorem cells_sl (cs : List AV) (n : Nat) (t : Tag) : (AV.sl cs n t).cells = [.sl cs n t] := rfl
theorem tup_sl (cs : List AV) (n : Nat) (t : Tag) : (AV.sl cs n t).isTup = false := rfl
theorem CL.cells {n : Nat} {l : List (Int × Int)} {M : AV} {J : List HB} (h : CL n l M J) : M.cells = [M] ∧ M.isTup = false := by cases h <;> exact ⟨rfl, rfl⟩
theorem MR.cells {M : AV} {l : List (Int × Int)} (h : MR M l) : M.cells = [M] ∧ M.isTup = false := by cases h <;> exact ⟨rfl, rfl⟩

theorem advance19 {M : AV} {l : List (Int × Int)} (hM : MR M l) {o r t b now : Int} (h : Ok o r t b l) (n1 : t ≤ now) (n2 : now ≤ 1073741824) (x0 x1 : HB) :
    ∃ M2 J, callL T 19 [.ptr 2 0, .v (.int .i64 now)] { H := [x0, x1, { cells := th o r t b M, fz := false }], F := [] } = some (.ret (.v (.int .i64 0)), { H := [x0, x1, { cells := th o r now b M2, fz := false }] ++ J, F := [] }) ∧ CL 3 l M2 J := by
  obtain ⟨M2, J, hcl, hCL⟩ := clone25 (st := { H := [x0, x1, { cells := th o r now b M, fz := false }], F := [] }) hM (by have := h.len; omega)
  refine ⟨M2, J, ?_, hCL⟩
  have hc := fun s => check16 (hM.mk s) h
  have hbt := between15 now t 1073741824
  simp only [n1, n2, and_self, decide_true] at hbt
  rw [call_whole T19 (.inl rfl) rfl]
  unfold th at *
  obtain ⟨e1, e2⟩ := hCL.cells
  simp [inner_eq, s19, opLoad, opStore, hc, hbt, hcl, e1, e2, -AV.cells, -AV.isTup, cells_v, tup_v]

/-- The marks that are left when so many sectors are confirmed. -/
def cutP (tot : Int) (l : List (Int × Int)) : List (Int × Int) := l.drop (min (opn tot l) (l.length - 1))

theorem MR.no_hs3 {M : AV} {l : List (Int × Int)} (h : MR M l) (o r t b : Int) (x y : Value) : ([.agg (th o r t b M), .v x, .v y] : List AV).flatMap hsOf = [] := by
  cases h <;> simp [hsOf, hsOf0, th]

theorem MK.res2 {st : St} {M : AV} {l : List (Int × Int)} (h : MK st M l) (o r t b : Int) (e : Value) : ∃ M', expR st (.tup [.agg (th o r t b M), .v e]) = some (.tup [.agg (th o r t b M'), .v e]) ∧ MR M' l := by
  obtain ⟨M', st', h1, h2⟩ := h.expT o r t b
  exact ⟨M', by simp [expR, expA, h1], h2⟩
theorem MK.res3 {st : St} {M : AV} {l : List (Int × Int)} (h : MK st M l) (o r t b : Int) (d e : Value) : ∃ M', expR st (.tup [.agg (th o r t b M), .v d, .v e]) = some (.tup [.agg (th o r t b M'), .v d, .v e]) ∧ MR M' l := by
  obtain ⟨M', st', h1, h2⟩ := h.expT o r t b
  exact ⟨M', by simp [expR, expA, h1], h2⟩

theorem cutP_nil (tot : Int) : cutP tot [] = [] := by simp [cutP]

theorem progress12 {M : AV} {l : List (Int × Int)} (hM : MR M l) {o r t b now tot : Int} (h : Ok o r t b l) (n1 : t ≤ now) (n2 : now ≤ 1073741824) (c1 : lastT l - b ≤ tot) (c2 : tot ≤ lastT l) (st : St) :
    ∃ M2, callL T 12 [.agg (th o r t b M), .v (.int .i64 now), .v (.int .i64 tot)] st = some (.ret (.tup [.agg (th o r now (lastT l - tot) M2), .v (.int .i64 0)]), st) ∧ MR M2 (cutP tot l) := by
  have hl := h.len
  have hlast := h.last
  have hb1 := h.b1
  have hb2 := h.b2
  obtain ⟨M2, J, hadv, hCL⟩ := advance19 hM h n1 n2 { cells := th o r t b M, fz := false } { cells := [.v (.int .i64 0), .v (.int .i64 0), .v (.int .i64 0), .v (.int .i64 0), .v (.slice none 0 0)], fz := false }
  have hhs := hM.no_hs3 o r t b (.int .i64 now) (.int .i64 tot)
  have hx : expA st [.agg (th o r t b M), .v (.int .i64 now), .v (.int .i64 tot)] = some ([.agg (th o r t b M), .v (.int .i64 now), .v (.int .i64 tot)], st) := by simp only [expA, hM.exp, exp1_v]
  have hK : ∀ (x y z : HB) F, MK { H := x :: y :: z :: J, F := F } M2 l := fun x y z F => by
    have := CL.mk (H := [x, y, z]) (F := F) hCL
    exact this
  have htot := fun x y z F b => total20 (hK x y z F) (by omega) o r now b
  have hcon := fun x y z F => confirmed18 (hK x y z F) (by omega) o r now b (wrap_i64 (by omega) (by omega))
  have hop := fun x y z F b => open17 (hK x y z F) (by omega) o r now b tot
  have hbt := between15 tot (lastT l - b) (lastT l)
  simp only [c1, c2, and_self, decide_true] at hbt
  have hw : IntKind.wrap .i64 (lastT l - tot) = lastT l - tot := wrap_i64 (by omega) (by omega)
  have hlen := hCL.len
  obtain ⟨e1, e2⟩ := hCL.cells
  obtain ⟨f1, f2⟩ := hM.cells
  have fin : (∃ M4 st4, inner (runL T) s12 [.agg (th o r t b M), .v (.int .i64 now), .v (.int .i64 tot)] .mt = some (.ret (.tup [.agg (th o r now (lastT l - tot) M4), .v (.int .i64 0)]), st4) ∧ MK st4 M4 (cutP tot l)) →
      ∃ M2, callL T 12 [.agg (th o r t b M), .v (.int .i64 now), .v (.int .i64 tot)] st = some (.ret (.tup [.agg (th o r now (lastT l - tot) M2), .v (.int .i64 0)]), st) ∧ MR M2 (cutP tot l) := by
    rintro ⟨M4, st4, h1, h2⟩
    obtain ⟨M', h3, h4⟩ := h2.res2 o r now (lastT l - tot) (.int .i64 0)
    refine ⟨M', ?_, h4⟩
    rw [call_pure T12 rfl rfl hx, h1]
    simp only [pured, h3]
    rw [if_pos (by rw [hhs]; simp)]
  refine fin ?_
  by_cases h0 : l = []
  · refine ⟨M2, { H := [{ cells := th o r t b M, fz := false }, { cells := th o r now (lastT l - tot) M2, fz := false }, { cells := th o r now (lastT l - tot) M2, fz := false }] ++ J, F := [] }, ?_, ?_⟩
    · have hlen0 : l.length = 0 := by simp [h0]
      unfold th at *
      simp [inner_eq, s12, St.mt, opLoad, opStore, hadv, hbt, hlen, hlen0, htot, hcon, hw, e1, e2, f1, f2, -AV.cells, -AV.isTup, cells_v, tup_v, cells_agg, tup_agg]
    · have := hK { cells := th o r t b M, fz := false } { cells := th o r now (lastT l - tot) M2, fz := false } { cells := th o r now (lastT l - tot) M2, fz := false } []
      subst h0
      rw [cutP_nil]
      exact this
  · cases hCL with
    | nil => exact absurd rfl h0
    | full => exact absurd rfl h0
    | hs _ =>
      have hpos : 0 < l.length := List.length_pos_iff.2 h0
      have hpos' : (0 : Int) < l.length := by omega
      have hle := opn_le tot l
      have hw1 : IntKind.wrap .i64 ((l.length : Int) - 1) = ((l.length - 1 : Nat) : Int) := by rw [wrap_i64 (by omega) (by omega)]; omega
      let k := min (opn tot l) (l.length - 1)
      have hmin : (if ((l.length - 1 : Nat) : Int) < (opn tot l : Int) then ((l.length - 1 : Nat) : Int) else (opn tot l : Int)) = (k : Int) := by simp only [k]; split <;> omega
      have hmin2 : (if l.length - 1 < opn tot l then ((l.length - 1 : Nat) : Int) else (opn tot l : Int)) = (k : Int) := by simp only [k]; split <;> omega
      have hk : k ≤ l.length := by simp only [k]; omega
      refine ⟨.hs 3 (k * 2) (l.length - k) 2, { H := [{ cells := th o r t b M, fz := false }, { cells := th o r now (lastT l - tot) (.hs 3 (k * 2) (l.length - k) 2), fz := false }, { cells := th o r now (lastT l - tot) (.hs 3 (k * 2) (l.length - k) 2), fz := false }, { cells := mx l, fz := false }], F := [] }, ?_, ?_⟩
      · have hmk : ((k : Int) ≤ l.length) := by omega
        unfold th at *
        simp [inner_eq, s12, St.mt, opLoad, opStore, hadv, hbt, hlen, hpos, htot, hcon, hop, hw, hw1, hmin2, hk, opSlice, f1, f2, -AV.cells, -AV.isTup, cells_v, tup_v, cells_agg, tup_agg, cells_hs, tup_hs]
      · have e : cutP tot l = l.drop k := rfl
        have el : l.length - k = (l.drop k).length := by simp
        rw [e, el]
        exact .hs (hb := { cells := mx l, fz := false }) rfl (by rw [mx_len, List.length_drop, Nat.sub_mul]; have := Nat.mul_le_mul_right 2 hk; omega) (mx_drop l k)

end VS
end Go.Proofs.Ytbnhmahkgeaajaa
