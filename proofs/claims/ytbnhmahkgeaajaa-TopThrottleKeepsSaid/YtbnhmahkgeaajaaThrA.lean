/- Throttles: what they are here; the functions that only look at them. -/
import Derived.Test.YtbnhmahkgeaajaaThrFns
import Derived.Test.YtbnhmahkgeaajaaVsSimp
namespace Go.Proofs.Ytbnhmahkgeaajaa
namespace VS

/-- A list of rows of cells, laid flat. -/
structure Flat {α : Type} (g : α → List AV) (c : Nat) (l : List α) (cs : List AV) : Prop where
  len : cs.length = l.length * c
  at_ : ∀ (i : Nat) (h : i < l.length), (cs.drop (i * c)).take c = g l[i]
  fld : ∀ (i j : Nat) (h : i < l.length), j < c → cs[i * c + j]? = (g l[i])[j]?

theorem flat_of {α : Type} {g : α → List AV} {c : Nat} : ∀ {l : List α}, (∀ x ∈ l, (g x).length = c) → Flat g c l (l.flatMap g)
  | [], _ => ⟨by simp, by simp, by simp⟩
  | x :: r, h => by
    have ih := flat_of (l := r) fun y hy => h y (by simp [hy])
    have hx := h x (by simp)
    rw [List.flatMap_cons]
    refine ⟨by rw [List.length_append, ih.len, hx, List.length_cons, Nat.add_mul]; omega, fun i hi => ?_, fun i j hi hj => ?_⟩
    · cases i with
      | zero => simp [hx]
      | succ i =>
        have : (i + 1) * c = (g x).length + i * c := by rw [hx, Nat.add_mul]; omega
        rw [this, List.drop_append, List.drop_of_length_le (by omega), Nat.add_sub_cancel_left, List.nil_append]
        exact ih.at_ i (by simpa using hi)
    · cases i with
      | zero => rw [Nat.zero_mul, Nat.zero_add, List.getElem?_append_left (by omega)]; rfl
      | succ i =>
        have : (i + 1) * c + j = (g x).length + (i * c + j) := by rw [hx, Nat.add_mul]; omega
        rw [this, List.getElem?_append_right (by omega), Nat.add_sub_cancel_left]
        exact ih.fld i j (by simpa using hi) hj

theorem opLoad_ep (st : St) (cs : List AV) (off : Nat) (k : Option Nat) : opLoad st k (.ep cs off) = partOf cs off k := by cases st; rfl

/-- A mark. -/
def gx (p : Int × Int) : List AV := [.v (.int .i64 p.1), .v (.int .i64 p.2)]
def mx (l : List (Int × Int)) : List AV := l.flatMap gx
theorem mx_flat (l : List (Int × Int)) : Flat gx 2 l (mx l) := flat_of fun _ _ => rfl
theorem mx_len (l : List (Int × Int)) : (mx l).length = l.length * 2 := (mx_flat l).len
theorem cleanL_mx : ∀ (l : List (Int × Int)), cleanL (mx l) = some (mx l)
  | [] => rfl
  | p :: r => by
    have := cleanL_mx r
    unfold mx at this ⊢
    simp [List.flatMap_cons, gx, cleanL, this]
theorem mx_append (l m : List (Int × Int)) : mx (l ++ m) = mx l ++ mx m := by simp [mx]
theorem mx_drop : ∀ (l : List (Int × Int)) (i : Nat), (mx l).drop (i * 2) = mx (l.drop i)
  | [], i => by simp [mx]
  | p :: r, 0 => by simp
  | p :: r, i + 1 => by
    have h : (i + 1) * 2 = (gx p).length + i * 2 := by simp [gx]; omega
    have : mx (p :: r) = gx p ++ mx r := by simp [mx]
    rw [this, h, List.drop_append, List.drop_of_length_le (by omega), Nat.add_sub_cancel_left, List.nil_append, mx_drop r i]
    rfl
theorem mx_isV : ∀ (l : List (Int × Int)), (mx l).all AV.isV = true
  | [] => rfl
  | p :: r => by
    have := mx_isV r
    unfold mx at this ⊢
    simp only [List.flatMap_cons, List.all_append, this, Bool.and_true]
    rfl

/-- Marks in a memory: nil, a slice, a slice of a block of one's own. -/
inductive MK (st : St) : AV → List (Int × Int) → Prop where
  | nil : MK st (.v (.slice none 0 0)) []
  | sl {l : List (Int × Int)} {t : Tag} : t ≠ .ptrs → MK st (.sl (mx l) l.length t) l
  | hs {b q : Nat} {l : List (Int × Int)} {hb : HB} : st.H[b]? = some hb → q + l.length * 2 = hb.cells.length → hb.cells.drop q = mx l → MK st (.hs b q l.length 2) l

/-- Marks that went out of a memory. -/
inductive MR : AV → List (Int × Int) → Prop where
  | nil : MR (.v (.slice none 0 0)) []
  | sl {l : List (Int × Int)} : MR (.sl (mx l) l.length .ro) l

theorem MK.exp {st : St} {M : AV} {l : List (Int × Int)} (h : MK st M l) : ∃ M' st', exp0 st M = some (M', st') ∧ MR M' l ∧ ((∃ b q n z, M = .hs b q n z) ∨ st' = st) := by
  cases h with
  | nil => exact ⟨_, st, rfl, .nil, .inr rfl⟩
  | sl ht => exact ⟨_, st, by simp [ht], .sl, .inr rfl⟩
  | @hs b q l hb h1 h2 h3 =>
    refine ⟨.sl (mx l) l.length .ro, st.freeze b hb, ?_, .sl, .inl ⟨_, _, _, _, rfl⟩⟩
    have : (mx l).take (l.length * 2) = mx l := List.take_of_length_le (by rw [mx_len]; omega)
    simp [h1, h2, h3, this, cleanL_mx]

/-- A throttle's cells. -/
def th (o r t b : Int) (M : AV) : List AV := [.v (.int .i64 o), .v (.int .i64 r), .v (.int .i64 t), .v (.int .i64 b), M]

theorem MK.expT {st : St} {M : AV} {l : List (Int × Int)} (h : MK st M l) (o r t b : Int) : ∃ M' st', exp1 st (.agg (th o r t b M)) = some (.agg (th o r t b M'), st') ∧ MR M' l := by
  obtain ⟨M', st', h1, h2, _⟩ := h.exp
  exact ⟨M', st', by simp [exp1, th, -exp0, h1, exp0.eq_2], h2⟩

theorem MR.len {M : AV} {l : List (Int × Int)} (h : MR M l) (st : St) : lenK (some M) st = some (.ret (.v (.int .i64 l.length)), st) := by
  cases h <;> simp

theorem get_app {α : Type} {l m : List α} {i : Nat} {x : α} (h : l[i]? = some x) : (l ++ m)[i]? = some x := by
  rw [List.getElem?_append_left (List.getElem?_eq_some_iff.1 h).1]; exact h

theorem clo24 {st : St} {b : Nat} {c : Int} {fz : Bool} (hb : st.H[b]? = some { cells := [.v (.int .i64 c)], fz := fz }) (m : Int × Int) :
    callL T 24 [.agg (gx m), .ptr b 0] st = some (.ret (.v (.bool (decide (c < m.2)))), { H := st.H ++ [{ cells := gx m, fz := false }], F := st.F }) := by
  rw [call_whole T24 (.inl rfl) rfl]
  simp [inner_eq, s24, opLoad, gx, get_app hb]

/-- The index of the first mark behind a number. -/
def opn (c : Int) (l : List (Int × Int)) : Nat := l.findIdx fun m => decide (c < m.2)

theorem opn_cons (c : Int) (x : Int × Int) (r : List (Int × Int)) : opn c (x :: r) = if c < x.2 then 0 else opn c r + 1 := by
  unfold opn
  rw [List.findIdx_cons]
  by_cases h : c < x.2 <;> simp [h]

theorem idxLoop26 {l : List (Int × Int)} {t : Tag} {b : Nat} {c : Int} {fz : Bool} (hlen : l.length ≤ 1000000) : ∀ (k i : Nat) (st : St), i + k = l.length → st.H[b]? = some { cells := [.v (.int .i64 c)], fz := fz } →
    (opn c (l.drop i) < (l.drop i).length → ∃ J, runL T (.loop [0, 1, 7, 8] s26b0) { s := [(0, .sl (mx l) l.length t), (1, .fn 24 [.ptr b 0]), (7, .v (.int .i64 l.length)), (8, .v (.int .i64 i))], d := [] } st = some (.rt, { s := [(4, .v (.int .i64 (i + opn c (l.drop i) : Nat)))], d := [] }, { H := st.H ++ J, F := st.F })) ∧
    (¬ opn c (l.drop i) < (l.drop i).length → ∃ fr' J, runL T (.loop [0, 1, 7, 8] s26b0) { s := [(0, .sl (mx l) l.length t), (1, .fn 24 [.ptr b 0]), (7, .v (.int .i64 l.length)), (8, .v (.int .i64 i))], d := [] } st = some (.ex 0, fr', { H := st.H ++ J, F := st.F }) ∧ fr'.only [] = { s := [], d := [] })
  | 0, i, st, hi, _ => by
    have hd : l.drop i = [] := List.drop_eq_nil_of_le (by omega)
    refine ⟨fun h => by simp [hd] at h, fun _ => ⟨?s, [], ?a, ?b⟩⟩
    case a =>
      rw [runL_loop]
      have : ¬ (i : Int) < l.length := by omega
      simp [s26b0, this]
      rfl
    case b => simp
  | k + 1, i, st, hi, hb => by
    have hlt : i < l.length := by omega
    have hd : l.drop i = l[i] :: l.drop (i + 1) := List.drop_eq_getElem_cons hlt
    have hat := (mx_flat l).at_ i hlt
    have hcs := mx_len l
    have h2 : (i : Int) < l.length := by omega
    have hw : IntKind.wrap .i64 ((i : Int) + 1) = ((i + 1 : Nat) : Int) := by rw [wrap_i64 (by omega) (by omega)]; omega
    have hle : i * 2 + 2 ≤ (mx l).length := by omega
    have hcall := clo24 hb l[i]
    rw [hd]
    by_cases hc : c < l[i].2
    · have h0 : opn c (l[i] :: l.drop (i + 1)) = 0 := by rw [opn_cons, if_pos hc]
      rw [h0]
      refine ⟨fun _ => ⟨[{ cells := gx l[i], fz := false }], ?_⟩, fun h => by rw [List.length_cons] at h; omega⟩
      rw [runL_loop]
      simp [s26b0, h2, opLoad_ep, hle, hat, hcall, hc]
    · have h0 : opn c (l[i] :: l.drop (i + 1)) = opn c (l.drop (i + 1)) + 1 := by rw [opn_cons, if_neg hc]
      obtain ⟨ih1, ih2⟩ := idxLoop26 hlen k (i + 1) { H := st.H ++ [{ cells := gx l[i], fz := false }], F := st.F } (by omega) (get_app hb)
      have step : runL T (.loop [0, 1, 7, 8] s26b0) { s := [(0, .sl (mx l) l.length t), (1, .fn 24 [.ptr b 0]), (7, .v (.int .i64 l.length)), (8, .v (.int .i64 i))], d := [] } st =
          runL T (.loop [0, 1, 7, 8] s26b0) { s := [(0, .sl (mx l) l.length t), (1, .fn 24 [.ptr b 0]), (7, .v (.int .i64 l.length)), (8, .v (.int .i64 (i + 1 : Nat)))], d := [] } { H := st.H ++ [{ cells := gx l[i], fz := false }], F := st.F } := by
        rw [runL_loop]
        generalize hL : SCode.loop [0, 1, 7, 8] s26b0 = L
        simp [s26b0, h2, opLoad_ep, hle, hat, hcall, hc, hw]
        subst hL
        refine loop_from ?_
        simp
      rw [step, h0]
      rw [List.length_cons]
      refine ⟨fun h => ?_, fun h => ?_⟩
      · obtain ⟨J, h⟩ := ih1 (Nat.lt_of_succ_lt_succ h)
        have e : i + 1 + opn c (l.drop (i + 1)) = i + (opn c (l.drop (i + 1)) + 1) := by omega
        rw [e] at h
        exact ⟨{ cells := gx l[i], fz := false } :: J, by rw [h]; simp⟩
      · obtain ⟨fr', J, h, h2⟩ := ih2 fun hh => h (Nat.succ_lt_succ hh)
        exact ⟨fr', { cells := gx l[i], fz := false } :: J, by rw [h]; simp, h2⟩

theorem idx26 {M : AV} {l : List (Int × Int)} (hM : MR M l) (hlen : l.length ≤ 1000000) {st : St} {b : Nat} {c : Int} {fz : Bool} (hb : st.H[b]? = some { cells := [.v (.int .i64 c)], fz := fz }) :
    ∃ J, callL T 26 [M, .fn 24 [.ptr b 0]] st = some (.ret (.v (.int .i64 (if opn c l < l.length then (opn c l : Int) else -1))), { H := st.H ++ J, F := st.F }) := by
  rw [call_whole T26 (.inl rfl) rfl]
  cases hM with
  | nil =>
    have h : ∃ fr' J, runL T (.loop [0, 1, 7, 8] s26b0) { s := [(0, .v (.slice none 0 0)), (1, .fn 24 [.ptr b 0]), (7, .v (.int .i64 0)), (8, .v (.int .i64 0))], d := [] } st = some (.ex 0, fr', { H := st.H ++ J, F := st.F }) ∧ fr'.only [] = { s := [], d := [] } := by
      refine ⟨?s, [], ?a, ?b⟩
      case a =>
        rw [runL_loop]
        simp [s26b0]
        rfl
      case b => simp
    obtain ⟨fr', J, h, h3⟩ := h
    refine ⟨J, ?_⟩
    simp [inner_eq, s26]
    rw [loop_use h _ (by simp)]
    simp [h3, opn]
  | sl =>
    obtain ⟨h1, h2⟩ := idxLoop26 (t := .ro) hlen l.length 0 st (by omega) hb
    simp only [List.drop_zero, Nat.zero_add] at h1 h2
    by_cases hlt : opn c l < l.length
    · obtain ⟨J, h⟩ := h1 hlt
      refine ⟨J, ?_⟩
      simp [inner_eq, s26]
      rw [loop_use h _ (by simp)]
      simp [hlt]
    · obtain ⟨fr', J, h, h3⟩ := h2 hlt
      refine ⟨J, ?_⟩
      simp [inner_eq, s26]
      rw [loop_use h _ (by simp)]
      simp [hlt, h3]

theorem opn_le (c : Int) (l : List (Int × Int)) : opn c l ≤ l.length := List.findIdx_le_length

theorem first23 {M : AV} {l : List (Int × Int)} (hM : MR M l) (hlen : l.length ≤ 1000000) (o r t b : Int) {st : St} {p : Nat} {c : Int} {fz : Bool} (hb : st.H[p]? = some { cells := [.v (.int .i64 c)], fz := fz }) :
    ∃ J, callL T 23 [.agg (th o r t b M), .fn 24 [.ptr p 0]] st = some (.ret (.v (.int .i64 (opn c l : Nat))), { H := st.H ++ J, F := st.F }) := by
  obtain ⟨J, h⟩ := idx26 hM hlen (st := { H := st.H ++ [{ cells := th o r t b M, fz := false }], F := st.F }) (get_app hb)
  have hl := hM.len
  have hle := opn_le c l
  refine ⟨{ cells := th o r t b M, fz := false } :: J, ?_⟩
  rw [call_whole T23 (.inl rfl) rfl]
  unfold th at h ⊢
  by_cases hlt : opn c l < l.length
  · rw [if_pos hlt] at h
    simp [inner_eq, s23, opLoad, h]
  · rw [if_neg hlt] at h
    have : opn c l = l.length := by omega
    rw [this]
    simp [inner_eq, s23, opLoad, h, hl]

theorem open17 {st : St} {M : AV} {l : List (Int × Int)} (hM : MK st M l) (hlen : l.length ≤ 1000000) (o r t b c : Int) :
    callL T 17 [.agg (th o r t b M), .v (.int .i64 c)] st = some (.ret (.v (.int .i64 (opn c l : Nat))), st) := by
  obtain ⟨M', st', he, hR⟩ := hM.expT o r t b
  rw [call_pure T17 rfl rfl (show expA st _ = some ([.agg (th o r t b M'), .v (.int .i64 c)], st') by simp only [expA, he, exp1_v])]
  obtain ⟨J, h⟩ := first23 hR hlen o r t b (st := { H := [{ cells := th o r t b M', fz := false }, { cells := [.v (.int .i64 c)], fz := false }], F := [] }) (p := 1) (c := c) (fz := false) rfl
  unfold th at h ⊢
  simp [inner_eq, s17, opLoad, St.mt, h, pured, expR, scalR, scal1]

def lastT (l : List (Int × Int)) : Int := match l.getLast? with
  | some m => m.2
  | none => 0

theorem total20 {st : St} {M : AV} {l : List (Int × Int)} (hM : MK st M l) (hlen : l.length ≤ 1000000) (o r t b : Int) :
    callL T 20 [.agg (th o r t b M)] st = some (.ret (.v (.int .i64 (lastT l))), st) := by
  obtain ⟨M', st', he, hR⟩ := hM.expT o r t b
  rw [call_pure T20 rfl rfl (show expA st _ = some ([.agg (th o r t b M')], st') by simp only [expA, he])]
  unfold th
  cases hR with
  | nil => simp [inner_eq, s20, opLoad, St.mt, pured, expR, scalR, scal1, lastT]
  | sl =>
    by_cases h0 : l.length = 0
    · have : l = [] := List.eq_nil_of_length_eq_zero h0
      subst this
      simp [inner_eq, s20, opLoad, St.mt, pured, expR, scalR, scal1, lastT]
    · have h1 : 0 < l.length := by omega
      have hw : IntKind.wrap .i64 ((l.length : Int) - 1) = ((l.length - 1 : Nat) : Int) := by rw [wrap_i64 (by omega) (by omega)]; omega
      have hq : (mx l)[(l.length - 1) * 2 + 1]? = some (.v (.int .i64 (l[l.length - 1]'(by omega)).2)) := by simpa [gx] using (mx_flat l).fld (l.length - 1) 1 (by omega) (by omega)
      have hg : lastT l = (l[l.length - 1]'(by omega)).2 := by
        unfold lastT
        rw [List.getLast?_eq_getElem?, List.getElem?_eq_getElem (by omega)]
      rw [hg]
      have hlt : l.length - 1 < l.length := by omega
      simp [inner_eq, s20, opLoad_ep, St.mt, pured, expR, scalR, scal1, hw, h1, hq, hlt, opLoad]

theorem between15 (n a b : Int) (st : St) : callL T 15 [.v (.int .i64 n), .v (.int .i64 a), .v (.int .i64 b)] st = some (.ret (.v (.bool (decide (a ≤ n ∧ n ≤ b)))), st) := by
  rw [call_pure T15 rfl rfl (show expA st _ = some ([.v (.int .i64 n), .v (.int .i64 a), .v (.int .i64 b)], st) from rfl)]
  by_cases h : a ≤ n <;> simp [inner_eq, s15, h, pured, expR, scalR, scal1]

theorem bound21 {st : St} {M : AV} {l : List (Int × Int)} (hM : MK st M l) (o r t b : Int) (hw : IntKind.wrap .i64 (r * o) = r * o) :
    callL T 21 [.agg (th o r t b M)] st = some (.ret (.v (.int .i64 (r * o))), st) := by
  obtain ⟨M', st', he, hR⟩ := hM.expT o r t b
  rw [call_pure T21 rfl rfl (show expA st _ = some ([.agg (th o r t b M')], st') by simp only [expA, he])]
  unfold th
  simp [inner_eq, s21, opLoad, St.mt, pured, expR, scalR, scal1, hw]

theorem confirmed18 {st : St} {M : AV} {l : List (Int × Int)} (hM : MK st M l) (hlen : l.length ≤ 1000000) (o r t b : Int) (hw : IntKind.wrap .i64 (lastT l - b) = lastT l - b) :
    callL T 18 [.agg (th o r t b M)] st = some (.ret (.v (.int .i64 (lastT l - b))), st) := by
  obtain ⟨M', st', he, hR⟩ := hM.expT o r t b
  rw [call_pure T18 rfl rfl (show expA st _ = some ([.agg (th o r t b M')], st') by simp only [expA, he])]
  have hK : MK { H := [{ cells := th o r t b M', fz := false }], F := [] } M' l := by
    cases hR with
    | nil => exact .nil
    | sl => exact .sl (by simp)
  have ht := total20 hK hlen o r t b
  unfold th at ht ⊢
  simp [inner_eq, s18, opLoad, St.mt, pured, expR, scalR, scal1, ht, hw]

end VS
end Go.Proofs.Ytbnhmahkgeaajaa
