/- Throttles in order: New, Check, Backlog, Age. -/
import Derived.Test.YtbnhmahkgeaajaaThrA
namespace Go.Proofs.Ytbnhmahkgeaajaa
namespace VS

/-- Marks that follow upon one another. -/
def asc (t : Int) : Int × Int → List (Int × Int) → Prop
  | _, [] => True
  | p, m :: r => p.1 + 1 ≤ m.1 ∧ m.1 ≤ t ∧ p.2 + 1 ≤ m.2 ∧ m.2 ≤ 1073741824 ∧ asc t m r

/-- A throttle in order. -/
structure Ok (o r t b : Int) (l : List (Int × Int)) : Prop where
  o1 : 1 ≤ o
  o2 : o ≤ 1073741824
  r1 : 1 ≤ r
  r2 : r ≤ 4096
  t1 : 0 ≤ t
  t2 : t ≤ 1073741824
  len : l.length ≤ 4096
  asc : asc t (-1, 0) l
  b1 : 0 ≤ b
  b2 : b ≤ lastT l
  fst : 1 < l.length → opn (lastT l - b) l = 0

theorem asc_last {t : Int} : ∀ {l : List (Int × Int)} {p : Int × Int}, asc t p l → 0 ≤ p.2 → 0 ≤ lastT l ∧ lastT l ≤ 1073741824 ∧ (l ≠ [] → p.2 < lastT l)
  | [], p, _, h0 => ⟨by simp [lastT], by simp [lastT], fun h => absurd rfl h⟩
  | [m], p, h, h0 => by
    obtain ⟨_, _, h3, h4, _⟩ := h
    simp only [lastT, List.getLast?_singleton]
    exact ⟨by omega, h4, fun _ => by omega⟩
  | m :: k :: r, p, h, h0 => by
    obtain ⟨_, _, h3, h4, h5⟩ := h
    obtain ⟨i1, i2, i3⟩ := asc_last (l := k :: r) h5 (by omega)
    have : lastT (m :: k :: r) = lastT (k :: r) := by simp [lastT, List.getLast?_cons_cons]
    rw [this]
    have := i3 (by simp)
    exact ⟨i1, i2, fun _ => by omega⟩

theorem Ok.last {o r t b : Int} {l : List (Int × Int)} (h : Ok o r t b l) : 0 ≤ lastT l ∧ lastT l ≤ 1073741824 := ⟨(asc_last h.asc (by decide)).1, (asc_last h.asc (by decide)).2.1⟩

theorem new9 {o r : Int} (o1 : 1 ≤ o) (o2 : o ≤ 1073741824) (r1 : 1 ≤ r) (r2 : r ≤ 4096) (st : St) :
    callL T 9 [.v (.int .i64 o), .v (.int .i64 r)] st = some (.ret (.tup [.agg (th o r 0 0 (.v (.slice none 0 0))), .v (.int .i64 0)]), st) := by
  rw [call_pure T9 rfl rfl (show expA st _ = some ([.v (.int .i64 o), .v (.int .i64 r)], st) from rfl)]
  have h1 := between15 o 1 1073741824
  have h2 := between15 r 1 4096
  simp only [o1, o2, r1, r2, and_self, decide_true] at h1 h2
  simp [inner_eq, s9, St.mt, opStore, h1, h2, pured, expR, expA, exp1, scalR, scal1, AV.isV, th]

theorem set_app {α : Type} {l m : List α} {i : Nat} {x : α} (h : i < l.length) : (l ++ m).set i x = l.set i x ++ m := List.set_append_left _ _ h

theorem chkLoop16 {M : AV} {l : List (Int × Int)} {o r t b : Int} {tg : Tag} (hlen : l.length ≤ 1000000) (ht2 : t ≤ 1073741824) (x1 x2 : HB) : ∀ (k i : Nat) (p : Int × Int) (J : List HB) (F : List (Nat × Nat)), i + k = l.length → asc t p (l.drop i) → -1 ≤ p.1 → p.1 ≤ 1073741824 → 0 ≤ p.2 → p.2 ≤ 1073741824 →
    ∃ fr' y J', runL T (.loop [1, 3, 6, 33, 34, 35] s16b0) { s := [(1, .ptr 0 0), (3, .ptr 1 0), (6, .ptr 3 0), (33, .sl (mx l) l.length tg), (34, .v (.int .i64 l.length)), (35, .v (.int .i64 i))], d := [] } { H := { cells := th o r t b M, fz := false } :: x1 :: x2 :: { cells := gx p, fz := false } :: J, F := F } = some (.ex 0, fr', { H := { cells := th o r t b M, fz := false } :: x1 :: x2 :: y :: J', F := F }) ∧
      fr'.only [1, 3] = { s := [(1, .ptr 0 0), (3, .ptr 1 0)], d := [] }
  | 0, i, p, J, F, hi, _, _, _, _, _ => by
    refine ⟨?s, { cells := gx p, fz := false }, J, ?a, ?b⟩
    case a =>
      rw [runL_loop]
      have : ¬ (i : Int) < l.length := by omega
      simp [s16b0, this]
      rfl
    case b => simp
  | k + 1, i, p, J, F, hi, ha, p1, p2, p3, p4 => by
    have hlt : i < l.length := by omega
    have hd : l.drop i = l[i] :: l.drop (i + 1) := List.drop_eq_getElem_cons hlt
    have hat := (mx_flat l).at_ i hlt
    have hcs := mx_len l
    have h2 : (i : Int) < l.length := by omega
    have hw : IntKind.wrap .i64 ((i : Int) + 1) = ((i + 1 : Nat) : Int) := by rw [wrap_i64 (by omega) (by omega)]; omega
    have hle : i * 2 + 2 ≤ (mx l).length := by omega
    rw [hd] at ha
    generalize hx : l[i] = m at *
    obtain ⟨a1, a2, a3, a4, a5⟩ := ha
    have hw1 : IntKind.wrap .i64 (p.1 + 1) = p.1 + 1 := wrap_i64 (by omega) (by omega)
    have hw2 : IntKind.wrap .i64 (p.2 + 1) = p.2 + 1 := wrap_i64 (by omega) (by omega)
    have b1 := between15 m.1 (p.1 + 1) t
    have b2 := between15 m.2 (p.2 + 1) 1073741824
    simp only [a1, a2, a3, a4, and_self, decide_true] at b1 b2
    obtain ⟨fr', y, J', ih1, ih2⟩ := chkLoop16 (M := M) (o := o) (r := r) (t := t) (b := b) (tg := tg) hlen ht2 x1 x2 k (i + 1) m (J ++ [{ cells := gx m, fz := false }]) F (by omega) a5 (by omega) (by omega) (by omega) (by omega)
    refine ⟨fr', y, J', ?_, ih2⟩
    rw [← ih1, runL_loop]
    generalize hL : SCode.loop [1, 3, 6, 33, 34, 35] s16b0 = L
    unfold th gx
    unfold gx at hat
    simp [s16b0, h2, opLoad_ep, hle, hat, opStore, opLoad, b1, b2, hw1, hw2, hw]
    subst hL
    refine loop_from ?_
    simp

theorem check16 {st : St} {M : AV} {l : List (Int × Int)} (hM : MK st M l) {o r t b : Int} (h : Ok o r t b l) : callL T 16 [.agg (th o r t b M)] st = some (.ret (.v (.int .i64 0)), st) := by
  obtain ⟨M', st', he, hR⟩ := hM.expT o r t b
  rw [call_pure T16 rfl rfl (show expA st _ = some ([.agg (th o r t b M')], st') by simp only [expA, he])]
  have hl := h.len
  have hlast := h.last
  have hK : ∀ s : St, MK s M' l := fun s => by
    cases hR with
    | nil => exact .nil
    | sl => exact .sl (by simp)
  have hnew := new9 h.o1 h.o2 h.r1 h.r2
  have hb1 := between15 t 0 1073741824
  have h1 := h.t1
  have h2 := h.t2
  have h3 := h.b1
  have h4 := h.b2
  simp only [h1, h2, and_self, decide_true] at hb1
  have htot := fun s => total20 (hK s) (by omega) o r t b
  have hcon := fun s => confirmed18 (hK s) (by omega) o r t b (wrap_i64 (by omega) (by omega))
  have hop := fun s => open17 (hK s) (by omega) o r t b (lastT l - b)
  have hb2 := between15 b 0 (lastT l)
  simp only [h3, h4, and_self, decide_true] at hb2
  have hlen := hR.len
  have loop : ∀ x1 x2 F, ∃ fr' y J', runL T (.loop [1, 3, 6, 33, 34, 35] s16b0) { s := [(1, .ptr 0 0), (3, .ptr 1 0), (6, .ptr 3 0), (33, M'), (34, .v (.int .i64 l.length)), (35, .v (.int .i64 0))], d := [] } { H := [{ cells := th o r t b M', fz := false }, x1, x2, { cells := gx (-1, 0), fz := false }], F := F } = some (.ex 0, fr', { H := { cells := th o r t b M', fz := false } :: x1 :: x2 :: y :: J', F := F }) ∧
      fr'.only [1, 3] = { s := [(1, .ptr 0 0), (3, .ptr 1 0)], d := [] } := by
    intro x1 x2 F
    cases hR with
    | nil =>
      refine ⟨?s, { cells := gx (-1, 0), fz := false }, [], ?a, ?b⟩
      case a =>
        rw [runL_loop]
        simp [s16b0]
        rfl
      case b => simp
    | sl => exact chkLoop16 (by omega) h2 x1 x2 l.length 0 (-1, 0) [] F (by omega) (by simpa using h.asc) (by omega) (by omega) (by omega) (by omega)
  obtain ⟨fr', y, J', r1, r2⟩ := loop { cells := th o r t b M', fz := false } { cells := th o r 0 0 (.v (.slice none 0 0)), fz := false } []
  have hmany : ¬ (4096 : Int) < l.length := by omega
  unfold th gx at *
  simp [inner_eq, s16, St.mt, opLoad, opStore, hnew, hb1, hlen, hmany]
  rw [loop_use r1 _ (by simp)]
  have hfst := h.fst
  by_cases h5 : 1 < l.length
  · have h5' : (1 : Int) < l.length := by omega
    simp [r2, opLoad, htot, hb2, hlen, h5', hcon, hop, hfst h5, pured, expR, scalR, scal1]
  · have h5' : ¬ (1 : Int) < l.length := by omega
    simp [r2, opLoad, htot, hb2, hlen, h5', pured, expR, scalR, scal1]

end VS
end Go.Proofs.Ytbnhmahkgeaajaa
