/- The plain law of the throttle: what a run comes to, and how old a write can become. -/
import Derived.Test.YtbnhmahkgeaajaaThrD
namespace Go.Proofs.Ytbnhmahkgeaajaa
namespace VS

/-- The writes that wait are asked for, one after another. -/
def loopW (o r now : Int) : List Int → Int → Int → List (Int × Int) → Bool → List Int × Int × Int × List (Int × Int) × Bool
  | [], t, b, l, free => ([], t, b, l, free)
  | s :: w, t, b, l, free =>
    if r * o < s then loopW o r now w t b l false
    else if r * o < b + s then (s :: w, now, b, l, false)
    else loopW o r now w now (b + s) (admS now (lastT l + s) (lastT l - b) l) free

structure Sm where
  w : List Int
  t : Int
  b : Int
  l : List (Int × Int)
  free : Bool
  old : Int

def Sm.conf (S : Sm) : Int := lastT S.l - S.b
def addW (ws : List Int) (n : Nat) (w : List Int) : List Int := match ws[n]? with
  | some x => if 0 < x then w ++ [x] else w
  | none => w

/-- What is confirmed in a tick. -/
def Sm.done (r : Int) (S : Sm) : Int := if S.b < r then S.b else r

def tickS (o r : Int) (ws : List Int) (n : Nat) (S : Sm) : Sm :=
  let c := S.conf + S.done r
  let q := loopW o r n (addW ws n S.w) n (lastT S.l - c) (cutP c S.l) S.free
  { w := q.1, t := q.2.1, b := q.2.2.1, l := q.2.2.2.1, free := q.2.2.2.2, old := max (max S.old (ageS n S.b S.l)) (ageS n q.2.2.1 q.2.2.2.1) }

def runS (o r : Int) (ws : List Int) : Nat → Nat → Sm → Sm
  | 0, _, S => S
  | k + 1, n, S => runS o r ws k (n + 1) (tickS o r ws n S)

theorem asc_weak {t : Int} {p q : Int × Int} : ∀ {l : List (Int × Int)}, asc t p l → q.1 ≤ p.1 → q.2 ≤ p.2 → asc t q l
  | [], _, _, _ => trivial
  | _ :: _, ⟨h1, h2, h3, h4, h5⟩, k1, k2 => ⟨by omega, h2, by omega, h4, h5⟩

theorem asc_time {t T : Int} (ht : t ≤ T) : ∀ {l : List (Int × Int)} {p : Int × Int}, asc t p l → asc T p l
  | [], _, _ => trivial
  | _ :: _, _, ⟨h1, h2, h3, h4, h5⟩ => ⟨h1, by omega, h3, h4, asc_time ht h5⟩

theorem asc_drop {t : Int} : ∀ {l : List (Int × Int)} {p : Int × Int} (k : Nat), asc t p l → asc t p (l.drop k)
  | [], _, k, _ => by simp [asc]
  | _ :: _, _, 0, h => h
  | _ :: r, p, k + 1, ⟨h1, h2, h3, h4, h5⟩ => by
    rw [List.drop_succ_cons]
    exact asc_drop k (asc_weak h5 (by omega) (by omega))

theorem asc_mem {t : Int} : ∀ {l : List (Int × Int)} {p : Int × Int}, asc t p l → ∀ m ∈ l, p.1 < m.1 ∧ m.1 ≤ t ∧ p.2 < m.2 ∧ m.2 ≤ 1073741824
  | [], _, _, m, hm => by cases hm
  | x :: r, p, ⟨h1, h2, h3, h4, h5⟩, m, hm => by
    rcases List.mem_cons.1 hm with rfl | hm
    · exact ⟨by omega, h2, by omega, h4⟩
    · have := asc_mem h5 m hm
      exact ⟨by omega, this.2.1, by omega, this.2.2.2⟩

theorem asc_len {t : Int} : ∀ {l : List (Int × Int)} {p : Int × Int}, asc t p l → p.1 ≤ t → (l.length : Int) ≤ t - p.1
  | [], p, _, h => by simp; omega
  | x :: r, p, ⟨h1, h2, h3, h4, h5⟩, _ => by
    have := asc_len h5 h2
    rw [List.length_cons]
    omega

theorem asc_snoc {t T now tot : Int} (ht : t ≤ T) (hn : now ≤ T) (htot : tot ≤ 1073741824) : ∀ {l : List (Int × Int)} {p : Int × Int}, asc t p l → (∀ m ∈ l, m.1 < now ∧ m.2 < tot) → p.1 < now → p.2 < tot → asc T p (l ++ [(now, tot)])
  | [], p, _, _, h1, h2 => ⟨by show p.1 + 1 ≤ now; omega, hn, by show p.2 + 1 ≤ tot; omega, htot, trivial⟩
  | x :: r, p, ⟨h1, h2, h3, h4, h5⟩, hm, _, _ => by
    obtain ⟨m1, m2⟩ := hm x (by simp)
    exact ⟨h1, by omega, h3, h4, asc_snoc ht hn htot h5 (fun m hm' => hm m (by simp [hm'])) m1 m2⟩

theorem asc_last_up {t tot : Int} (htot : tot ≤ 1073741824) : ∀ {l : List (Int × Int)} {m p : Int × Int}, asc t p (l ++ [m]) → m.2 ≤ tot → asc t p (l ++ [(m.1, tot)])
  | [], m, p, ⟨h1, h2, h3, h4, h5⟩, hm => ⟨h1, h2, by show p.2 + 1 ≤ tot; omega, htot, trivial⟩
  | x :: r, m, p, ⟨h1, h2, h3, h4, h5⟩, hm => ⟨h1, h2, h3, h4, asc_last_up htot (l := r) h5 hm⟩

theorem asc_le_last {t : Int} : ∀ {l : List (Int × Int)} {p : Int × Int}, asc t p l → ∀ m ∈ l, m.2 ≤ lastT l ∧ ∀ z, l.getLast? = some z → m.1 ≤ z.1
  | [], _, _, m, hm => by cases hm
  | [x], _, _, m, hm => by
    have : m = x := by simpa using hm
    subst this
    simp [lastT]
  | x :: y :: r, p, ⟨h1, h2, h3, h4, h5⟩, m, hm => by
    have e : lastT (x :: y :: r) = lastT (y :: r) := by simp [lastT, List.getLast?_cons_cons]
    have e2 : (x :: y :: r).getLast? = (y :: r).getLast? := List.getLast?_cons_cons
    rw [e, e2]
    have hy := asc_le_last h5 y (by simp)
    rcases List.mem_cons.1 hm with rfl | hm
    · have h6 := h5.1
      have h7 := h5.2.2.1
      exact ⟨by omega, fun z hz => by have := hy.2 z hz; omega⟩
    · exact asc_le_last h5 m hm

theorem lastT_snoc (l : List (Int × Int)) (m : Int × Int) : lastT (l ++ [m]) = m.2 := by simp [lastT]

theorem lastT_drop {l : List (Int × Int)} {k : Nat} (h : k < l.length) : lastT (l.drop k) = lastT l := by
  unfold lastT
  rw [List.getLast?_drop, if_neg (by omega)]

theorem opn_drop (c : Int) : ∀ (l : List (Int × Int)), opn c (l.drop (opn c l)) = 0
  | [] => rfl
  | x :: r => by
    rw [opn_cons]
    by_cases h : c < x.2
    · rw [if_pos h, List.drop_zero, opn_cons, if_pos h]
    · rw [if_neg h, List.drop_succ_cons]; exact opn_drop c r

theorem opn_zero {c : Int} {m : Int × Int} {l : List (Int × Int)} (h : opn c (m :: l) = 0) : c < m.2 := by
  rw [opn_cons] at h
  by_cases hc : c < m.2
  · exact hc
  · rw [if_neg hc] at h; omega

/-- How far each mark is from being confirmed. -/
def Far (o r now c : Int) (l : List (Int × Int)) : Prop := ∀ m ∈ l, m.2 ≤ c ∨ m.2 - c ≤ r * (o - now + m.1)

theorem age_le {o r now t b : Int} {l : List (Int × Int)} (h : Ok o r t b l) (hf : Far o r (now - 1) (lastT l - b) l) : 0 ≤ ageS now b l ∧ ageS now b l ≤ o := by
  have h1 := h.o1
  have h2 := h.r1
  have hb1 := h.b1
  have hb2 := h.b2
  unfold ageS
  by_cases hb : b = 0
  · rw [if_pos hb]; omega
  · rw [if_neg hb]
    have hlt : opn (lastT l - b) l < l.length := opn_lt (by omega) (by omega)
    rw [List.getElem?_eq_getElem hlt]
    simp only
    have hm : l[opn (lastT l - b) l] ∈ l := List.getElem_mem hlt
    have hgt : lastT l - b < (l[opn (lastT l - b) l]).2 := by
      exact of_decide_eq_true (List.findIdx_getElem (w := hlt))
    split
    · omega
    · rcases hf _ hm with h3 | h3
      · omega
      · have h4 : 0 < r * (o - (now - 1) + (l[opn (lastT l - b) l]).1) := by omega
        have h5 : 0 < o - (now - 1) + (l[opn (lastT l - b) l]).1 := by
          by_cases h6 : 0 < o - (now - 1) + (l[opn (lastT l - b) l]).1
          · exact h6
          · exfalso
            have := Int.mul_nonpos_of_nonneg_of_nonpos (a := r) (by omega) (Int.not_lt.1 h6)
            omega
        omega

/-- The confirmation in a tick. -/
theorem cut_ok {o r t b now d : Int} {l : List (Int × Int)} (h : Ok o r t b l) (n1 : t ≤ now) (n2 : now ≤ 1073741824) (hd : d = if b < r then b else r) (hf : Far o r (now - 1) (lastT l - b) l) (hb : b ≤ r * o) :
    Ok o r now (lastT l - (lastT l - b + d)) (cutP (lastT l - b + d) l) ∧ lastT (cutP (lastT l - b + d) l) = lastT l ∧ Far o r now (lastT l - b + d) (cutP (lastT l - b + d) l) ∧ lastT l - (lastT l - b + d) ≤ r * o := by
  have hb1 := h.b1
  have hb2 := h.b2
  have hr := h.r1
  have hd0 : 0 ≤ d ∧ d ≤ b := by subst hd; split <;> omega
  have ht := h.t1
  have hlast : lastT (cutP (lastT l - b + d) l) = lastT l := by
    unfold cutP
    by_cases h0 : l = []
    · subst h0; simp
    · have : 0 < l.length := List.length_pos_iff.2 h0
      exact lastT_drop (by omega)
  refine ⟨⟨h.o1, h.o2, h.r1, h.r2, by omega, n2, ?_, asc_time n1 (asc_drop _ h.asc), by omega, by rw [hlast]; omega, fun h1 => ?_⟩, hlast, fun m hm => ?_, by omega⟩
  · have := h.len
    unfold cutP
    rw [List.length_drop]; omega
  · rw [hlast]
    have e : lastT l - (lastT l - (lastT l - b + d)) = lastT l - b + d := by omega
    rw [e]
    unfold cutP at h1 ⊢
    rw [List.length_drop] at h1
    have : min (opn (lastT l - b + d) l) (l.length - 1) = opn (lastT l - b + d) l := by omega
    rw [this]
    exact opn_drop _ _
  · have hml : m ∈ l := List.mem_of_mem_drop hm
    have hmt : m.2 ≤ lastT l := (asc_le_last h.asc m hml).1
    rcases hf m hml with h3 | h3
    · exact .inl (by omega)
    · by_cases hc : b < r
      · have : d = b := by rw [hd, if_pos hc]
        exact .inl (by omega)
      · have : d = r := by rw [hd, if_neg hc]
        have e : r * (o - (now - 1) + m.1) = r * (o - now + m.1) + r := by
          have : o - (now - 1) + m.1 = (o - now + m.1) + 1 := by omega
          rw [this, Int.mul_add, Int.mul_one]
        exact .inr (by omega)

/-- An admission. -/
theorem adm_ok {o r t b now s : Int} {l : List (Int × Int)} (h : Ok o r t b l) (n1 : t ≤ now) (n2 : now ≤ 4000) (hs : 1 ≤ s) (hb : b + s ≤ r * o) (htot : lastT l + s ≤ 1073741824) (hf : Far o r now (lastT l - b) l) :
    Ok o r now (b + s) (admS now (lastT l + s) (lastT l - b) l) ∧ lastT (admS now (lastT l + s) (lastT l - b) l) = lastT l + s ∧ Far o r now (lastT l - b) (admS now (lastT l + s) (lastT l - b) l) := by
  have hb1 := h.b1
  have hb2 := h.b2
  have ht := h.t1
  have hlast := h.last
  have base : ∀ l1 : List (Int × Int), asc now (-1, 0) (l1 ++ [(now, lastT l + s)]) → (∀ m ∈ l1, m ∈ l) → (∀ x r, l1 = x :: r → lastT l - b < x.2) →
      Ok o r now (b + s) (l1 ++ [(now, lastT l + s)]) ∧ lastT (l1 ++ [(now, lastT l + s)]) = lastT l + s ∧ Far o r now (lastT l - b) (l1 ++ [(now, lastT l + s)]) := by
    intro l1 ha hm hx
    have hl := lastT_snoc l1 (now, lastT l + s)
    have hlen := asc_len ha (by show (-1 : Int) ≤ now; omega)
    refine ⟨⟨h.o1, h.o2, h.r1, h.r2, by omega, by omega, by omega, ha, by omega, by rw [hl]; show b + s ≤ lastT l + s; omega, fun h1 => ?_⟩, hl, fun m hmm => ?_⟩
    · rw [hl]
      have e : lastT l + s - (b + s) = lastT l - b := by omega
      show opn (lastT l + s - (b + s)) _ = 0
      rw [e]
      cases l1 with
      | nil => simp at h1
      | cons x q => rw [List.cons_append, opn_cons, if_pos (hx x q rfl)]
    · rcases List.mem_append.1 hmm with hm1 | hm1
      · exact hf m (hm m hm1)
      · have : m = (now, lastT l + s) := by simpa using hm1
        subst this
        refine .inr ?_
        show lastT l + s - (lastT l - b) ≤ r * (o - now + now)
        have e : o - now + now = o := by omega
        rw [e]; omega
  unfold admS
  by_cases hlt : (l.getLast?).map (·.1) = some now
  · rw [if_pos hlt]
    rw [Option.map_eq_some_iff] at hlt
    obtain ⟨m, hm, rfl⟩ := hlt
    obtain ⟨l0, rfl⟩ := List.getLast?_eq_some_iff.1 hm
    rw [List.dropLast_concat]
    have hle : m.2 ≤ lastT (l0 ++ [m]) + s := by rw [lastT_snoc]; omega
    refine base l0 (asc_last_up htot (asc_time n1 h.asc) hle) (fun x hx => by simp [hx]) fun x q hx => ?_
    subst hx
    have := h.fst (by simp)
    exact opn_zero this
  · rw [if_neg hlt]
    have hmem : ∀ m ∈ l, m.1 < now ∧ m.2 < lastT l + s := fun m hm => by
      obtain ⟨h1, h2⟩ := asc_le_last h.asc m hm
      refine ⟨?_, by omega⟩
      cases hg : l.getLast? with
      | none => rw [List.getLast?_eq_none_iff] at hg; subst hg; cases hm
      | some z =>
        have h3 := h2 z hg
        have h4 := (asc_mem h.asc z (List.mem_of_getLast? hg)).2.1
        have h5 : z.1 ≠ now := fun he => hlt (by rw [hg]; simp [he])
        omega
    refine base (l.drop (opn (lastT l - b) l)) (asc_snoc n1 (Int.le_refl _) htot (asc_drop _ h.asc) (fun m hm => hmem m (List.mem_of_mem_drop hm)) (by show (-1 : Int) < now; omega) (by show (0 : Int) < lastT l + s; omega)) (fun m hm => List.mem_of_mem_drop hm) fun x q hx => ?_
    have := opn_drop (lastT l - b) l
    rw [hx] at this
    exact opn_zero this

theorem Ok.time {o r t b now : Int} {l : List (Int × Int)} (h : Ok o r t b l) (n1 : t ≤ now) (n2 : now ≤ 1073741824) : Ok o r now b l :=
  ⟨h.o1, h.o2, h.r1, h.r2, by have := h.t1; omega, n2, h.len, asc_time n1 h.asc, h.b1, h.b2, h.fst⟩

/-- What holds while the writes are asked for. -/
structure WOk (o r now : Int) (w : List Int) (t b : Int) (l : List (Int × Int)) : Prop where
  ok : Ok o r t b l
  tn : t ≤ now
  far : Far o r now (lastT l - b) l
  bb : b ≤ r * o
  sum : lastT l + w.sum ≤ 2400
  el : ∀ x ∈ w, 1 ≤ x ∧ x ≤ 60

theorem WOk.tail {o r now s t b : Int} {w : List Int} {l : List (Int × Int)} (h : WOk o r now (s :: w) t b l) : WOk o r now w t b l := by
  have := h.el s (by simp)
  have hs := h.sum
  rw [List.sum_cons] at hs
  exact ⟨h.ok, h.tn, h.far, h.bb, by omega, fun x hx => h.el x (by simp [hx])⟩

theorem sum_nonneg {w : List Int} (h : ∀ x ∈ w, 1 ≤ x ∧ x ≤ 60) : 0 ≤ w.sum := by
  induction w with
  | nil => simp
  | cons x r ih =>
    have := h x (by simp)
    have := ih fun y hy => h y (by simp [hy])
    rw [List.sum_cons]; omega

theorem WOk.adm {o r now s t b : Int} {w : List Int} {l : List (Int × Int)} (h : WOk o r now (s :: w) t b l) (n2 : now ≤ 4000) (hb : b + s ≤ r * o) : WOk o r now w now (b + s) (admS now (lastT l + s) (lastT l - b) l) := by
  have h1 := h.el s (by simp)
  have hs := h.sum
  rw [List.sum_cons] at hs
  have h0 := sum_nonneg (w := w) fun x hx => h.el x (by simp [hx])
  obtain ⟨a1, a2, a3⟩ := adm_ok h.ok h.tn n2 h1.1 hb (by omega) h.far
  refine ⟨a1, Int.le_refl _, ?_, hb, by rw [a2]; omega, fun x hx => h.el x (by simp [hx])⟩
  rw [a2]
  have e : lastT l + s - (b + s) = lastT l - b := by omega
  rw [e]; exact a3

theorem loopW_ok {o r now : Int} (n2 : now ≤ 4000) : ∀ (w : List Int) (t b : Int) (l : List (Int × Int)) (free : Bool), WOk o r now w t b l →
    WOk o r now (loopW o r now w t b l free).1 (loopW o r now w t b l free).2.1 (loopW o r now w t b l free).2.2.1 (loopW o r now w t b l free).2.2.2.1 ∧
    lastT (loopW o r now w t b l free).2.2.2.1 - (loopW o r now w t b l free).2.2.1 = lastT l - b ∧ lastT (loopW o r now w t b l free).2.2.2.1 + (loopW o r now w t b l free).1.sum ≤ lastT l + w.sum
  | [], t, b, l, free, h => ⟨h, rfl, Int.le_refl _⟩
  | s :: w, t, b, l, free, h => by
    have hs1 := h.el s (by simp)
    rw [loopW]
    by_cases c1 : r * o < s
    · rw [if_pos c1]
      obtain ⟨i1, i2, i3⟩ := loopW_ok n2 w t b l false h.tail
      exact ⟨i1, i2, by rw [List.sum_cons]; omega⟩
    · rw [if_neg c1]
      by_cases c2 : r * o < b + s
      · rw [if_pos c2]
        exact ⟨⟨h.ok.time (now := now) h.tn (by omega), Int.le_refl _, h.far, h.bb, h.sum, h.el⟩, rfl, Int.le_refl _⟩
      · rw [if_neg c2]
        have h2 := h.adm n2 (by omega)
        obtain ⟨i1, i2, i3⟩ := loopW_ok n2 w now (b + s) _ free h2
        obtain ⟨_, a2, _⟩ := adm_ok h.ok h.tn n2 hs1.1 (by omega) (by have hs := h.sum; rw [List.sum_cons] at hs; have h0 := sum_nonneg (w := w) fun x hx => h.el x (by simp [hx]); omega) h.far
        rw [a2] at i2 i3
        exact ⟨i1, by omega, by rw [List.sum_cons]; omega⟩

/-- What holds when a tick begins. -/
structure JOk (o r : Int) (ws : List Int) (n : Nat) (S : Sm) : Prop where
  ok : Ok o r S.t S.b S.l
  tn : S.t ≤ n
  far : Far o r (n - 1) S.conf S.l
  bb : S.b ≤ r * o
  sum : lastT S.l + S.w.sum + (ws.drop n).sum ≤ 2400
  el : ∀ x ∈ S.w, 1 ≤ x ∧ x ≤ 60
  old : 0 ≤ S.old ∧ S.old ≤ o

theorem addW_ok {ws : List Int} (hws : ∀ x ∈ ws, 0 ≤ x ∧ x ≤ 60) (n : Nat) {w : List Int} (hw : ∀ x ∈ w, 1 ≤ x ∧ x ≤ 60) : (∀ x ∈ addW ws n w, 1 ≤ x ∧ x ≤ 60) ∧ (addW ws n w).sum + (ws.drop (n + 1)).sum = w.sum + (ws.drop n).sum := by
  unfold addW
  by_cases hn : n < ws.length
  · rw [List.getElem?_eq_getElem hn]
    have hx := hws ws[n] (List.getElem_mem hn)
    have hd : ws.drop n = ws[n] :: ws.drop (n + 1) := List.drop_eq_getElem_cons hn
    rw [hd, List.sum_cons]
    simp only
    by_cases h0 : 0 < ws[n]
    · rw [if_pos h0]
      refine ⟨fun x hx' => ?_, by rw [List.sum_append]; simp; omega⟩
      rcases List.mem_append.1 hx' with h | h
      · exact hw x h
      · have : x = ws[n] := by simpa using h
        subst this; omega
    · rw [if_neg h0]
      exact ⟨hw, by omega⟩
  · rw [List.getElem?_eq_none (by omega)]
    rw [List.drop_eq_nil_of_le (by omega), List.drop_eq_nil_of_le (by omega)]
    exact ⟨hw, rfl⟩

/-- The state behind the confirmation in a tick. -/
theorem JOk.mid {o r : Int} {ws : List Int} {n : Nat} {S : Sm} (h : JOk o r ws n S) (hws : ∀ x ∈ ws, 0 ≤ x ∧ x ≤ 60) (hn : n ≤ 4000) :
    WOk o r n (addW ws n S.w) n (lastT S.l - (S.conf + S.done r)) (cutP (S.conf + S.done r) S.l) ∧ lastT (cutP (S.conf + S.done r) S.l) = lastT S.l := by
  obtain ⟨a1, a2, a3, a4⟩ := cut_ok h.ok h.tn (by omega) (d := S.done r) rfl h.far h.bb
  obtain ⟨b1, b2⟩ := addW_ok hws n h.el
  have hs := h.sum
  have hd0 : 0 ≤ (ws.drop (n + 1)).sum := by
    have : ∀ v : List Int, (∀ x ∈ v, 0 ≤ x ∧ x ≤ 60) → 0 ≤ v.sum := by
      intro v hv
      induction v with
      | nil => simp
      | cons x r ih =>
        have := hv x (by simp)
        have := ih fun y hy => hv y (by simp [hy])
        rw [List.sum_cons]; omega
    exact this _ fun x hx => hws x (List.mem_of_mem_drop hx)
  refine ⟨⟨a1, Int.le_refl _, ?_, a4, ?_, b1⟩, a2⟩
  · show Far o r n (lastT (cutP (S.conf + S.done r) S.l) - (lastT S.l - (S.conf + S.done r))) _
    have e : lastT (cutP (S.conf + S.done r) S.l) - (lastT S.l - (S.conf + S.done r)) = S.conf + S.done r := by
      have := a2
      unfold Sm.conf
      rw [this]; omega
    rw [e]; exact a3
  · have := a2
    unfold Sm.conf
    rw [this]; omega

theorem JOk.next {o r : Int} {ws : List Int} {n : Nat} {S : Sm} (h : JOk o r ws n S) (hws : ∀ x ∈ ws, 0 ≤ x ∧ x ≤ 60) (hn : n ≤ 3999) : JOk o r ws (n + 1) (tickS o r ws n S) := by
  obtain ⟨hw, hlast⟩ := h.mid hws (by omega)
  obtain ⟨i1, i2, i3⟩ := loopW_ok (by omega) _ _ _ _ S.free hw
  obtain ⟨b1, b2⟩ := addW_ok hws n h.el
  have hs := h.sum
  have hage1 := age_le h.ok h.far
  have hcast : ((n + 1 : Nat) : Int) - 1 = n := by omega
  have far2 : Far o r (((n + 1 : Nat) : Int) - 1) (tickS o r ws n S).conf (tickS o r ws n S).l := by rw [hcast]; exact i1.far
  have hage2 : 0 ≤ ageS n (tickS o r ws n S).b (tickS o r ws n S).l ∧ ageS n (tickS o r ws n S).b (tickS o r ws n S).l ≤ o := by
    refine age_le i1.ok fun m hm => ?_
    rcases i1.far m hm with h1 | h1
    · exact .inl h1
    · refine .inr (Int.le_trans h1 (Int.mul_le_mul_of_nonneg_left (by omega) (by have := h.ok.r1; omega)))
  have hold := h.old
  refine ⟨i1.ok, ?_, far2, i1.bb, ?_, i1.el, ?_⟩
  · show (tickS o r ws n S).t ≤ ((n + 1 : Nat) : Int)
    have := i1.tn
    show (loopW o r n (addW ws n S.w) n (lastT S.l - (S.conf + S.done r)) (cutP (S.conf + S.done r) S.l) S.free).2.1 ≤ _
    omega
  · show lastT (loopW o r n (addW ws n S.w) n (lastT S.l - (S.conf + S.done r)) (cutP (S.conf + S.done r) S.l) S.free).2.2.2.1 + (loopW o r n (addW ws n S.w) n (lastT S.l - (S.conf + S.done r)) (cutP (S.conf + S.done r) S.l) S.free).1.sum + _ ≤ 2400
    rw [hlast] at i3
    omega
  · show 0 ≤ max (max S.old (ageS n S.b S.l)) (ageS n (tickS o r ws n S).b (tickS o r ws n S).l) ∧ max (max S.old (ageS n S.b S.l)) (ageS n (tickS o r ws n S).b (tickS o r ws n S).l) ≤ o
    omega

theorem run_ok {o r : Int} {ws : List Int} (hws : ∀ x ∈ ws, 0 ≤ x ∧ x ≤ 60) : ∀ (k n : Nat) (S : Sm), n + k ≤ 4000 → JOk o r ws n S → JOk o r ws (n + k) (runS o r ws k n S)
  | 0, n, S, _, h => h
  | k + 1, n, S, hk, h => by
    have := run_ok hws k (n + 1) _ (by omega) (h.next hws (by omega))
    rw [Nat.add_right_comm, Nat.add_assoc] at this
    exact this

def S0 : Sm := { w := [], t := 0, b := 0, l := [], free := true, old := 0 }

theorem start_ok {o r : Int} {ws : List Int} (o1 : 1 ≤ o) (o2 : o ≤ 1073741824) (r1 : 1 ≤ r) (r2 : r ≤ 4096) (hs : ws.sum ≤ 2400) : JOk o r ws 0 S0 := by
  have hm : 1 ≤ r * o := by
    have := Int.mul_le_mul r1 o1 (by omega) (by omega)
    omega
  exact ⟨⟨o1, o2, r1, r2, by decide, by decide, by decide, trivial, by decide, by decide, fun h => by simp [S0] at h⟩, by decide, fun m hm => (by cases hm), by show (0 : Int) ≤ r * o; omega, by simpa [S0, lastT] using hs, fun x hx => (by cases hx), by show (0 : Int) ≤ 0 ∧ (0 : Int) ≤ o; omega⟩

end VS
end Go.Proofs.Ytbnhmahkgeaajaa
