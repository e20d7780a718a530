/- A list of operations whose order is left open: whatever order the edges allow, it comes to what the order of the text comes to. -/
import Derived.Test.YtbnhmahkgeaajaaVsRegion
namespace Go.Proofs.Ytbnhmahkgeaajaa
namespace VS

inductive Tr (C : CallF) : List SO → Fr → St → List (Fr × St × AV) → Fr → St → Prop where
  | nil {fr : Fr} {st : St} : Tr C [] fr st [] fr st
  | cons {o : SO} {r : List SO} {fr fr' : Fr} {st st1 st' : St} {a : AV} {t : List (Fr × St × AV)} : stepS C o fr st = some (a, st1) → Tr C r (fr.put o.dst a) st1 t fr' st' → Tr C (o :: r) fr st ((fr, st, a) :: t) fr' st'

theorem dfr_only {C : CallF} {fr : Fr} {st st1 : St} {op : SOp} {f : FuncId} {caps : List AV} (h : evOp C fr st op = some (.dfr f caps, st1)) : ∃ x, op = .defer x := by
  cases op <;> simp only [evOp] at h <;> (try (exact ⟨_, rfl⟩)) <;> exfalso <;>
    (repeat' (first | (cases h; done) | (rw [Option.map_eq_some_iff] at h; obtain ⟨_, _, h⟩ := h; cases h; done) | (split at h)))

theorem tr_of {C : CallF} : ∀ {so : List SO} {fr fr' : Fr} {st st' : St}, so.all (fun o => match o.op with | .defer _ => false | _ => true) = true → evOps C so fr st = some (.nx, fr', st') → ∃ t, Tr C so fr st t fr' st'
  | [], fr, fr', st, st', _, h => by
    simp only [evOps, Option.some.injEq, Prod.mk.injEq, true_and] at h
    obtain ⟨rfl, rfl⟩ := h
    exact ⟨[], .nil⟩
  | o :: r, fr, fr', st, st', hd, h => by
    simp only [List.all_cons, Bool.and_eq_true] at hd
    simp only [evOps] at h
    split at h
    · cases h
    · rename_i hw
      obtain ⟨t, ht⟩ := tr_of hd.2 h
      exact ⟨_, .cons (by simp only [stepS, hw]) ht⟩
    · rename_i hw
      split at h
      · cases h
      · rename_i a st1 hev
        obtain ⟨t, ht⟩ := tr_of hd.2 h
        exact ⟨_, .cons (by simp only [stepS, hw, hev]) ht⟩
      · cases h
      · rename_i f caps st1 hev
        obtain ⟨x, hx⟩ := dfr_only hev
        rw [hx] at hd
        simp at hd

def frAt (t : List (Fr × St × AV)) (e : Fr) (i : Nat) : Fr := match t[i]? with | some p => p.1 | none => e
def stAt (t : List (Fr × St × AV)) (e : St) (i : Nat) : St := match t[i]? with | some p => p.2.1 | none => e
def avAt (t : List (Fr × St × AV)) (i : Nat) : AV := match t[i]? with | some p => p.2.2 | none => und

theorem Tr.len {C : CallF} {so : List SO} {fr fr' : Fr} {st st' : St} {t : List (Fr × St × AV)} (h : Tr C so fr st t fr' st') : t.length = so.length := by
  induction h with
  | nil => rfl
  | cons _ _ ih => simp [ih]

theorem Tr.zero {C : CallF} {so : List SO} {fr fr' : Fr} {st st' : St} {t : List (Fr × St × AV)} (h : Tr C so fr st t fr' st') : frAt t fr' 0 = fr ∧ stAt t st' 0 = st := by
  cases h <;> simp [frAt, stAt]

theorem Tr.step {C : CallF} {so : List SO} {fr fr' : Fr} {st st' : St} {t : List (Fr × St × AV)} (h : Tr C so fr st t fr' st') : ∀ (i : Nat) (o : SO), so[i]? = some o →
    stepS C o (frAt t fr' i) (stAt t st' i) = some (avAt t i, stAt t st' (i + 1)) ∧ frAt t fr' (i + 1) = (frAt t fr' i).put o.dst (avAt t i) := by
  induction h with
  | nil => intro i o h; simp at h
  | cons h1 h2 ih =>
    rename_i o r fr fr' st st1 st' a t
    intro i o' ho
    cases i with
    | zero =>
      simp at ho; subst ho
      obtain ⟨e1, e2⟩ := h2.zero
      have e3 : frAt ((fr, st, a) :: t) fr' 1 = frAt t fr' 0 := by simp [frAt]
      have e4 : stAt ((fr, st, a) :: t) st' 1 = stAt t st' 0 := by simp [stAt]
      have e5 : frAt ((fr, st, a) :: t) fr' 0 = fr := by simp [frAt]
      have e6 : stAt ((fr, st, a) :: t) st' 0 = st := by simp [stAt]
      have e7 : avAt ((fr, st, a) :: t) 0 = a := by simp [avAt]
      rw [e3, e4, e5, e6, e7, e1, e2]
      exact ⟨h1, rfl⟩
    | succ i =>
      have := ih i o' (by simpa using ho)
      simpa [frAt, stAt, avAt] using this

theorem Tr.touched {C : CallF} {so : List SO} {fr fr' : Fr} {st st' : St} {t : List (Fr × St × AV)} (h : Tr C so fr st t fr' st') : ∀ (i : Nat) (o : SO), so[i]? = some o → ∀ p ∈ touch o (frAt t fr' i), p ∈ VS.touched C so fr st := by
  induction h with
  | nil => intro i o ho; simp at ho
  | @cons o1 r fr fr' st st1 st' a t h1 h2 ih =>
    intro i o ho p hp
    simp only [VS.touched, h1]
    cases i with
    | zero =>
      simp at ho
      subst ho
      have e5 : frAt ((fr, st, a) :: t) fr' 0 = fr := by simp [frAt]
      rw [e5] at hp
      exact List.mem_append_left _ hp
    | succ i =>
      have e : frAt ((fr, st, a) :: t) fr' (i + 1) = frAt t fr' i := by simp [frAt]
      rw [e] at hp
      exact List.mem_append_right _ (ih i o (by simpa using ho) p hp)

theorem Tr.last {C : CallF} {so : List SO} {fr fr' : Fr} {st st' : St} {t : List (Fr × St × AV)} (h : Tr C so fr st t fr' st') : frAt t fr' so.length = fr' ∧ stAt t st' so.length = st' := by
  rw [← h.len]; simp [frAt, stAt]

/-- What a slot holds when the operations of a set have been carried out. -/
def expS (dst : Nat → Option Nat) (av : Nat → AV) (l0 : List (Nat × AV)) (D : Nat → Bool) (s : Nat) : Nat → Option AV
  | 0 => look l0 s
  | m + 1 => if D m && dst m == some s then some (av m) else expS dst av l0 D s m

theorem expS_congr {dst : Nat → Option Nat} {av : Nat → AV} {l0 : List (Nat × AV)} {D D' : Nat → Bool} {s : Nat} : ∀ m, (∀ k, k < m → dst k = some s → D k = D' k) → expS dst av l0 D s m = expS dst av l0 D' s m
  | 0, _ => rfl
  | m + 1, h => by
    simp only [expS]
    rw [expS_congr m (fun k hk => h k (by omega))]
    by_cases hd : dst m = some s
    · rw [h m (by omega) hd]
    · have : (dst m == some s) = false := by simpa using hd
      simp [this]

theorem expS_lt {dst : Nat → Option Nat} {av : Nat → AV} {l0 : List (Nat × AV)} {s i : Nat} : ∀ m, i ≤ m → expS dst av l0 (fun k => decide (k < i)) s m = expS dst av l0 (fun _ => true) s i
  | 0, h => by have : i = 0 := by omega
               subst this; rfl
  | m + 1, h => by
    by_cases he : i = m + 1
    · subst he
      exact expS_congr _ (fun k hk _ => by simpa using hk)
    · simp only [expS]
      have : ¬ m < i := by omega
      simp only [this, decide_false, Bool.false_and, Bool.false_eq_true, if_false]
      exact expS_lt m (by omega)

/-- Which of the states of the text's order stands. -/
def posE (cls : Nat → Nat) (D : Nat → Bool) : Nat → Nat
  | 0 => 0
  | m + 1 => if D m && decide (2 ≤ cls m) then m + 1 else posE cls D m

theorem posE_inv {cls : Nat → Nat} {D : Nat → Bool} : ∀ m, posE cls D m ≤ m ∧ (∀ k, k < m → D k = true → 2 ≤ cls k → k < posE cls D m) ∧ (0 < posE cls D m → D (posE cls D m - 1) = true ∧ 2 ≤ cls (posE cls D m - 1))
  | 0 => ⟨Nat.le_refl _, fun k h => by omega, fun h => by simp [posE] at h⟩
  | m + 1 => by
    obtain ⟨h1, h2, h3⟩ := posE_inv (cls := cls) (D := D) m
    simp only [posE]
    split
    · rename_i hc
      simp only [Bool.and_eq_true, decide_eq_true_eq] at hc
      exact ⟨Nat.le_refl _, fun k hk _ _ => hk, fun _ => by simpa using hc⟩
    · rename_i hc
      refine ⟨by omega, fun k hk hD hcl => ?_, h3⟩
      by_cases he : k = m
      · subst he; simp [hD, hcl] at hc
      · exact h2 k (by omega) hD hcl

def stLe (s t : St) : Prop := ∀ (b : Nat) (hb : HB), s.H[b]? = some hb → ∃ hb', t.H[b]? = some hb' ∧ hb'.cells = hb.cells

theorem stLe.refl (s : St) : stLe s s := fun _ hb h => ⟨hb, h, rfl⟩
theorem stLe.trans {a b c : St} (h : stLe a b) (k : stLe b c) : stLe a c := fun i hb hi => by
  obtain ⟨h1, h2, h3⟩ := h i hb hi
  obtain ⟨k1, k2, k3⟩ := k i h1 h2
  exact ⟨k1, k2, k3.trans h3⟩

theorem stLe_append (s : St) (H2 : List HB) (F : List (Nat × Nat)) : stLe s { H := s.H ++ H2, F := F } := fun b hb h => ⟨hb, by show (s.H ++ H2)[b]? = _; rw [List.getElem?_append_left (List.getElem?_eq_some_iff.1 h).1]; exact h, rfl⟩
theorem stLe_F (s : St) (F : List (Nat × Nat)) : stLe s { H := s.H, F := F } := fun _ hb h => ⟨hb, h, rfl⟩

theorem stLe_freeze {s : St} {b : Nat} {hb : HB} (h : s.H[b]? = some hb) : stLe s (s.freeze b hb) := fun i x hi => by
  by_cases he : i = b
  · subst he
    rw [h] at hi; cases hi
    exact ⟨{ hb with fz := true }, by show (s.H.set i _)[i]? = _; rw [List.getElem?_set_self (List.getElem?_eq_some_iff.1 h).1], rfl⟩
  · exact ⟨x, by show (s.H.set b _)[i]? = _; rw [getElem?_set_ne' he]; exact hi, rfl⟩

theorem exp0_le {st st1 : St} {a b : AV} (h : exp0 st a = some (b, st1)) : stLe st st1 := by
  unfold exp0 at h
  split at h
  · split at h
    · rename_i hb hH
      split at h
      · split at h
        · cases h; exact stLe_freeze hH
        · cases h
      · cases h
    · cases h
  · split at h
    · cases h; exact stLe.refl _
    · cases h

theorem expL_le : ∀ {l m : List AV} {st st1 : St}, expL st l = some (m, st1) → stLe st st1
  | [], m, st, st1, h => by simp only [expL, Option.some.injEq, Prod.mk.injEq] at h; rw [← h.2]; exact stLe.refl _
  | a :: r, m, st, st1, h => by
    simp only [expL] at h
    split at h
    · rename_i x s1 h1
      split at h
      · rename_i l s2 h2
        cases h
        exact (exp0_le h1).trans (expL_le h2)
      · cases h
    · cases h

theorem exp1_le {st st1 : St} {a b : AV} (h : exp1 st a = some (b, st1)) : stLe st st1 := by
  unfold exp1 at h
  split at h
  · split at h
    · rename_i l s1 h1; cases h; exact expL_le h1
    · cases h
  · exact exp0_le h

theorem expA_le : ∀ {l m : List AV} {st st1 : St}, expA st l = some (m, st1) → stLe st st1
  | [], m, st, st1, h => by simp only [expA, Option.some.injEq, Prod.mk.injEq] at h; rw [← h.2]; exact stLe.refl _
  | a :: r, m, st, st1, h => by
    simp only [expA] at h
    split at h
    · rename_i x s1 h1
      split at h
      · rename_i l s2 h2
        cases h
        exact (exp1_le h1).trans (expA_le h2)
      · cases h
    · cases h

def cellsAt (st : St) (b : Nat) : Option (List AV) := (st.H[b]?).map HB.cells

/-- The blocks of a list hold the same in both states. -/
def Alike (st st2 : St) (l : List Nat) : Prop := ∀ b ∈ l, cellsAt st b ≠ none → cellsAt st2 b = cellsAt st b

theorem cellsAt_freeze {s : St} {b : Nat} {hb : HB} (h : s.H[b]? = some hb) (c : Nat) : cellsAt (s.freeze b hb) c = cellsAt s c := by
  unfold cellsAt
  show ((s.H.set b { hb with fz := true })[c]?).map HB.cells = _
  by_cases hc : c = b
  · subst hc
    rw [List.getElem?_set_self (List.getElem?_eq_some_iff.1 h).1, h]; rfl
  · rw [getElem?_set_ne' hc]

theorem exp0_alike {st st1 st2 : St} {a x : AV} (h : exp0 st a = some (x, st1)) (hs : Alike st st2 (hsOf0 a)) : ∃ s2, exp0 st2 a = some (x, s2) ∧ (∀ b, cellsAt st1 b = cellsAt st b) ∧ ∀ b, cellsAt s2 b = cellsAt st2 b := by
  unfold exp0 at h
  split at h
  · rename_i b q n sz
    split at h
    · rename_i hb hH
      split at h
      · rename_i hle
        split at h
        · rename_i cs hcl
          cases h
          have h1 : cellsAt st b = some hb.cells := by simp [cellsAt, hH]
          have h2 := hs b (by simp [hsOf0]) (by rw [h1]; simp)
          rw [h1] at h2
          simp only [cellsAt, Option.map_eq_some_iff] at h2
          obtain ⟨hb2, hH2, hc2⟩ := h2
          refine ⟨st2.freeze b hb2, ?_, cellsAt_freeze hH, cellsAt_freeze hH2⟩
          simp only [exp0, hH2, hc2, hle, if_true, hcl]
        · cases h
      · cases h
    · cases h
  · rename_i hne
    split at h
    · rename_i y hy
      cases h
      refine ⟨st2, ?_, fun _ => rfl, fun _ => rfl⟩
      cases a <;> first | (exact absurd rfl (hne _ _ _ _)) | simp only [exp0, hy]
    · cases h

theorem Alike.next {st st1 st2 s2 : St} {l : List Nat} (h : Alike st st2 l) (h1 : ∀ b, cellsAt st1 b = cellsAt st b) (h2 : ∀ b, cellsAt s2 b = cellsAt st2 b) : Alike st1 s2 l := fun b hb hn => by
  rw [h1] at hn ⊢
  rw [h2]
  exact h b hb hn

theorem expL_alike : ∀ {l m : List AV} {st st1 st2 : St}, expL st l = some (m, st1) → Alike st st2 (l.flatMap hsOf0) → ∃ s2, expL st2 l = some (m, s2) ∧ (∀ b, cellsAt st1 b = cellsAt st b) ∧ ∀ b, cellsAt s2 b = cellsAt st2 b
  | [], m, st, st1, st2, h, _ => by
    simp only [expL, Option.some.injEq, Prod.mk.injEq] at h
    obtain ⟨rfl, rfl⟩ := h
    exact ⟨st2, rfl, fun _ => rfl, fun _ => rfl⟩
  | a :: r, m, st, st1, st2, h, hs => by
    simp only [expL] at h
    split at h
    · rename_i x s1 h1
      split at h
      · rename_i l s2 h2
        cases h
        obtain ⟨t1, k1, k2, k3⟩ := exp0_alike h1 (fun b hb => hs b (by rw [List.flatMap_cons]; exact List.mem_append_left _ hb))
        obtain ⟨t2, k4, k5, k6⟩ := expL_alike h2 (Alike.next (fun b hb => hs b (by rw [List.flatMap_cons]; exact List.mem_append_right _ hb)) k2 k3)
        exact ⟨t2, by simp only [expL, k1, k4], fun b => (k5 b).trans (k2 b), fun b => (k6 b).trans (k3 b)⟩
      · cases h
    · cases h

theorem exp1_alike {st st1 st2 : St} {a x : AV} (h : exp1 st a = some (x, st1)) (hs : Alike st st2 (hsOf a)) : ∃ s2, exp1 st2 a = some (x, s2) ∧ (∀ b, cellsAt st1 b = cellsAt st b) ∧ ∀ b, cellsAt s2 b = cellsAt st2 b := by
  unfold exp1 at h
  split at h
  · split at h
    · rename_i l s1 h1
      cases h
      obtain ⟨s2, k1, k2, k3⟩ := expL_alike h1 hs
      exact ⟨s2, by simp only [exp1, k1], k2, k3⟩
    · cases h
  · rename_i hne
    have hh : hsOf a = hsOf0 a := by cases a <;> first | rfl | exact absurd rfl (hne _)
    obtain ⟨s2, k1, k2, k3⟩ := exp0_alike h (hh ▸ hs)
    refine ⟨s2, ?_, k2, k3⟩
    cases a <;> first | exact absurd rfl (hne _) | simpa only [exp1] using k1

theorem expA_alike : ∀ {l m : List AV} {st st1 st2 : St}, expA st l = some (m, st1) → Alike st st2 (l.flatMap hsOf) → ∃ s2, expA st2 l = some (m, s2) ∧ (∀ b, cellsAt st1 b = cellsAt st b) ∧ ∀ b, cellsAt s2 b = cellsAt st2 b
  | [], m, st, st1, st2, h, _ => by
    simp only [expA, Option.some.injEq, Prod.mk.injEq] at h
    obtain ⟨rfl, rfl⟩ := h
    exact ⟨st2, rfl, fun _ => rfl, fun _ => rfl⟩
  | a :: r, m, st, st1, st2, h, hs => by
    simp only [expA] at h
    split at h
    · rename_i x s1 h1
      split at h
      · rename_i l s2 h2
        cases h
        obtain ⟨t1, k1, k2, k3⟩ := exp1_alike h1 (fun b hb => hs b (by rw [List.flatMap_cons]; exact List.mem_append_left _ hb))
        obtain ⟨t2, k4, k5, k6⟩ := expA_alike h2 (Alike.next (fun b hb => hs b (by rw [List.flatMap_cons]; exact List.mem_append_right _ hb)) k2 k3)
        exact ⟨t2, by simp only [expA, k1, k4], fun b => (k5 b).trans (k2 b), fun b => (k6 b).trans (k3 b)⟩
      · cases h
    · cases h

/-- A callee that is given a memory of its own leaves the caller's variables; a pure one leaves the state, and asks for nothing but what its arguments hold. -/
structure Mild (kd : FuncId → Kind) (C : CallF) : Prop where
  le : ∀ (f : FuncId) (args : List AV) (st : St) (r : Res) (st1 : St), kd f ≠ .whole → C f args st = some (r, st1) → stLe st st1
  pure : ∀ (f : FuncId) (args : List AV) (st : St) (r : Res) (st1 : St), kd f = .pure → C f args st = some (r, st1) → st1 = st ∧ ∀ st2, Alike st st2 (args.flatMap hsOf) → C f args st2 = some (r, st2)

theorem append_le {st st1 : St} {sz bytes : Nat} {s x r : AV} (h : opAppend st sz bytes s x = some (r, st1)) : stLe st st1 := by
  unfold opAppend at h
  split at h
  · cases h
  · split at h
    · split at h
      · split at h
        · cases h; exact stLe.refl _
        · split at h
          · cases h; exact stLe_F _ _
          · cases h
      · split at h
        · cases h; exact stLe.refl _
        · split at h
          · split at h
            · cases h; exact stLe_F _ _
            · split at h
              · cases h; exact stLe_F _ _
              · cases h
            · cases h
          · cases h
      · split at h
        · cases h; exact stLe.refl _
        · split at h
          · rename_i hb hH
            split at h
            · split at h
              · cases h; exact fun c y hc => stLe_freeze hH c y hc
              · cases h
            · cases h
          · cases h
      · cases h
    · cases h

theorem class1 {kd : FuncId → Kind} {C : CallF} (hM : Mild kd C) {fr : Fr} {st st1 : St} {op : SOp} {r : ORes} (hc : opClass kd op = 1) (h : evOp C fr st op = some (r, st1)) :
    st1 = st ∧ ((∃ k x, op = .load k x) ∨ ∃ f l as, op = .call (.c (.fn f [])) l ∧ evXs fr l = some as ∧ kd f = .pure ∧ ∀ st2, Alike st st2 (as.flatMap hsOf) → evOp C fr st2 op = some (r, st2)) := by
  cases op <;> simp only [opClass] at hc <;> (try (exact absurd hc (by decide)))
  · simp only [evOp] at h
    split at h
    · rw [Option.map_eq_some_iff] at h
      obtain ⟨_, _, h⟩ := h
      cases h; exact ⟨rfl, .inl ⟨_, _, rfl⟩⟩
    · cases h
  · rename_i f args
    unfold callClass at hc
    split at hc
    · rename_i g
      split at hc
      · exact absurd hc (by decide)
      · split at hc
        · rename_i hk
          simp only [evOp, evX] at h ⊢
          split at h
          · rename_i g' caps l h1 h2
            simp only [Option.some.injEq, AV.fn.injEq] at h1
            obtain ⟨rfl, rfl⟩ := h1
            rw [List.append_nil] at h
            split at h
            · rename_i a s1 hcall
              cases h
              obtain ⟨k1, k2⟩ := hM.pure _ _ _ _ _ hk hcall
              exact ⟨k1, .inr ⟨g, args, l, rfl, h2, hk, fun st2 hal => by simp only [h2, List.append_nil, k2 st2 hal]⟩⟩
            · rename_i a s1 hcall
              cases h
              obtain ⟨k1, k2⟩ := hM.pure _ _ _ _ _ hk hcall
              exact ⟨k1, .inr ⟨g, args, l, rfl, h2, hk, fun st2 hal => by simp only [h2, List.append_nil, k2 st2 hal]⟩⟩
            · cases h
          · cases h
        · exact absurd hc (by decide)
    · exact absurd hc (by decide)

theorem class2 {kd : FuncId → Kind} {C : CallF} (hM : Mild kd C) {fr : Fr} {st st1 : St} {op : SOp} {r : ORes} (hc : opClass kd op = 2) (h : evOp C fr st op = some (r, st1)) : stLe st st1 := by
  cases op <;> simp only [opClass] at hc <;> (try (exact absurd hc (by decide))) <;> simp only [evOp] at h
  · cases h; exact stLe_append _ _ _
  · split at h
    · split at h
      · cases h; exact stLe_append _ _ _
      · cases h
    · cases h
  · split at h
    · cases h
    · split at h
      · rename_i hx; cases h; exact expL_le hx
      · cases h; exact stLe.refl _
  · split at h
    · split at h
      · cases h; exact stLe_append _ _ _
      · cases h
    · cases h
  · rename_i f args
    unfold callClass at hc
    split at hc
    · rename_i g
      split at hc
      · exact absurd hc (by decide)
      · rename_i hk
        split at h
        · rename_i g' caps l h1 h2
          simp only [evX, Option.some.injEq, AV.fn.injEq] at h1
          obtain ⟨rfl, rfl⟩ := h1
          split at h
          · rename_i a s1 hcall; cases h; exact hM.le _ _ _ _ _ hk hcall
          · rename_i a s1 hcall; cases h; exact hM.le _ _ _ _ _ hk hcall
          · cases h
        · cases h
    · exact absurd hc (by decide)
  · split at h
    · rw [Option.map_eq_some_iff] at h
      obtain ⟨p, hp, h⟩ := h
      cases h
      exact append_le (r := p.1) (st1 := p.2) hp
    · cases h

theorem class0 {kd : FuncId → Kind} {C : CallF} {fr : Fr} {st st1 : St} {op : SOp} {r : ORes} (hc : opClass kd op = 0) (h : evOp C fr st op = some (r, st1)) : st1 = st ∧ ∀ st2, evOp C fr st2 op = some (r, st2) := by
  cases op <;> simp only [opClass] at hc <;> (try (exact absurd hc (by decide))) <;> (try (unfold callClass at hc; split at hc <;> (try (split at hc)) <;> (try (split at hc)) <;> exact absurd hc (by decide))) <;> simp only [evOp] at h ⊢
  all_goals
    repeat' (first
      | (cases h; done)
      | (cases h; exact ⟨rfl, fun _ => rfl⟩)
      | (cases h; exact ⟨rfl, fun _ => if_pos (by assumption)⟩)
      | (rw [Option.map_eq_some_iff] at h; obtain ⟨x, hx, h⟩ := h; cases h; exact ⟨rfl, fun _ => by rw [hx]; rfl⟩)
      | (rw [Option.map_eq_some_iff] at h; obtain ⟨x, hx, h⟩ := h; cases h; exact ⟨rfl, fun _ => by rw [if_pos (by assumption), hx]; rfl⟩)
      | (cases h; exact ⟨rfl, fun _ => by rw [if_neg (by assumption), if_pos (by assumption)]⟩)
      | (split at h))

end VS
end Go.Proofs.Ytbnhmahkgeaajaa
