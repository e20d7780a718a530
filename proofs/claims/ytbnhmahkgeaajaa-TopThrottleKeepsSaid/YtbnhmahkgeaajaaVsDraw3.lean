/- A region that draws its order: sound. -/
import Derived.Test.YtbnhmahkgeaajaaVsDraw2
namespace Go.Proofs.Ytbnhmahkgeaajaa
namespace VS

section
variable {P : Program} {C : CallF} {N : Nat} {ops : Array Oper} {kd : FuncId → Kind}

theorem stripOps_get : ∀ {l : List Oper} {so : List SO}, stripOps P N ops l = some so → so.length = l.length ∧ ∀ (i : Nat) (o : Oper), l[i]? = some o → ∃ s, so[i]? = some s ∧ stripOne P N ops o = some s
  | [], so, h => by simp only [stripOps, Option.some.injEq] at h; subst h; exact ⟨rfl, fun i o h => by simp at h⟩
  | o :: r, so, h => by
    simp only [stripOps] at h
    split at h
    · rename_i s l h1 h2
      cases h
      obtain ⟨k1, k2⟩ := stripOps_get h2
      refine ⟨by simp [k1], fun i p hp => ?_⟩
      cases i with
      | zero => simp at hp; subst hp; exact ⟨s, rfl, h1⟩
      | succ i => exact k2 i p (by simpa using hp)
    · cases h

theorem strip_load {P : Program} {o : Oper} {k : Option Nat} {c : AV} (h : stripOp P o = some (.load k (.c c))) : ∃ q, stripX q = some (.c c) := by
  unfold stripOp at h
  split at h
  all_goals (try unfold stripCall at h)
  all_goals (try unfold stripB at h)
  all_goals
    first
    | (exfalso
       repeat' (first
        | (cases h; done)
        | (rw [Option.map_eq_some_iff] at h; obtain ⟨_, _, h⟩ := h; cases h; done)
        | (split at h))
       done)
    | (split at h
       · cases h; exact ⟨_, by assumption⟩
       · cases h)

theorem strip_call {P : Program} {o : Oper} {f : SX} {l : List SX} (h : stripOp P o = some (.call f l)) : ∃ q, stripXs q = some l := by
  unfold stripOp at h
  split at h
  all_goals (try unfold stripCall at h)
  all_goals (try unfold stripB at h)
  all_goals
    first
    | (exfalso
       repeat' (first
        | (cases h; done)
        | (rw [Option.map_eq_some_iff] at h; obtain ⟨_, _, h⟩ := h; cases h; done)
        | (split at h))
       done)
    | (repeat' (first
        | (cases h; exact ⟨_, by assumption⟩)
        | (cases h; done)
        | (split at h))
       done)

theorem RepL.alike {S : Sim} (I : Inv S) {st : St} (hk : ∀ (b : Nat) (hb hb' : HB), S.st.H[b]? = some hb → st.H[b]? = some hb' → hb'.cells = hb.cells) {l : List AV} {ys : List Value} (hl : RepL S l ys) : Alike st S.st (l.flatMap hsOf) := by
  have one : ∀ (b q n z : Nat) (y : Value), Rep S (.hs b q n z) y → cellsAt st b ≠ none → cellsAt S.st b = cellsAt st b := by
    intro b q n z y hr hn
    cases hr with
    | hs k1 =>
      obtain ⟨_, x, c, ty, hx, _⟩ := I.blk b _ k1
      unfold cellsAt at hn ⊢
      cases hH : st.H[b]? with
      | none => rw [hH] at hn; exact absurd rfl hn
      | some hb' => rw [hx, Option.map_some, Option.map_some, hk b x hb' hx hH]
  have one0 : ∀ (c : AV) (y : Value), Rep S c y → ∀ b ∈ hsOf0 c, cellsAt st b ≠ none → cellsAt S.st b = cellsAt st b := by
    intro c y hr b hb hn
    cases c <;> simp only [hsOf0, List.mem_singleton, List.not_mem_nil] at hb
    subst hb
    exact one _ _ _ _ y hr hn
  intro b hb hn
  rw [List.mem_flatMap] at hb
  obtain ⟨a, ha, hb⟩ := hb
  obtain ⟨j, hj⟩ := List.mem_iff_getElem?.1 ha
  obtain ⟨y, _, hr⟩ := hl.get j a hj
  by_cases hag : ∃ cs, a = .agg cs
  · obtain ⟨cs, rfl⟩ := hag
    simp only [hsOf, List.mem_flatMap] at hb
    obtain ⟨c, hc, hb⟩ := hb
    cases hr with
    | agg hl2 _ =>
      obtain ⟨j2, hj2⟩ := List.mem_iff_getElem?.1 hc
      obtain ⟨y2, _, hr2⟩ := hl2.get j2 c hj2
      exact one0 c y2 hr2 b hb hn
  · have : hsOf a = hsOf0 a := by cases a <;> first | rfl | exact absurd ⟨_, rfl⟩ hag
    rw [this] at hb
    exact one0 a y hr b hb hn

/-- What 'drawOk' gives. -/
structure DrawFacts (free : Bool) (kd : FuncId → Kind) (l : List Oper) (so : List SO) : Prop where
  lt : ∀ (i : Nat) (p : Oper), l[i]? = some p → ∀ e ∈ p.after, Region.binds .any e = true → e.on < i
  pair : ∀ (i j : Nat) (a b : SO), i ≠ j → so[i]? = some a → so[j]? = some b → i ∈ (ancs l).getD j [] ∨ j ∈ (ancs l).getD i [] ∨
    ((clash (opClass kd a.op) (opClass kd b.op) = false ∨ (free = true ∧ loadStore a.op b.op = true)) ∧ (∀ d, a.dst = some d → d ∉ soSlots b ∧ b.dst ≠ some d) ∧ ∀ d, b.dst = some d → d ∉ soSlots a)
  nodef : so.all (fun o => match o.op with | .defer _ => false | _ => true) = true

theorem drawOk_facts {free : Bool} {l : List Oper} {so : List SO} (hlen : so.length = l.length) (h : drawOk free kd l so = true) : DrawFacts free kd l so := by
  simp only [drawOk, Bool.and_eq_true, List.all_eq_true, List.mem_range] at h
  obtain ⟨hnd, hp⟩ := h
  refine ⟨fun i p hi e he hbe => ?_, fun i j a b hne ha hb' => ?_, List.all_eq_true.2 hnd⟩
  · have hil := (List.getElem?_eq_some_iff.1 hi).1
    have := (hp i (by omega)).1
    have e1 : l.getD i default = p := by simp [List.getD_eq_getElem?_getD, hi]
    rw [e1] at this
    have h1 := this e (by simpa using he)
    rw [hbe] at h1
    simpa using h1
  · have hil := (List.getElem?_eq_some_iff.1 ha).1
    have hjl := (List.getElem?_eq_some_iff.1 hb').1
    have := (hp j hjl).2 i hil
    simp only [before, Bool.or_eq_true, beq_iff_eq, hne, false_or, List.contains_iff_mem, ha, hb', Bool.and_eq_true, Bool.not_eq_true'] at this
    rcases this with (h1 | h1) | ⟨⟨h1, h2⟩, h3⟩
    · exact .inl h1
    · exact .inr (.inl h1)
    · refine .inr (.inr ⟨h1, fun d hd => ?_, fun d hd => ?_⟩)
      · rw [hd] at h2
        simp at h2
        exact ⟨h2.1, h2.2⟩
      · rw [hd] at h3
        simpa using h3

/-- In a set of operations that is closed under the edges: who is in it and meets operation 'i', stands before it. -/
theorem ordered {free : Bool} {l : List Oper} {so : List SO} (F : DrawFacts free kd l so) {D : Nat → Bool} (hD : ∀ (i : Nat) (p : Oper), l[i]? = some p → D i = true → ∀ e ∈ p.after, Region.binds .any e = true → D e.on = true)
    {i : Nat} (hi : i < l.length) (hDi : D i = false) (hready : ∀ k ∈ (ancs l).getD i [], D k = true) {k : Nat} (hk : k < l.length) (hor : k ∈ (ancs l).getD i [] ∨ i ∈ (ancs l).getD k []) : D k = decide (k < i) := by
  rcases hor with h | h
  · have := ancs_lt F.lt i k h hi
    rw [hready k h]; simp [this]
  · have h1 := ancs_lt F.lt k i h hk
    have h2 : D k = false := by
      cases hdk : D k with
      | false => rfl
      | true => have := ancs_closed F.lt hD k hk hdk i h; rw [hDi] at this; cases this
    rw [h2]; simp; omega

theorem ls_class {a b : SOp} (h : loadStore a b = true) : (opClass kd a = 1 ∧ opClass kd b = 3) ∨ (opClass kd a = 3 ∧ opClass kd b = 1) := by
  unfold loadStore at h
  split at h
  · exact .inl ⟨rfl, rfl⟩
  · exact .inr ⟨rfl, rfl⟩
  · cases h

theorem free_ne {l : List (Bool × Nat)} (h : freeOk l = true) {b c : Nat} (hb : (true, b) ∈ l) (hc : (false, c) ∈ l) : b ≠ c := by
  unfold freeOk at h
  rw [List.all_eq_true] at h
  have h1 := h _ hb
  simp only [Bool.not_true, Bool.false_or, List.all_eq_true] at h1
  have h2 := h1 _ hc
  simpa using h2

theorem draw_sound {free : Bool} (hC : CallOk P C) (hM : Mild kd C) (hmix : P.follows .mixedOrders = true) {so : List SO} {fr fr' : Fr} {st' : St} {S0 : Sim} {a0 : Act} {id : Nat} (hs : stripOps P N ops ops.toList = some so) (hdr : drawOk free kd ops.toList so = true) (hfree : free = true → freeOk (touched C so fr S0.st) = true)
    (he : evOps C so fr S0.st = some (.nx, fr', st')) (I0 : Inv S0) (hN0 : a0.tmps.size = N) (hf0 : FrOk S0 fr a0) : (Code.region id ops true).wp P (Post S0 N (.nx, fr', st')) a0 S0.w := by
  obtain ⟨hlen, hget⟩ := stripOps_get hs
  have F := drawOk_facts hlen hdr
  obtain ⟨t, T⟩ := tr_of F.nodef he
  have n_eq : ops.toList.length = ops.size := by simp
  -- the start
  have hk0 : Keeps S0.w S0.w.drew := Keeps.drew _
  have hst0 : Step S0 (S0.at S0.w.drew) := ⟨Ext.keeps hk0, Inv.keeps I0 hk0, (RowKit.Below.refl _ _).drew⟩
  refine wp_region_any hmix ?_
  let dst : Nat → Option Nat := fun i => (so[i]?).bind (·.dst)
  let cls : Nat → Nat := fun i => match so[i]? with | some o => opClass kd o.op | none => 0
  let av := avAt t
  let ST := stAt t st'
  let FR := frAt t fr'
  have hcat : ∀ (k : Nat) (o : SO), so[k]? = some o → cls k = opClass kd o.op := fun k o h => by simp only [cls, h]
  have hstep : ∀ i o, so[i]? = some o → stepS C o (FR i) (ST i) = some (av i, ST (i + 1)) ∧ FR (i + 1) = (FR i).put o.dst (av i) := fun i o ho => T.step i o ho
  have hzero : FR 0 = fr ∧ ST 0 = S0.st := T.zero
  have hlast : FR so.length = fr' ∧ ST so.length = st' := T.last
  -- the frames of the text's order
  have hFR : ∀ m, m ≤ so.length → ∀ s, look (FR m).s s = expS dst av fr.s (fun _ => true) s m := by
    intro m
    induction m with
    | zero => intro _ s; rw [hzero.1]; rfl
    | succ m ih =>
      intro hm s
      have ho : so[m]? = some so[m] := by simp
      rw [(hstep m _ ho).2]
      simp only [expS, dst, ho, Option.bind_some, Bool.true_and]
      cases hd : so[m].dst with
      | none => simp only [Fr.put]; exact ih (by omega) s
      | some d =>
        simp only [Fr.put, look_put]
        by_cases hds : d = s
        · simp [hds]
        · rw [if_neg hds, ih (by omega) s, if_neg (by simpa using hds)]
  -- operations that do not write leave the state
  have hsame : ∀ m, m < so.length → cls m < 2 → ST (m + 1) = ST m := by
    intro m hm hc
    have ho : so[m]? = some so[m] := by simp
    have h1 := (hstep m _ ho).1
    simp only [cls, ho] at hc
    simp only [stepS] at h1
    split at h1
    · cases h1
    · simp only [Option.some.injEq, Prod.mk.injEq] at h1; exact h1.2.symm
    · split at h1
      · rename_i x s1 hev
        simp only [Option.some.injEq, Prod.mk.injEq] at h1
        rw [← h1.2]
        have hcc : opClass kd so[m].op = 0 ∨ opClass kd so[m].op = 1 := by omega
        rcases hcc with h0 | h0
        · exact (class0 h0 hev).1
        · exact (class1 hM h0 hev).1
      · cases h1
  have hmild : ∀ m, m < so.length → cls m ≠ 3 → stLe (ST m) (ST (m + 1)) := by
    intro m hm hc
    by_cases h2 : cls m < 2
    · rw [hsame m hm h2]; exact stLe.refl _
    · have ho : so[m]? = some so[m] := by simp
      have hle3 : ∀ op, opClass kd op ≤ 3 := by
        intro op
        cases op <;> simp only [opClass] <;> first | decide | (unfold callClass; split <;> (try split) <;> (try split) <;> decide)
      have h1 := (hstep m _ ho).1
      have hc2 : opClass kd so[m].op = 2 := by simp only [cls, ho] at hc h2; have := hle3 so[m].op; omega
      simp only [stepS] at h1
      split at h1
      · cases h1
      · simp only [Option.some.injEq, Prod.mk.injEq] at h1; rw [← h1.2]; exact stLe.refl _
      · split at h1
        · rename_i x s1 hev
          simp only [Option.some.injEq, Prod.mk.injEq] at h1
          rw [← h1.2]
          exact class2 hM hc2 hev
        · cases h1
  have hrange : ∀ p q, p ≤ q → q ≤ so.length → (∀ k, p ≤ k → k < q → cls k ≠ 3) → stLe (ST p) (ST q) := by
    intro p q hpq
    induction q with
    | zero => intro _ _; have : p = 0 := by omega
              subst this; exact stLe.refl _
    | succ q ih =>
      intro hq hk
      by_cases he : p = q + 1
      · subst he; exact stLe.refl _
      · exact (ih (by omega) (by omega) (fun k h1 h2 => hk k h1 (by omega))).trans (hmild q (by omega) (hk q (by omega) (by omega)))
  have hrange0 : ∀ p q, p ≤ q → q ≤ so.length → (∀ k, p ≤ k → k < q → cls k < 2) → ST p = ST q := by
    intro p q hpq
    induction q with
    | zero => intro _ _; have : p = 0 := by omega
              subst this; rfl
    | succ q ih =>
      intro hq hk
      by_cases he : p = q + 1
      · subst he; rfl
      · rw [ih (by omega) (by omega) (fun k h1 h2 => hk k h1 (by omega)), hsame q (by omega) (hk q (by omega) (by omega))]
  -- the induction
  have main : ∀ (fuel : Nat) (listed : Array Bool) (S : Sim) (a : Act) (frD : Fr), listed.size = ops.size → (listed.toList.filter (fun b => !b)).length = fuel →
      (∀ (i : Nat) (p : Oper), ops.toList[i]? = some p → listed.getD i false = true → ∀ e ∈ p.after, Region.binds .any e = true → listed.getD e.on false = true) →
      S.B = S0.B → S.A = S0.A → Step S0 S → a.tmps.size = N → FrOk S frD a → (∀ s, look frD.s s = expS dst av fr.s (fun k => listed.getD k false) s so.length) → frD.d = fr'.d → S.st = ST (posE cls (fun k => listed.getD k false) so.length) →
      wpAny P .any ops (Post S0 N (.nx, fr', st')) fuel listed a S.w := by
    intro fuel
    induction fuel with
    | zero =>
      intro listed S a frD hsz hcount hclosed hB hA hst hN hf hlook hfd hS
      have hall : ∀ k, k < ops.size → listed.getD k false = true := by
        intro k hk
        have hk' : k < listed.size := by omega
        cases hb : listed[k] with
        | true => simp [Array.getD_eq_getD_getElem?, hk', hb]
        | false =>
          have : false ∈ listed.toList.filter (fun b => !b) := by
            rw [List.mem_filter]
            exact ⟨by rw [← hb]; simp, rfl⟩
          have := List.length_pos_of_mem this
          omega
      have hready : Region.ready .any ops listed = [] := by
        cases hr : Region.ready .any ops listed with
        | nil => rfl
        | cons x xs =>
          have hx : x ∈ Region.ready .any ops listed := by rw [hr]; simp
          obtain ⟨h1, o, h2, _⟩ := mem_ready.1 hx
          have hxl : x < ops.size := (Array.getElem?_eq_some_iff.1 h2).1
          have := hall x hxl
          have hx' : x < listed.size := by omega
          simp [Array.getD_eq_getD_getElem?, hx'] at h1 this
          rw [h1] at this; cases this
      have e1 : ∀ s, look frD.s s = look fr'.s s := by
        intro s
        rw [hlook s, ← hlast.1, hFR so.length (Nat.le_refl _) s]
        refine expS_congr _ fun k hk _ => ?_
        rw [hall k (by omega)]
      have e2 : S.st = st' := by
        rw [hS, ← hlast.2]
        refine hrange0 _ _ (posE_inv _).1 (Nat.le_refl _) fun k h1 h2 => ?_
        rcases Nat.lt_or_ge (cls k) 2 with h | h
        · exact h
        · have := (posE_inv (cls := cls) (D := fun k => listed.getD k false) so.length).2.1 k h2 (hall k (by omega)) h
          omega
      exact ⟨hready, S, rfl, e2, hB, hA, hst, hN, ⟨fun i x hx => hf.s i x (by rw [e1]; exact hx), hfd ▸ hf.d⟩, trivial⟩
    | succ fuel ih =>
      intro listed S a frD hsz hcount hclosed hB hA hst hN hf hlook hfd hS
      refine ⟨fun hr => ?_, fun i hi => ?_⟩
      · -- some operation is ready
        exfalso
        have hne : listed.toList.filter (fun b => !b) ≠ [] := by intro h; rw [h] at hcount; simp at hcount
        have hex : ∃ k, k < ops.size ∧ listed.getD k true = false := by
          obtain ⟨b, hb⟩ := List.exists_mem_of_ne_nil _ hne
          rw [List.mem_filter] at hb
          obtain ⟨k, hk⟩ := List.mem_iff_getElem?.1 hb.1
          have hkl := (List.getElem?_eq_some_iff.1 hk).1
          have hb2 : b = false := by simpa using hb.2
          subst hb2
          refine ⟨k, by simp at hkl; omega, ?_⟩
          simp only [Array.getElem?_toList] at hk
          simp [Array.getD_eq_getD_getElem?, hk]
        obtain ⟨k, hk1, hk2⟩ := hex
        have hmin : ∀ m, m < ops.size → listed.getD m true = false → False := by
          intro m
          induction m using Nat.strongRecOn with
          | _ m ihm =>
            intro hm hlm
            have ho : ops[m]? = some ops[m] := by simp [hm]
            have hol : ops.toList[m]? = some ops[m] := by simp [hm]
            have : m ∈ Region.ready .any ops listed := mem_ready.2 ⟨hlm, ops[m], ho, fun e he hbe => by
              have h1 := F.lt m _ hol e he hbe
              have h2 : e.on < listed.size := by omega
              cases hle : listed[e.on] with
              | true => simp [Array.getD_eq_getD_getElem?, h2, hle]
              | false => exact (ihm e.on h1 (by omega) (by simp [Array.getD_eq_getD_getElem?, h2, hle])).elim⟩
            rw [hr] at this; cases this
        exact hmin k hk1 hk2
      · obtain ⟨hun, o, hoi, hedges⟩ := mem_ready.1 hi
        have hil : i < ops.size := (Array.getElem?_eq_some_iff.1 hoi).1
        have hils : i < listed.size := by omega
        have hol : ops.toList[i]? = some o := by simpa using hoi
        obtain ⟨s, hsi, hone⟩ := hget i o hol
        obtain ⟨hd, hop, hg, hdst⟩ := stripOne_inv hone
        have hd' : o.dst.all (fun d => decide (d < a.tmps.size)) = true := by rw [hN]; exact hd
        let D : Nat → Bool := fun k => listed.getD k false
        have hDi : D i = false := by simp [Array.getD_eq_getD_getElem?, hils] at hun ⊢; simpa [D, Array.getD_eq_getD_getElem?, hils] using hun
        have hready : ∀ k ∈ (ancs ops.toList).getD i [], D k = true := by
          intro k hk
          obtain ⟨e, he, hb, hor⟩ := ancs_mem hol F.lt hk
          have h1 := hedges e he hb
          rcases hor with rfl | hm
          · exact h1
          · exact ancs_closed F.lt hclosed e.on (by have := F.lt i o hol e he hb; omega) h1 k hm
        have hord : ∀ k, k < so.length → k ∈ (ancs ops.toList).getD i [] ∨ i ∈ (ancs ops.toList).getD k [] → D k = decide (k < i) := fun k hk hor =>
          ordered F hclosed (by omega) hDi hready (by omega) hor
        have hisl : i < so.length := by omega
        -- slots
        have hslots : ∀ x ∈ soSlots s, look frD.s x = look (FR i).s x := by
          intro x hx
          rw [hlook x, hFR i (by omega) x, ← expS_lt so.length (by omega)]
          refine expS_congr _ fun k hk hkd => ?_
          by_cases hki : k = i
          · subst hki; rw [show listed.getD k false = false from hDi]; simp
          · have hok : so[k]? = some so[k] := by simp
            simp only [dst, hok, Option.bind_some] at hkd
            rcases F.pair k i so[k] s hki hok hsi with h | h | ⟨_, h, _⟩
            · exact hord k hk (.inl h)
            · exact hord k hk (.inr h)
            · exact absurd hx (h x hkd).1
        -- the state
        have hpos := posE_inv (cls := cls) (D := D) so.length
        have hclash : ∀ k, k < so.length → k ≠ i → clash (cls k) (cls i) = true → (∀ o, so[k]? = some o → ¬ (free = true ∧ loadStore o.op s.op = true)) → D k = decide (k < i) := by
          intro k hk hki hcl hnf
          have hok : so[k]? = some so[k] := by simp
          simp only [cls, hok, hsi] at hcl
          rcases F.pair k i so[k] s hki hok hsi with h | h | ⟨h, _, _⟩
          · exact hord k hk (.inl h)
          · exact hord k hk (.inr h)
          · rcases h with h | h
            · rw [hcl] at h; cases h
            · exact absurd h (hnf _ hok)
        have hcls_i : cls i = opClass kd s.op := by simp only [cls, hsi]
        have hS2 : 2 ≤ cls i → S.st = ST i ∧ posE cls D so.length ≤ i := by
          intro hc
          have hlt : ∀ k, k < so.length → 2 ≤ cls k → k ≠ i → D k = decide (k < i) := fun k hk hck hki => hclash k hk hki (by simp [clash]; left; omega) fun o ho hh => by
            have h1 := hcat k o ho
            have h2 := ls_class (kd := kd) hh.2
            omega
          have hple : posE cls D so.length ≤ i := by
            rcases Nat.eq_zero_or_pos (posE cls D so.length) with h0 | h0
            · omega
            · obtain ⟨h1, h2⟩ := hpos.2.2 h0
              have hne : posE cls D so.length - 1 ≠ i := by intro h; rw [h] at h1; rw [hDi] at h1; cases h1
              have := hlt _ (by omega) h2 hne
              rw [h1] at this
              have := of_decide_eq_true this.symm
              omega
          refine ⟨?_, hple⟩
          rw [hS]
          refine hrange0 _ _ hple (by omega) fun k h1 h2 => ?_
          rcases Nat.lt_or_ge (cls k) 2 with h | h
          · exact h
          · have h3 := hlt k (by omega) h (by omega)
            rw [decide_eq_true h2] at h3
            have h4 := hpos.2.1 k (by omega) h3 h
            exact absurd (Nat.lt_of_lt_of_le h4 h1) (Nat.lt_irrefl _)
        have hS1 : cls i = 1 → ∀ (b : Nat) (hb hb' : HB), (∀ k o, so[k]? = some o → free = true → loadStore o.op s.op = true → ∀ x, (ST k).H[b]? = some x → ∃ x', (ST (k + 1)).H[b]? = some x' ∧ x'.cells = x.cells) →
            S.st.H[b]? = some hb → (ST i).H[b]? = some hb' → hb'.cells = hb.cells := by
          intro hc b hb hb' hkeep h1 h2
          have h3cls : ∀ k, k < so.length → cls k = 3 → ¬ (free = true ∧ ∀ o, so[k]? = some o → loadStore o.op s.op = true) → D k = decide (k < i) := fun k hk hck hnf => hclash k hk (by intro h; rw [h] at hck; omega) (by simp [clash]; right; omega) fun o ho hh => hnf ⟨hh.1, fun o' ho' => by rw [ho] at ho'; cases ho'; exact hh.2⟩
          have hrangeB : ∀ p q, p ≤ q → q ≤ so.length → (∀ k, p ≤ k → k < q → cls k = 3 → free = true ∧ ∀ o, so[k]? = some o → loadStore o.op s.op = true) → ∀ x, (ST p).H[b]? = some x → ∃ x', (ST q).H[b]? = some x' ∧ x'.cells = x.cells := by
            intro p q hpq
            induction q with
            | zero => intro _ _ x hx; have : p = 0 := by omega
                      subst this; exact ⟨x, hx, rfl⟩
            | succ q ihq =>
              intro hq hk x hx
              by_cases he : p = q + 1
              · subst he; exact ⟨x, hx, rfl⟩
              · obtain ⟨x1, hx1, hx2⟩ := ihq (by omega) (by omega) (fun k h1 h2 => hk k h1 (by omega)) x hx
                have hoq : so[q]? = some so[q] := by simp
                by_cases h3 : cls q = 3
                · obtain ⟨k1, k2⟩ := hk q (by omega) (by omega) h3
                  obtain ⟨x2, hx3, hx4⟩ := hkeep q _ hoq k1 (k2 _ hoq) x1 hx1
                  exact ⟨x2, hx3, hx4.trans hx2⟩
                · obtain ⟨x2, hx3, hx4⟩ := hmild q (by omega) h3 b x1 hx1
                  exact ⟨x2, hx3, hx4.trans hx2⟩
          rw [hS] at h1
          rcases Nat.le_total (posE cls D so.length) i with hle | hle
          · have := hrangeB _ _ hle (by omega) fun k g1 g2 hk3 => Classical.byContradiction fun hnf => by
              have h4 := h3cls k (by omega) hk3 hnf
              rw [decide_eq_true g2] at h4
              have := hpos.2.1 k (by omega) h4 (by omega)
              omega
            obtain ⟨x, hx1, hx2⟩ := this hb h1
            rw [h2] at hx1; cases hx1; exact hx2
          · have := hrangeB _ _ hle hpos.1 fun k g1 g2 hk3 => Classical.byContradiction fun hnf => by
              have hki : k ≠ i := by intro h; rw [h] at hk3; omega
              have h4 := h3cls k (by omega) hk3 hnf
              have h5 : D k = false := by rw [h4]; simp; omega
              obtain ⟨p1, p2⟩ := hpos.2.2 (by omega)
              by_cases hkm : k = posE cls D so.length - 1
              · rw [← hkm] at p1; rw [h5] at p1; cases p1
              · have hok : so[k]? = some so[k] := by simp
                have hom : so[posE cls D so.length - 1]? = some so[posE cls D so.length - 1] := by simp
                have hcl : clash (opClass kd so[k].op) (opClass kd so[posE cls D so.length - 1].op) = true := by
                  rw [hcat k _ hok] at hk3
                  rw [hcat _ _ hom] at p2
                  simp [clash]; left; omega
                rcases F.pair k _ so[k] so[posE cls D so.length - 1] hkm hok hom with h | h | ⟨h, _, _⟩
                · have := ancs_closed F.lt hclosed _ (by omega) p1 k h
                  rw [show listed.getD k false = false from h5] at this; cases this
                · have := ancs_lt F.lt k _ h (by omega)
                  omega
                · rcases h with h | h
                  · rw [hcl] at h; cases h
                  · have h7 := hcat k _ hok
                    have h8 := hcat _ _ hom
                    have h9 := ls_class (kd := kd) h.2
                    omega
            obtain ⟨x, hx1, hx2⟩ := this hb' h2
            rw [h1] at hx1; cases hx1; exact hx2.symm
        -- the next set
        have hcount' : ((listed.setIfInBounds i true).toList.filter (fun b => !b)).length = fuel := by
          have hli : listed[i] = false := by simpa [Array.getD_eq_getD_getElem?, hils] using hun
          have := List.countP_set (p := fun b : Bool => !b) (l := listed.toList) (i := i) (a := true) (by simpa using hils)
          simp only [List.countP_eq_length_filter] at this
          simp only [Array.toList_setIfInBounds]
          rw [this, hcount]
          simp [hli]
        have hclosed' : ∀ (k : Nat) (p : Oper), ops.toList[k]? = some p → (listed.setIfInBounds i true).getD k false = true → ∀ e ∈ p.after, Region.binds .any e = true → (listed.setIfInBounds i true).getD e.on false = true := by
          intro k p hp hk e he hb
          by_cases hki : i = k
          · subst hki
            rw [hol] at hp; cases hp
            exact getD_set_true (hedges e he hb)
          · rw [getD_set_ne false hki] at hk
            exact getD_set_true (hclosed k p hp hk e he hb)
        have hD' : ∀ k, (listed.setIfInBounds i true).getD k false = (D k || decide (k = i)) := by
          intro k
          by_cases hki : i = k
          · subst hki; simp [Array.getD_eq_getD_getElem?, hils]
          · rw [getD_set_ne false hki]
            have : ¬ k = i := fun h => hki h.symm
            simp [D, this]
        have hlook' : ∀ (x : Nat), look (frD.put s.dst (av i)).s x = expS dst av fr.s (fun k => (listed.setIfInBounds i true).getD k false) x so.length := by
          intro x
          have hdi : dst i = s.dst := by simp only [dst, hsi, Option.bind_some]
          by_cases hx : s.dst = some x
          · -- 'i' is the last that writes x
            have hothers : ∀ k, k < so.length → k ≠ i → dst k = some x → D k = decide (k < i) := by
              intro k hk hki hkd
              have hok : so[k]? = some so[k] := by simp
              simp only [dst, hok, Option.bind_some] at hkd
              rcases F.pair k i so[k] s hki hok hsi with h | h | ⟨_, h, _⟩
              · exact hord k hk (.inl h)
              · exact hord k hk (.inr h)
              · exact absurd hx (h x hkd).2
            have e1 : expS dst av fr.s (fun k => (listed.setIfInBounds i true).getD k false) x so.length = expS dst av fr.s (fun k => decide (k < i + 1)) x so.length := by
              refine expS_congr _ fun k hk hkd => ?_
              rw [hD' k]
              by_cases hki : k = i
              · subst hki; simp
              · rw [hothers k hk hki hkd]
                simp [hki]; omega
            rw [e1, expS_lt so.length (by omega)]
            simp only [expS, hdi, hx, Bool.true_and, beq_self_eq_true, if_true]
            simp [Fr.put, look_put]
          · have e1 : look (frD.put s.dst (av i)).s x = look frD.s x := by
              cases hsd : s.dst with
              | none => rfl
              | some d =>
                simp only [Fr.put, look_put]
                rw [if_neg (fun h => hx (by rw [hsd, h]))]
            rw [e1, hlook x]
            refine expS_congr _ fun k hk hkd => ?_
            rw [hD' k]
            have : k ≠ i := by intro h; subst h; rw [hdi] at hkd; exact hx hkd
            simp [D, this]
        have hst' : (2 ≤ cls i → ST (i + 1) = ST (posE cls (fun k => (listed.setIfInBounds i true).getD k false) so.length)) ∧ (cls i < 2 → posE cls (fun k => (listed.setIfInBounds i true).getD k false) so.length = posE cls D so.length) := by
          have hpos' := posE_inv (cls := cls) (D := fun k => (listed.setIfInBounds i true).getD k false) so.length
          constructor
          · intro hc
            have h1 := hpos'.2.1 i hisl (by show (listed.setIfInBounds i true).getD i false = true; rw [hD' i]; simp) hc
            have h2 : posE cls (fun k => (listed.setIfInBounds i true).getD k false) so.length = i + 1 := by
              have hp := hpos'.2.2 (by omega)
              rcases Nat.lt_or_ge i (posE cls (fun k => (listed.setIfInBounds i true).getD k false) so.length - 1) with h | h
              · exfalso
                have hp1 : D (posE cls (fun k => (listed.setIfInBounds i true).getD k false) so.length - 1) = true := by
                  have h5 : (listed.setIfInBounds i true).getD (posE cls (fun k => (listed.setIfInBounds i true).getD k false) so.length - 1) false = true := hp.1
                  rw [hD' (posE cls (fun k => (listed.setIfInBounds i true).getD k false) so.length - 1), decide_eq_false (by omega), Bool.or_false] at h5
                  exact h5
                have := hpos.2.1 _ (by omega) hp1 hp.2
                have := (hS2 hc).2
                omega
              · omega
            rw [h2]
          · intro hc
            have gen : ∀ m, posE cls (fun k => (listed.setIfInBounds i true).getD k false) m = posE cls D m := by
              intro m
              induction m with
              | zero => rfl
              | succ m ihm =>
                simp only [posE, ihm, hD' m]
                by_cases hmi : m = i
                · subst hmi
                  have : ¬ 2 ≤ cls m := by omega
                  simp [this]
                · simp [hmi]
            exact gen _
        -- what the operation does
        have hstepi := (hstep i s hsi).1
        have hA1 : Agree frD (FR i) (match s.g with | some (x, _) => [x] | none => []) := fun x hx => hslots x (by simp only [soSlots]; exact List.mem_append_left _ hx)
        have hA2 : Agree frD (FR i) (opSlots s.op) := fun x hx => hslots x (by simp only [soSlots]; exact List.mem_append_right _ hx)
        unfold wpOp
        rw [hoi]
        simp only
        simp only [stepS] at hstepi
        split at hstepi
        · cases hstepi
        · rename_i hw
          rw [← wants_congr hA1] at hw
          rw [wanted_ok hf hg hw]
          simp only [Bool.false_eq_true, if_false]
          simp only [Option.some.injEq, Prod.mk.injEq] at hstepi
          have hav : av i = und := hstepi.1.symm
          have hstEq : S.st = ST (posE cls (fun k => (listed.setIfInBounds i true).getD k false) so.length) := by
            rcases Nat.lt_or_ge (cls i) 2 with h | h
            · rw [hst'.2 h]; exact hS
            · rw [← hst'.1 h, ← hstepi.2]; exact (hS2 h).1
          have hput := hf.put (x := und) (y := undef) (dst := o.dst) (.tup .nil) hd'
          refine ih (listed.setIfInBounds i true) S _ (frD.put s.dst (av i)) (by simp [hsz]) hcount' hclosed' hB hA hst (by rw [put_size, hN]) ?_ hlook' ?_ hstEq
          · rw [hdst, hav]; exact hput
          · cases s.dst <;> exact hfd
        · rename_i hw
          rw [← wants_congr hA1] at hw
          rw [wanted_ok hf hg hw]
          simp only [if_true]
          split at hstepi
          · rename_i x s1 hev
            simp only [Option.some.injEq, Prod.mk.injEq] at hstepi
            obtain ⟨rfl, hs1⟩ := hstepi
            -- the same, in the state that stands
            have hev' : ∃ s2, evOp C frD S.st s.op = some (.ret (av i), s2) ∧ s2 = ST (posE cls (fun k => (listed.setIfInBounds i true).getD k false) so.length) := by
              rw [evOp_congr hA2]
              rcases Nat.lt_or_ge (cls i) 2 with h | h
              · have hcc : cls i = 0 ∨ cls i = 1 := by omega
                rcases hcc with h0 | h0
                · rw [hcls_i] at h0
                  exact ⟨S.st, (class0 h0 hev).2 S.st, by rw [hst'.2 h]; exact hS⟩
                · rcases (class1 hM (by rw [hcls_i] at h0; exact h0) hev).2 with ⟨k, z, hopl⟩ | ⟨g, l, as, hopl, has, hpure, hall⟩
                  rotate_left
                  · refine ⟨S.st, ?_, by rw [hst'.2 h]; exact hS⟩
                    rw [hopl] at hop
                    obtain ⟨q, hq⟩ := strip_call hop
                    have has' : evXs frD l = some as := by
                      rw [hopl] at hA2
                      rw [← has]
                      exact evXs_congr (fun x hx => hA2 x (by simp only [opSlots, xSlots, List.nil_append]; exact hx))
                    have hrl := stripXs_rep hf hq has'
                    refine hall S.st (hrl.alike hst.inv fun b hb hb' h1 h2 => hS1 h0 b hb hb' (fun m o ho hfr hls => ?_) h1 h2)
                    rw [hopl] at hls
                    cases hom : o.op <;> rw [hom] at hls <;> simp [loadStore] at hls
                  rw [hopl] at hev ⊢
                  simp only [evOp] at hev ⊢
                  split at hev
                  · rename_i p hp
                    rw [Option.map_eq_some_iff] at hev
                    obtain ⟨v, hv, hev⟩ := hev
                    simp only [Prod.mk.injEq, ORes.ret.injEq] at hev
                    obtain ⟨rfl, _⟩ := hev
                    refine ⟨S.st, ?_, by rw [hst'.2 h]; exact hS⟩
                    -- the pointer is known in the state that stands
                    have hpr : ∃ y, Rep S p y := by
                      cases z with
                      | t j =>
                        simp only [evX] at hp
                        rw [hopl] at hA2
                        rw [← hA2 j (by simp [opSlots, xSlots])] at hp
                        obtain ⟨y, _, hy⟩ := hf.s j p hp
                        exact ⟨y, hy⟩
                      | c cst =>
                        simp only [evX, Option.some.injEq] at hp
                        subst hp
                        rw [hopl] at hop
                        obtain ⟨q, hq⟩ := strip_load hop
                        exact ⟨_, stripX_rep hf hq rfl⟩
                    obtain ⟨y, hy⟩ := hpr
                    have : opLoad S.st k p = some (av i) := by
                      cases hy with
                      | ptr hb =>
                        rename_i b off g
                        simp only [opLoad] at hv ⊢
                        split at hv
                        · rename_i hb' hH
                          obtain ⟨_, _, c, ty, hH2, _⟩ := hst.inv.blk b g hb
                          rw [hH2]
                          simp only
                          rw [← hS1 h0 b _ hb' (fun m o ho hfr hls x hx => by
                            have hne := hfree hfr
                            have hto : (true, b) ∈ touched C so fr S0.st := T.touched i s hsi _ (by
                              have hwi : wants (FR i) s.g = some true := by rw [← wants_congr hA1]; exact hw
                              show (true, b) ∈ touch s (FR i)
                              simp [touch, hwi, hopl, hp])
                            have h5 := (hstep m o ho).1
                            simp only [stepS] at h5
                            split at h5
                            · cases h5
                            · simp only [Option.some.injEq, Prod.mk.injEq] at h5; rw [← h5.2]; exact ⟨x, hx, rfl⟩
                            · rename_i hwm
                              rw [hopl] at hls
                              cases hom : o.op <;> rw [hom] at hls <;> simp only [loadStore] at hls <;> first | (cases hls; done) | skip
                              rename_i k2 z2 y2
                              rw [hom] at h5
                              simp only [evOp] at h5
                              split at h5
                              · rename_i a1 st1 hev5
                                simp only [Option.some.injEq, Prod.mk.injEq] at h5
                                split at hev5
                                · rename_i p2 y3 hp2 hy3
                                  rw [Option.map_eq_some_iff] at hev5
                                  obtain ⟨st3, hst3, hev5⟩ := hev5
                                  cases hev5
                                  rw [← h5.2]
                                  unfold opStore at hst3
                                  split at hst3
                                  · rename_i c2 off2
                                    have hts : (false, c2) ∈ touched C so fr S0.st := T.touched m o ho _ (by
                                      show (false, c2) ∈ touch o (FR m)
                                      simp [touch, hwm, hom, hp2])
                                    have hbc := free_ne hne hto hts
                                    split at hst3
                                    · split at hst3
                                      · cases hst3
                                        refine ⟨x, ?_, rfl⟩
                                        show ((ST m).H.set c2 _)[b]? = some x
                                        rw [List.getElem?_set_ne (Ne.symm hbc)]; exact hx
                                      · cases hst3
                                    · cases hst3
                                  · cases hst3
                                · cases hev5
                              · cases h5) hH2 hH]; exact hv
                        · cases hv
                      | ep _ _ _ _ => exact hv
                      | _ => simp [opLoad] at hv
                    rw [this]; rfl
                  · cases hev
              · have := hS2 h
                rw [this.1]
                exact ⟨s1, hev, by rw [hs1]; exact hst'.1 h⟩
            obtain ⟨s2, hev2, hs2⟩ := hev'
            refine .inl ?_
            have hgo := op_sound hC hst.inv hf hop hev2
            refine hgo _ _ fun S' y e1 e2 e3 e4 e5 => ?_
            refine ih (listed.setIfInBounds i true) S' _ (frD.put s.dst (av i)) (by simp [hsz]) hcount' hclosed' (e2.trans hB) (e3.trans hA) (hst.trans e4) (by rw [put_size, hN]) ?_ hlook' ?_ (by rw [e1, hs2])
            · rw [hdst]; exact (hf.ext e4.ext).put e5 hd'
            · cases s.dst <;> exact hfd
          · cases hstepi
  -- the beginning
  have h0 : ∀ k, (Array.replicate ops.size false).getD k false = false := by
    intro k
    simp [Array.getD_eq_getD_getElem?, Array.getElem?_replicate]
    split <;> rfl
  have hfd : fr.d = fr'.d := by
    have : ∀ m, m ≤ so.length → (FR m).d = fr.d := by
      intro m
      induction m with
      | zero => intro _; rw [hzero.1]
      | succ m ihm =>
        intro hm
        have ho : so[m]? = some so[m] := by simp
        rw [(hstep m _ ho).2]
        cases so[m].dst <;> exact ihm (by omega)
    rw [← hlast.1]; exact (this so.length (Nat.le_refl _)).symm
  refine main ops.size (Array.replicate ops.size false) (S0.at S0.w.drew) a0 fr (by simp) (by simp) (fun i p _ h => by rw [h0] at h; cases h) rfl rfl hst0 hN0 (hf0.ext hst0.ext) (fun s => ?_) hfd ?_
  · have : ∀ m, expS dst av fr.s (fun k => (Array.replicate ops.size false).getD k false) s m = look fr.s s := by
      intro m
      induction m with
      | zero => rfl
      | succ m ihm => simp only [h0] at ihm; simp only [expS, h0, Bool.false_and, Bool.false_eq_true, if_false]; exact ihm
    exact (this _).symm
  · have : ∀ m, posE cls (fun k => (Array.replicate ops.size false).getD k false) m = 0 := by
      intro m
      induction m with
      | zero => rfl
      | succ m ihm => simp only [h0] at ihm; simp only [posE, h0, Bool.false_and, Bool.false_eq_true, if_false]; exact ihm
    rw [this]; exact hzero.2.symm

end

end VS
end Go.Proofs.Ytbnhmahkgeaajaa
