/- The evaluator without fuel: its limit, and the equations by which code is read. -/
import Derived.Test.YtbnhmahkgeaajaaVsCall
namespace Go.Proofs.Ytbnhmahkgeaajaa
namespace VS

def CallF.le (C D : CallF) : Prop := ∀ (f : FuncId) (args : List AV) (st : St) (r : Res × St), C f args st = some r → D f args st = some r

theorem evOp_mono {C D : CallF} (h : C.le D) {fr : Fr} {st : St} {op : SOp} {r : ORes × St} (he : evOp C fr st op = some r) : evOp D fr st op = some r := by
  cases op
  case call f args =>
    simp only [evOp] at he ⊢
    split at he
    · split at he
      · rename_i hc; rw [h _ _ _ _ hc]; exact he
      · rename_i hc; rw [h _ _ _ _ hc]; exact he
      · cases he
    · cases he
  all_goals exact he

theorem evOps_mono {C D : CallF} (h : C.le D) : ∀ {ops : List SO} {fr : Fr} {st : St} {out : Out}, evOps C ops fr st = some out → evOps D ops fr st = some out
  | [], _, _, _, he => he
  | o :: r, fr, st, out, he => by
    simp only [evOps] at he ⊢
    split at he
    · cases he
    · exact evOps_mono h he
    · split at he
      · cases he
      · rename_i hev; rw [evOp_mono h hev]; exact evOps_mono h he
      · rename_i hev; rw [evOp_mono h hev]; exact he
      · rename_i hev; rw [evOp_mono h hev]; exact evOps_mono h he

theorem touched_mono {C D : CallF} (h : C.le D) : ∀ {ops : List SO} {fr fr' : Fr} {st st' : St}, evOps C ops fr st = some (.nx, fr', st') → touched D ops fr st = touched C ops fr st
  | [], _, _, _, _, _ => rfl
  | o :: r, fr, fr', st, st', he => by
    simp only [evOps] at he
    split at he
    · cases he
    · rename_i hw
      simp only [touched, stepS, hw, touched_mono h he]
    · rename_i hw
      split at he
      · cases he
      · rename_i hev
        simp only [touched, stepS, hw, hev, evOp_mono h hev, touched_mono h he]
      · cases he
      · rename_i hev
        simp only [touched, stepS, hw, hev, evOp_mono h hev]

abbrev RunF := SCode → Fr → St → Option Out
def RunF.le (R S : RunF) : Prop := ∀ (c : SCode) (fr : Fr) (st : St) (out : Out), R c fr st = some out → S c fr st = some out

theorem inner_mono {R S : RunF} (h : R.le S) {s : SFn} {args : List AV} {st : St} {r : Res × St} (he : inner R s args st = some r) : inner S s args st = some r := by
  unfold inner at he
  split at he
  · rename_i hc; simp only [inner, h _ _ _ _ hc]; exact he
  · rename_i hc; simp only [inner, h _ _ _ _ hc]; exact he
  · rename_i hc; simp only [inner, h _ _ _ _ hc]; exact he
  · cases he

theorem catchR_mono {T : FuncId → Option SFn} {R S : RunF} (h : R.le S) {g : FuncId} {caps : List AV} {v : AV} {st st2 : St} (he : catchR T R g caps v st = some st2) : catchR T S g caps v st = some st2 := by
  unfold catchR at he
  split at he
  · rename_i s hs
    split at he
    · rename_i r x hk
      split at he
      · rename_i hl
        split at he
        · rename_i out hr
          unfold catchR
          rw [hs]
          simp only [hk, hl, if_true, h _ _ _ _ hr]
          exact he
        · cases he
      · cases he
    · cases he
  · cases he

theorem innerG_mono {T : FuncId → Option SFn} {R S : RunF} (h : R.le S) {s : SFn} {args : List AV} {st : St} {r : AV × St} (he : innerG T R s args st = some r) : innerG T S s args st = some r := by
  unfold innerG at he
  split at he
  · rename_i out hr
    split at he
    · rename_i l g caps v st1 ho
      split at he
      · rename_i st2 hc
        unfold innerG
        rw [h _ _ _ _ hr]
        simp only [ho, catchR_mono h hc]
        exact he
      · cases he
    · cases he
  · cases he

theorem callOf_mono {T : FuncId → Option SFn} {R S : RunF} (h : R.le S) : (callOf T R).le (callOf T S) := by
  intro f args st r he
  unfold callOf at he
  split at he
  · cases he
  · rename_i s hs
    unfold callOf
    rw [hs]
    simp only
    split at he
    · rename_i hl
      rw [if_pos hl]
      split at he
      · exact inner_mono h he
      · exact inner_mono h he
      · cases he
      · split at he
        · cases he
        · split at he
          · rename_i hi; rw [innerG_mono h hi]; exact he
          · cases he
      · split at he
        · cases he
        · split at he
          · rename_i hi; rw [inner_mono h hi]; exact he
          · rename_i hi; rw [inner_mono h hi]; exact he
          · cases he
      · split at he
        · cases he
        · have he0 := he
          split at he
          · rename_i hi; rw [inner_mono h hi]; exact he
          · rename_i hi; rw [inner_mono h hi]; exact he
          · rename_i _ hne hi; rw [inner_mono h hi]; rw [hi] at he0; exact he0
          · rename_i hi; rw [inner_mono h hi]; exact he
          · cases he
      · split at he
        · cases he
        · have he0 := he
          split at he
          · rename_i hi; rw [inner_mono h hi]; exact he
          · rename_i hi; rw [inner_mono h hi]; exact he
          · rename_i _ hne hi; rw [inner_mono h hi]; rw [hi] at he0; exact he0
          · rename_i hi; rw [inner_mono h hi]; exact he
          · cases he
      · split at he
        · cases he
        · split at he
          · rename_i hi; rw [inner_mono h hi]; exact he
          · cases he
    · cases he

theorem run_mono {T : FuncId → Option SFn} : ∀ (n : Nat), RunF.le (run T n) (run T (n + 1))
  | 0 => fun _ _ _ _ h => by simp [run] at h
  | n + 1 => fun c fr st out h => by
    have ih := run_mono (T := T) n
    rw [run.eq_def] at h ⊢
    simp only at h ⊢
    cases c with
    | skip => exact h
    | region ops draw =>
      simp only at h ⊢
      split at h
      · rename_i he; rw [evOps_mono (callOf_mono ih) he]; exact h
      · rename_i o hno
        split at h
        · cases h
        · rename_i hd
          rw [evOps_mono (callOf_mono ih) h]
          obtain ⟨ex, f1, s1⟩ := out
          cases ex <;> simp only [hd, Bool.false_eq_true, if_false]
    | regionF ops =>
      simp only at h ⊢
      split at h
      · rename_i he
        rw [evOps_mono (callOf_mono ih) he]
        simp only [touched_mono (callOf_mono ih) he]
        exact h
      · cases h
    | seq ks a b =>
      simp only at h ⊢
      split at h
      · rename_i he; rw [ih _ _ _ _ he]; exact ih _ _ _ _ h
      · rename_i hno
        rw [ih _ _ _ _ h]
        obtain ⟨ex, f1, s1⟩ := out
        cases ex <;> first | rfl | (exact absurd h (hno _ _))
    | cond x a b =>
      simp only at h ⊢
      split at h
      · exact ih _ _ _ _ h
      · exact ih _ _ _ _ h
      · cases h
    | block id c =>
      simp only at h ⊢
      split at h
      · rename_i he; rw [ih _ _ _ _ he]; exact h
      · rename_i hno
        rw [ih _ _ _ _ h]
        obtain ⟨ex, f1, s1⟩ := out
        cases ex <;> first | rfl | (exact absurd h (hno _ _ _))
    | loop ks c =>
      simp only at h ⊢
      split at h
      · rename_i he; rw [ih _ _ _ _ he]; exact ih _ _ _ _ h
      · rename_i hno
        rw [ih _ _ _ _ h]
        obtain ⟨ex, f1, s1⟩ := out
        cases ex <;> first | rfl | (exact absurd h (hno _ _))
    | exit id => exact h
    | ret => exact h

theorem run_le {T : FuncId → Option SFn} {n m : Nat} (h : n ≤ m) : RunF.le (run T n) (run T m) := by
  induction m with
  | zero => have : n = 0 := by omega
            subst this; exact fun _ _ _ _ h => h
  | succ m ih =>
    by_cases he : n = m + 1
    · subst he; exact fun _ _ _ _ h => h
    · exact fun c fr st out h' => run_mono m c fr st out (ih (by omega) c fr st out h')

open Classical in
/-- What a row of answers comes to. -/
noncomputable def lim {α : Type} (g : Nat → Option α) : Option α := if h : ∃ n a, g n = some a then g (Classical.choose h) else none

theorem lim_some {α : Type} {g : Nat → Option α} (hm : ∀ n m a, n ≤ m → g n = some a → g m = some a) {a : α} : lim g = some a ↔ ∃ n, g n = some a := by
  unfold lim
  constructor
  · intro h
    split at h
    · exact ⟨_, h⟩
    · cases h
  · rintro ⟨n, hn⟩
    have hex : ∃ n a, g n = some a := ⟨n, a, hn⟩
    rw [dif_pos hex]
    obtain ⟨b, hb⟩ := Classical.choose_spec hex
    rcases Nat.le_total n (Classical.choose hex) with h | h
    · exact hm _ _ _ h hn
    · have := hm _ _ _ h hb
      rw [hn] at this; cases this; exact hb

noncomputable def runL (T : FuncId → Option SFn) : RunF := fun c fr st => lim fun n => run T n c fr st
noncomputable def callL (T : FuncId → Option SFn) : CallF := fun f args st => lim fun n => callOf T (run T n) f args st

section
variable {T : FuncId → Option SFn}

theorem runL_some {c : SCode} {fr : Fr} {st : St} {out : Out} : runL T c fr st = some out ↔ ∃ n, run T n c fr st = some out :=
  lim_some fun _ _ _ h hn => run_le h _ _ _ _ hn

theorem callL_some {f : FuncId} {args : List AV} {st : St} {r : Res × St} : callL T f args st = some r ↔ ∃ n, callOf T (run T n) f args st = some r :=
  lim_some fun _ _ _ h hn => callOf_mono (run_le h) _ _ _ _ hn

theorem run_leL (n : Nat) : RunF.le (run T n) (runL T) := fun _ _ _ _ h => runL_some.2 ⟨n, h⟩
theorem call_leL (n : Nat) : (callOf T (run T n)).le (callL T) := fun _ _ _ _ h => callL_some.2 ⟨n, h⟩

theorem inner_lim {s : SFn} {args : List AV} {st : St} {r : Res × St} (he : inner (runL T) s args st = some r) : ∃ n, inner (run T n) s args st = some r := by
  unfold inner at he
  split at he
  · rename_i hc; obtain ⟨n, hn⟩ := runL_some.1 hc; exact ⟨n, by simp only [inner, hn]; exact he⟩
  · rename_i hc; obtain ⟨n, hn⟩ := runL_some.1 hc; exact ⟨n, by simp only [inner, hn]; exact he⟩
  · rename_i hc; obtain ⟨n, hn⟩ := runL_some.1 hc; exact ⟨n, by simp only [inner, hn]; exact he⟩
  · cases he

theorem innerG_lim {s : SFn} {args : List AV} {st : St} {r : AV × St} (he : innerG T (runL T) s args st = some r) : ∃ n, innerG T (run T n) s args st = some r := by
  unfold innerG at he
  split at he
  · rename_i out hr
    obtain ⟨n, hn⟩ := runL_some.1 hr
    split at he
    · rename_i l g caps v st1 ho
      split at he
      · rename_i st2 hc
        have hc0 : ∃ m, catchR T (run T m) g caps v st1 = some st2 := by
          unfold catchR at hc
          split at hc
          · rename_i sg hs
            split at hc
            · rename_i r x hk
              split at hc
              · rename_i hl
                split at hc
                · rename_i out2 hr2
                  obtain ⟨m, hm⟩ := runL_some.1 hr2
                  refine ⟨m, ?_⟩
                  unfold catchR
                  rw [hs]
                  simp only [hk, hl, if_true, hm]
                  exact hc
                · cases hc
              · cases hc
            · cases hc
          · cases hc
        obtain ⟨m, hm⟩ := hc0
        refine ⟨max n m, ?_⟩
        unfold innerG
        rw [run_le (Nat.le_max_left n m) _ _ _ _ hn]
        simp only [ho, catchR_mono (run_le (Nat.le_max_right n m)) hm]
        exact he
      · cases he
    · cases he
  · cases he

theorem callL_eq (f : FuncId) (args : List AV) (st : St) : callL T f args st = callOf T (runL T) f args st := by
  have key : ∀ r, callL T f args st = some r ↔ callOf T (runL T) f args st = some r := by
    intro r
    constructor
    · intro h
      obtain ⟨n, hn⟩ := callL_some.1 h
      exact callOf_mono (run_leL n) _ _ _ _ hn
    · intro he
      refine callL_some.2 ?_
      unfold callOf at he
      split at he
      · cases he
      · rename_i s hs
        split at he
        · rename_i hl
          split at he
          · rename_i hk
            obtain ⟨n, hn⟩ := inner_lim he
            exact ⟨n, by simp only [callOf, hs, hl, if_true, hk]; exact hn⟩
          · rename_i hk
            obtain ⟨n, hn⟩ := inner_lim he
            exact ⟨n, by simp only [callOf, hs, hl, if_true, hk]; exact hn⟩
          · cases he
          · rename_i hk
            split at he
            · cases he
            · rename_i hx
              split at he
              · rename_i hi; obtain ⟨n, hn⟩ := innerG_lim hi; exact ⟨n, by simp only [callOf, hs, hl, if_true, hk, hx, hn]; exact he⟩
              · cases he
          · rename_i hk
            split at he
            · cases he
            · rename_i hx
              split at he
              · rename_i hi; obtain ⟨n, hn⟩ := inner_lim hi; exact ⟨n, by simp only [callOf, hs, hl, if_true, hk, hx, hn]; exact he⟩
              · rename_i hi; obtain ⟨n, hn⟩ := inner_lim hi; exact ⟨n, by simp only [callOf, hs, hl, if_true, hk, hx, hn]; exact he⟩
              · cases he
          · rename_i hk
            split at he
            · cases he
            · rename_i hx
              split at he
              · rename_i hi; obtain ⟨n, hn⟩ := inner_lim hi; exact ⟨n, by simp only [callOf, hs, hl, if_true, hk, hx, hn]; exact he⟩
              · rename_i hi; obtain ⟨n, hn⟩ := inner_lim hi; exact ⟨n, by simp only [callOf, hs, hl, if_true, hk, hx, hn]; exact he⟩
              · rename_i _ hno hi; obtain ⟨n, hn⟩ := inner_lim hi
                refine ⟨n, ?_⟩
                simp only [callOf, hs, hl, if_true, hk, hx, hn]; exact he
              · rename_i hi; obtain ⟨n, hn⟩ := inner_lim hi; exact ⟨n, by simp only [callOf, hs, hl, if_true, hk, hx, hn]; exact he⟩
              · cases he
          · rename_i hk
            split at he
            · cases he
            · rename_i hx
              split at he
              · rename_i hi; obtain ⟨n, hn⟩ := inner_lim hi; exact ⟨n, by simp only [callOf, hs, hl, if_true, hk, hx, hn]; exact he⟩
              · rename_i hi; obtain ⟨n, hn⟩ := inner_lim hi; exact ⟨n, by simp only [callOf, hs, hl, if_true, hk, hx, hn]; exact he⟩
              · rename_i _ hno hi; obtain ⟨n, hn⟩ := inner_lim hi
                refine ⟨n, ?_⟩
                simp only [callOf, hs, hl, if_true, hk, hx, hn]; exact he
              · rename_i hi; obtain ⟨n, hn⟩ := inner_lim hi; exact ⟨n, by simp only [callOf, hs, hl, if_true, hk, hx, hn]; exact he⟩
              · cases he
          · rename_i hk
            split at he
            · cases he
            · rename_i hx
              split at he
              · rename_i hi; obtain ⟨n, hn⟩ := inner_lim hi; exact ⟨n, by simp only [callOf, hs, hl, if_true, hk, hx, hn]; exact he⟩
              · cases he
        · cases he
  cases h : callL T f args st with
  | some r => exact ((key r).1 h).symm
  | none =>
    cases h2 : callOf T (runL T) f args st with
    | none => rfl
    | some r => rw [(key r).2 h2] at h; cases h

theorem evOps_lim : ∀ {ops : List SO} {fr : Fr} {st : St} {out : Out}, evOps (callL T) ops fr st = some out → ∃ n, evOps (callOf T (run T n)) ops fr st = some out
  | [], _, _, _, he => ⟨0, he⟩
  | o :: r, fr, st, out, he => by
    have hop : ∀ q, evOp (callL T) fr st o.op = some q → ∃ n, evOp (callOf T (run T n)) fr st o.op = some q := by
      intro q hq
      cases hop : o.op
      case call f args =>
        rw [hop] at hq
        simp only [evOp] at hq ⊢
        split at hq
        · rename_i h1 h2
          split at hq
          · rename_i hc; obtain ⟨n, hn⟩ := callL_some.1 hc; exact ⟨n, by rw [hn]; exact hq⟩
          · rename_i hc; obtain ⟨n, hn⟩ := callL_some.1 hc; exact ⟨n, by rw [hn]; exact hq⟩
          · cases hq
        · cases hq
      all_goals (rw [hop] at hq; exact ⟨0, hq⟩)
    simp only [evOps] at he ⊢
    split at he
    · cases he
    · exact evOps_lim he
    · split at he
      · cases he
      · rename_i hev
        obtain ⟨n, hn⟩ := hop _ hev
        obtain ⟨m, hm⟩ := evOps_lim he
        refine ⟨max n m, ?_⟩
        rw [evOp_mono (callOf_mono (run_le (Nat.le_max_left n m))) hn]
        exact evOps_mono (callOf_mono (run_le (Nat.le_max_right n m))) hm
      · rename_i hev
        obtain ⟨n, hn⟩ := hop _ hev
        exact ⟨n, by rw [hn]; exact he⟩
      · rename_i hev
        obtain ⟨n, hn⟩ := hop _ hev
        obtain ⟨m, hm⟩ := evOps_lim he
        refine ⟨max n m, ?_⟩
        rw [evOp_mono (callOf_mono (run_le (Nat.le_max_left n m))) hn]
        exact evOps_mono (callOf_mono (run_le (Nat.le_max_right n m))) hm

theorem opt_eq {α : Type} {x y : Option α} (h : ∀ a, x = some a ↔ y = some a) : x = y := by
  cases hx : x with
  | some a => exact ((h a).1 hx).symm
  | none =>
    cases hy : y with
    | none => rfl
    | some a => rw [(h a).2 hy] at hx; cases hx

theorem runL_iff {c : SCode} {fr : Fr} {st : St} {out : Out} : runL T c fr st = some out ↔ ∃ n, run T (n + 1) c fr st = some out := by
  rw [runL_some]
  constructor
  · rintro ⟨n, hn⟩; exact ⟨n, run_mono n _ _ _ _ hn⟩
  · rintro ⟨n, hn⟩; exact ⟨n + 1, hn⟩

variable (fr : Fr) (st : St)

theorem runL_skip : runL T .skip fr st = some (.nx, fr, st) := runL_iff.2 ⟨0, rfl⟩
theorem runL_exit (id : Nat) : runL T (.exit id) fr st = some (.ex id, fr, st) := runL_iff.2 ⟨0, rfl⟩
theorem runL_ret : runL T .ret fr st = some (.rt, fr, st) := runL_iff.2 ⟨0, rfl⟩

theorem runL_region (ops : List SO) : runL T (.region ops false) fr st = evOps (callL T) ops fr st := by
  refine opt_eq fun out => runL_iff.trans ⟨?_, fun h => ?_⟩
  · rintro ⟨n, hn⟩
    simp only [run] at hn
    refine evOps_mono (call_leL n) ?_
    split at hn
    · rename_i he; rw [he]; exact hn
    · simpa using hn
  · obtain ⟨n, hn⟩ := evOps_lim h
    refine ⟨n, ?_⟩
    simp only [run, hn]
    obtain ⟨ex, f1, s1⟩ := out
    cases ex <;> rfl

/-- Only the way straight on is taken. -/
def onlyNx (o : Option Out) : Option Out := match o with
  | some (.nx, fr, st) => some (.nx, fr, st)
  | _ => none

theorem runL_draw (ops : List SO) : runL T (.region ops true) fr st = onlyNx (evOps (callL T) ops fr st) := by
  refine opt_eq fun out => runL_iff.trans ⟨?_, fun h => ?_⟩
  · rintro ⟨n, hn⟩
    simp only [run] at hn
    split at hn
    · rename_i he; rw [evOps_mono (call_leL n) he]; exact hn
    · simp at hn
  · unfold onlyNx at h
    split at h
    · rename_i he
      obtain ⟨n, hn⟩ := evOps_lim he
      exact ⟨n, by simp only [run, hn]; exact h⟩
    · cases h

/-- A drawn region with loads and stores that no edge orders. -/
def freeR (C : CallF) (ops : List SO) (fr : Fr) (st : St) : Option Out → Option Out
  | some (.nx, fr1, st1) => if freeOk (touched C ops fr st) then some (.nx, fr1, st1) else none
  | _ => none

theorem runL_regionF (ops : List SO) : runL T (.regionF ops) fr st = freeR (callL T) ops fr st (evOps (callL T) ops fr st) := by
  refine opt_eq fun out => runL_iff.trans ⟨?_, fun h => ?_⟩
  · rintro ⟨n, hn⟩
    simp only [run] at hn
    split at hn
    · rename_i he
      rw [evOps_mono (call_leL n) he]
      simp only [freeR, touched_mono (call_leL n) he]
      exact hn
    · cases hn
  · unfold freeR at h
    split at h
    · rename_i he
      obtain ⟨n, hn⟩ := evOps_lim he
      refine ⟨n, ?_⟩
      simp only [run, hn, ← touched_mono (call_leL n) hn]
      exact h
    · cases h

/-- What stands behind code, where it ends straight on. -/
def thenR (o : Option Out) (k : Fr → St → Option Out) : Option Out := match o with
  | some (.nx, fr, st) => k fr st
  | o => o

theorem runL_seq (ks : List Nat) (a b : SCode) : runL T (.seq ks a b) fr st = thenR (runL T a fr st) fun fr1 st1 => runL T b (fr1.only ks) st1 := by
  refine opt_eq fun out => runL_iff.trans ⟨?_, fun h => ?_⟩
  · rintro ⟨n, hn⟩
    simp only [run] at hn
    unfold thenR
    split at hn
    · rename_i he; rw [run_leL n _ _ _ _ he]; exact run_leL n _ _ _ _ hn
    · rename_i hno
      rw [run_leL n _ _ _ _ hn]
      obtain ⟨ex, f1, s1⟩ := out
      cases ex <;> first | rfl | (exact absurd hn (hno _ _))
  · unfold thenR at h
    split at h
    · rename_i he
      obtain ⟨n, hn⟩ := runL_some.1 he
      obtain ⟨m, hm⟩ := runL_some.1 h
      exact ⟨max n m, by simp only [run, run_le (Nat.le_max_left n m) _ _ _ _ hn, run_le (Nat.le_max_right n m) _ _ _ _ hm]⟩
    · rename_i hno
      obtain ⟨n, hn⟩ := runL_some.1 h
      refine ⟨n, ?_⟩
      simp only [run, hn]
      obtain ⟨ex, f1, s1⟩ := out
      cases ex <;> first | rfl | (exact absurd h (hno _ _))

theorem runL_cond (x : SX) (a b : SCode) : runL T (.cond x a b) fr st = (match evX fr x with
    | some (.v (.bool true)) => runL T a fr st
    | some (.v (.bool false)) => runL T b fr st
    | _ => none) := by
  refine opt_eq fun out => runL_iff.trans ⟨?_, fun h => ?_⟩
  · rintro ⟨n, hn⟩
    simp only [run] at hn
    split at hn
    · rename_i hx; rw [hx]; exact run_leL n _ _ _ _ hn
    · rename_i hx; rw [hx]; exact run_leL n _ _ _ _ hn
    · cases hn
  · split at h
    · rename_i hx; obtain ⟨n, hn⟩ := runL_some.1 h; exact ⟨n, by simp only [run, hx, hn]⟩
    · rename_i hx; obtain ⟨n, hn⟩ := runL_some.1 h; exact ⟨n, by simp only [run, hx, hn]⟩
    · cases h

/-- The end of a block. -/
def blockR (id : Nat) (o : Option Out) : Option Out := match o with
  | some (.ex i, fr, st) => if i = id then some (.nx, fr, st) else some (.ex i, fr, st)
  | o => o

theorem runL_block (id : Nat) (c : SCode) : runL T (.block id c) fr st = blockR id (runL T c fr st) := by
  refine opt_eq fun out => runL_iff.trans ⟨?_, fun h => ?_⟩
  · rintro ⟨n, hn⟩
    simp only [run] at hn
    unfold blockR
    split at hn
    · rename_i he; rw [run_leL n _ _ _ _ he]; exact hn
    · rename_i hno
      rw [run_leL n _ _ _ _ hn]
      obtain ⟨ex, f1, s1⟩ := out
      cases ex <;> first | rfl | (exact absurd hn (hno _ _ _))
  · unfold blockR at h
    split at h
    · rename_i he
      obtain ⟨n, hn⟩ := runL_some.1 he
      exact ⟨n, by simp only [run, hn]; exact h⟩
    · rename_i hno
      obtain ⟨n, hn⟩ := runL_some.1 h
      refine ⟨n, ?_⟩
      simp only [run, hn]
      obtain ⟨ex, f1, s1⟩ := out
      cases ex <;> first | rfl | (exact absurd h (hno _ _ _))

theorem runL_loop (ks : List Nat) (c : SCode) : runL T (.loop ks c) fr st = thenR (runL T c (fr.only ks) st) fun fr1 st1 => runL T (.loop ks c) fr1 st1 := by
  refine opt_eq fun out => runL_iff.trans ⟨?_, fun h => ?_⟩
  · rintro ⟨n, hn⟩
    simp only [run] at hn
    unfold thenR
    split at hn
    · rename_i he; rw [run_leL n _ _ _ _ he]; exact run_leL n _ _ _ _ hn
    · rename_i hno
      rw [run_leL n _ _ _ _ hn]
      obtain ⟨ex, f1, s1⟩ := out
      cases ex <;> first | rfl | (exact absurd hn (hno _ _))
  · unfold thenR at h
    split at h
    · rename_i he
      obtain ⟨n, hn⟩ := runL_some.1 he
      obtain ⟨m, hm⟩ := runL_some.1 h
      exact ⟨max n m, by simp only [run, run_le (Nat.le_max_left n m) _ _ _ _ hn, run_le (Nat.le_max_right n m) _ _ _ _ hm]⟩
    · rename_i hno
      obtain ⟨n, hn⟩ := runL_some.1 h
      refine ⟨n, ?_⟩
      simp only [run, hn]
      obtain ⟨ex, f1, s1⟩ := out
      cases ex <;> first | rfl | (exact absurd h (hno _ _))

/-- What the limit answers, a call comes to. -/
theorem callL_sound {P : Program} {kd : FuncId → Kind} (hmix : P.follows .mixedOrders = true) (hT : ∀ f s, T f = some s → ∃ fn, P.funcs[f]? = some fn ∧ stripFn P kd f fn = some s) : CallOk P (callL T) := by
  intro f args st r st' h
  obtain ⟨n, hn⟩ := callL_some.1 h
  exact call_sound hmix hT n f args st r st' hn

end

end VS
end Go.Proofs.Ytbnhmahkgeaajaa
