/- Calls of functions: sound, for every amount of fuel. -/
import Derived.Test.YtohfbjgcfbkgnaaVsFn
namespace Go.Proofs.Ytohfbjgcfbkgnaa
namespace VS

theorem look_init : ∀ {args : List AV} {k i : Nat} {x : AV}, look (initFr k args) i = some x → k ≤ i ∧ args[i - k]? = some x
  | [], k, i, x, h => by simp [initFr, look] at h
  | a :: r, k, i, x, h => by
    simp only [initFr, look_put] at h
    split at h
    · rename_i hk; subst hk; cases h; exact ⟨Nat.le_refl _, by simp⟩
    · obtain ⟨h1, h2⟩ := look_init h
      refine ⟨by omega, ?_⟩
      have : i - k = (i - (k + 1)) + 1 := by omega
      rw [this]; simpa using h2

theorem begin_ok {S : Sim} (I : Inv S) {args : List AV} {ys : List Value} (h : RepL S args ys) {n : Nat} (hn : args.length ≤ n) :
    Beg S n { s := initFr 0 args, d := [] } { tmps := ys.toArray ++ Array.replicate (n - ys.toArray.size) undef, defers := [] } := by
  have hl := h.length
  refine ⟨I, by simp; omega, fun i x hx => ?_, .nil⟩
  obtain ⟨_, h2⟩ := look_init hx
  simp only [Nat.sub_zero] at h2
  obtain ⟨y, hy, hr⟩ := h.get i x h2
  have hi := (List.getElem?_eq_some_iff.1 hy).1
  exact ⟨y, by rw [Array.getElem?_append_left (by simpa using hi)]; simpa using hy, hr⟩

theorem DRep.nil_inv {S : Sim} {m : List Deferred} (h : DRep S [] m) : m = [] := by cases h; rfl

section
variable {P : Program} {T : FuncId → Option SFn} {kd : FuncId → Kind}

theorem stripFn_inv {f : FuncId} {fn : Func} {s : SFn} (h : stripFn P kd f fn = some s) :
    ∃ c, fn.body = some c ∧ fn.name ≠ "runtime.NumGoroutine" ∧ s.np ≤ fn.ntmps ∧ (∃ b, strip P kd fn.ntmps c = some b ∧ erase s.body = erase b) ∧ stripRes P fn.results.toList = some s.res ∧ s.kind = kd f ∧ (kd f = .grow → mildC kd s.body = true) := by
  unfold stripFn at h
  split at h
  · cases h
  · rename_i hn
    split at h
    · rename_i c hc
      split at h
      · rename_i hle
        split at h
        · rename_i b r hb hr
          split at h
          · cases h
          · rename_i hm
            cases h
            exact ⟨c, hc, hn, hle, ⟨_, hb, erase_mark _ _ _ _⟩, hr, rfl, fun hk => by simpa [hk] using hm⟩
        · cases h
      · cases h
    · cases h

theorem callable_of {f : FuncId} {fn : Func} {c : Code} (hf : P.funcs[f]? = some fn) (hb : fn.body = some c) (hn : fn.name ≠ "runtime.NumGoroutine") : Callable P f := by
  intro args w
  simp [callFunc, hf, hb, hn]

/-- Where a function ends. -/
def CallsTo (P : Program) (S : Sim) (f : FuncId) (ys : List Value) (r : Res) (st : St) : Prop :=
  Calls P f ys.toArray S.w fun e w' => ∃ S', S'.w = w' ∧ S'.st = st ∧ S'.B = S.B ∧ S'.A = S.A ∧ Step S S' ∧ EndOk S' r e

theorem inner_ok {n : Nat} (hcode : CodeOk P T kd n) {f : FuncId} {fn : Func} {s : SFn} (hf : P.funcs[f]? = some fn) (hs : stripFn P kd f fn = some s) {args : List AV} {st st' : St} {r : Res}
    (hi : inner (run T n) s args st = some (r, st')) (hlen : args.length = s.np) {S : Sim} {ys : List Value} (hst : S.st = st) (I : Inv S) (hr : RepL S args ys) : CallsTo P S f ys r st' := by
  obtain ⟨c, hb, hn, hle, ⟨b, hstrip, her⟩, hres, _, _⟩ := stripFn_inv hs
  subst hst
  have hbeg := begin_ok I hr (n := fn.ntmps) (by omega)
  have fin : ∀ (S' : Sim) (fr : Fr) (a : Act) (xs : List AV), Inv S' → FrOk S' fr a → fr.d = [] → takeRess fr.s S'.st.H s.res = some xs → a.defers = [] ∧ ∃ v, (results fn a.tmps).run P S'.w = .ok v S'.w ∧ Rep S' (pack xs) v := by
    intro S' fr a xs I' hfr hd hx
    refine ⟨?_, results_run I' hfr.s hres hx⟩
    have := hfr.d
    rw [hd] at this
    exact this.nil_inv
  unfold inner at hi
  split at hi
  · rename_i fr st1 he
    split at hi
    · rename_i hd
      split at hi
      · rename_i xs hx
        cases hi
        refine calls_of_wp hf hb (wp_mono (hcode _ c b _ _ S _ _ hstrip her he hbeg) fun e a w hp => ?_)
        obtain ⟨S', rfl, p2, p3, p4, p5, p6, p7, p8⟩ := hp
        cases e with
        | normal =>
          obtain ⟨h1, v, h2, h3⟩ := fin S' fr a xs p5.inv p7 hd (by rw [p2]; exact hx)
          exact ⟨h1, v, h2, S', rfl, p2, p3, p4, p5, h3⟩
        | _ => simp [ExOk] at p8
      · cases hi
    · cases hi
  · rename_i fr st1 he
    split at hi
    · rename_i hd
      split at hi
      · rename_i xs hx
        cases hi
        refine calls_of_wp hf hb (wp_mono (hcode _ c b _ _ S _ _ hstrip her he hbeg) fun e a w hp => ?_)
        obtain ⟨S', rfl, p2, p3, p4, p5, p6, p7, p8⟩ := hp
        cases e with
        | ret =>
          obtain ⟨h1, v, h2, h3⟩ := fin S' fr a xs p5.inv p7 hd (by rw [p2]; exact hx)
          exact ⟨h1, v, h2, S', rfl, p2, p3, p4, p5, h3⟩
        | _ => simp [ExOk] at p8
      · cases hi
    · cases hi
  · rename_i x fr st1 he
    split at hi
    · rename_i hd
      cases hi
      refine calls_of_wp hf hb (wp_mono (hcode _ c b _ _ S _ _ hstrip her he hbeg) fun e a w hp => ?_)
      obtain ⟨S', rfl, p2, p3, p4, p5, p6, p7, p8⟩ := hp
      have hd2 : a.defers = [] := by
        have := p7.d
        change DRep S' fr.d a.defers at this
        rw [hd] at this
        exact this.nil_inv
      cases e with
      | panic ch =>
        cases ch with
        | nil => simp [ExOk] at p8
        | cons q l =>
          cases l with
          | nil => exact ⟨hd2, S', rfl, p2, p3, p4, p5, p8⟩
          | cons => simp [ExOk] at p8
      | _ => simp [ExOk] at p8
    · cases hi
  · cases hi

/-- The memory of a callee: empty; what may be read outside is what is safe. -/
def Sim.inside (S : Sim) : Sim := { w := S.w, hm := [], rm := [], st := .mt, B := S.w.heap.size, A := S.safe }

theorem inside_inv {S : Sim} (I : Inv S) : Inv S.inside :=
  ⟨Nat.le_refl _, rfl, rfl, fun b g h => by simp [Sim.inside] at h, fun b g fl h => by simp [Sim.inside] at h, fun b b' g h => by simp [Sim.inside] at h, fun b b' g fl fl' h => by simp [Sim.inside] at h,
    fun b r g fl h => by simp [Sim.inside] at h, fun _ _ _ _ _ h h1 h2 => Sim.safe.sub I h h1 h2⟩

theorem inside_safe {S : Sim} {g lo k : Nat} (h : S.safe g lo k) : S.inside.safe g lo k :=
  ⟨fun _ => h, h.2.1, fun b hb => by simp [Sim.inside] at hb, fun r fl hr => by simp [Sim.inside] at hr⟩

theorem inner_in {n : Nat} (hcode : CodeOk P T kd n) {f : FuncId} {fn : Func} {s : SFn} (hf : P.funcs[f]? = some fn) (hs : stripFn P kd f fn = some s) {args : List AV} {st' : St} {r : Res}
    (hi : inner (run T n) s args .mt = some (r, st')) (hlen : args.length = s.np) {S0 : Sim} {w : World} {ys : List Value} (hw : S0.w = w) (I : Inv S0) (hr : RepL S0.inside args ys) :
    Calls P f ys.toArray w fun e w' => ∃ S1, S1.w = w' ∧ S1.st = st' ∧ S1.B = S0.inside.B ∧ S1.A = S0.inside.A ∧ Step S0.inside S1 ∧ EndOk S1 r e := by
  subst hw
  exact inner_ok hcode hf hs hi hlen (S := S0.inside) rfl (inside_inv I) hr

theorem keeps_of {S S1 : Sim} (h : Step S.inside S1) : Keeps S.w S1.w := ⟨h.below.size, fun k hk => h.below.block k hk⟩

/-- What is safe behind a callee, is safe in the caller's memory. -/
theorem outside_safe {S S1 S2 : Sim} (I : Inv S) (hB : S1.B = S.w.heap.size) (hA : S1.A = S.safe) (hw : S2.w = S1.w) {g lo k : Nat} (h : S1.safe g lo k)
    (h2B : S2.B = S.B) (h2A : S2.A = S.A) (hhm : S2.hm = S.hm) (hH : S2.st.H = S.st.H) (hrm : ∀ (r fl : Nat), S2.rm[r]? = some (g, fl) → g < S.w.heap.size → S.rm[r]? = some (g, fl))
    (hrm2 : ∀ (r fl : Nat), S2.rm[r]? = some (g, fl) → S.w.heap.size ≤ g → lo + k ≤ fl) : S2.safe g lo k := by
  obtain ⟨h1, h2, h3, h4⟩ := h
  rcases Nat.lt_or_ge g S.w.heap.size with hg | hg
  · have hs : S.safe g lo k := by
      have := h1 (by rw [hB]; exact hg)
      rw [hA] at this; exact this
    refine ⟨by rw [h2B, h2A]; exact hs.1, by rw [hw]; exact h2, by rw [hhm, hH]; exact hs.2.2.1, fun r fl hr => hs.2.2.2 r fl (hrm r fl hr hg)⟩
  · refine ⟨fun hb => ?_, by rw [hw]; exact h2, fun b hb => ?_, fun r fl hr => hrm2 r fl hr hg⟩
    · have := I.hB
      rw [h2B] at hb; omega
    · rw [hhm] at hb
      obtain ⟨_, _, c, ty, _, hc, _⟩ := I.blk b g hb
      have := heap_lt hc; omega

theorem frz_out {S S1 S2 : Sim} (I : Inv S) (h : Step S.inside S1) (f1 : S1.B = S.w.heap.size) (f2 : S1.A = S.safe) (hw : S2.w = S1.w) (h2B : S2.B = S.B) (h2A : S2.A = S.A) (hhm : S2.hm = S.hm) (hH : S2.st.H = S.st.H) (hrm : S2.rm = S.rm) :
    ∀ S' st', Frz S1 S' st' → ∀ g lo k, S'.safe g lo k → S2.safe g lo k := fun S' st' f g lo k hs =>
  outside_safe I (f.B.trans f1) (f.A.trans f2) (hw.trans f.w.symm) hs h2B h2A hhm hH (fun r fl hr _ => by rw [← hrm]; exact hr) (fun r fl hr hg => by
    rw [hrm] at hr
    obtain ⟨_, c, ty, hc, _⟩ := I.rowb r g fl hr
    have := heap_lt hc
    have := h.below.size
    omega)

theorem class_le {C : CallF} (hM : Mild kd C) {fr : Fr} {st st1 : St} {op : SOp} {r : ORes} (hc : opClass kd op ≤ 2) (h : evOp C fr st op = some (r, st1)) : stLe st st1 := by
  rcases Nat.lt_or_ge (opClass kd op) 2 with h2 | h2
  · rcases Nat.lt_or_ge (opClass kd op) 1 with h1 | h1
    · rw [(class0 (kd := kd) (by omega) h).1]; exact stLe.refl _
    · have h0 : opClass kd op = 1 := by omega
      have : ∃ k x, op = .load k x := by
        cases op <;> simp only [opClass] at h0 <;> first | exact ⟨_, _, rfl⟩ | (exact absurd h0 (by decide)) | (unfold callClass at h0; split at h0 <;> (try (split at h0)) <;> exact absurd h0 (by decide))
      obtain ⟨k, x, rfl⟩ := this
      simp only [evOp] at h
      split at h
      · rw [Option.map_eq_some_iff] at h
        obtain ⟨_, _, h⟩ := h
        cases h; exact stLe.refl _
      · cases h
  · exact class2 hM (by omega) h

theorem ops_mild {C : CallF} (hM : Mild kd C) : ∀ {ops : List SO} {fr : Fr} {st : St} {out : Out}, ops.all (fun o => decide (opClass kd o.op ≤ 2)) = true → evOps C ops fr st = some out → stLe st out.2.2
  | [], fr, st, out, _, h => by simp only [evOps, Option.some.injEq] at h; subst h; exact stLe.refl _
  | o :: r, fr, st, out, hc, h => by
    simp only [List.all_cons, Bool.and_eq_true, decide_eq_true_eq] at hc
    simp only [evOps] at h
    split at h
    · cases h
    · exact ops_mild hM hc.2 h
    · split at h
      · cases h
      · rename_i hev; exact (class_le hM hc.1 hev).trans (ops_mild hM hc.2 h)
      · rename_i hev; cases h; exact class_le hM hc.1 hev
      · rename_i hev; exact (class_le hM hc.1 hev).trans (ops_mild hM hc.2 h)

def MildC (T : FuncId → Option SFn) (kd : FuncId → Kind) (n : Nat) : Prop :=
  ∀ (c : SCode) (fr : Fr) (st : St) (out : Out), mildC kd c = true → run T n c fr st = some out → stLe st out.2.2

theorem code_mild {n : Nat} (hM : Mild kd (callOf T (run T n))) (ih : MildC T kd n) : MildC T kd (n + 1) := by
  intro c fr st out hc h
  cases c with
  | skip => simp only [run, Option.some.injEq] at h; subst h; exact stLe.refl _
  | region ops draw =>
    simp only [run] at h
    split at h
    · rename_i he; cases h; exact ops_mild hM hc he
    · split at h
      · cases h
      · exact ops_mild hM hc h
  | seq ks a b =>
    simp only [mildC, Bool.and_eq_true] at hc
    simp only [run] at h
    split at h
    · rename_i he; exact (ih _ _ _ _ hc.1 he).trans (ih _ _ _ _ hc.2 h)
    · exact ih _ _ _ _ hc.1 h
  | cond x a b =>
    simp only [mildC, Bool.and_eq_true] at hc
    simp only [run] at h
    split at h
    · exact ih _ _ _ _ hc.1 h
    · exact ih _ _ _ _ hc.2 h
    · cases h
  | block id c =>
    simp only [mildC] at hc
    simp only [run] at h
    split at h
    · rename_i he
      have := ih _ _ _ _ hc he
      split at h <;> (cases h; exact this)
    · exact ih _ _ _ _ hc h
  | loop ks c =>
    have hc' : mildC kd c = true := by simpa only [mildC] using hc
    simp only [run] at h
    split at h
    · rename_i he; exact (ih _ _ _ _ hc' he).trans (ih _ _ _ _ hc h)
    · exact ih _ _ _ _ hc' h
  | exit id => simp only [run, Option.some.injEq] at h; subst h; exact stLe.refl _
  | ret => simp only [run, Option.some.injEq] at h; subst h; exact stLe.refl _

theorem inner_mild {n : Nat} (ih : MildC T kd n) {s : SFn} {args : List AV} {st : St} {r : Res × St} (hc : mildC kd s.body = true) (h : inner (run T n) s args st = some r) : stLe st r.2 := by
  unfold inner at h
  split at h
  · rename_i he
    have := ih _ _ _ _ hc he
    split at h
    · split at h
      · cases h; exact this
      · cases h
    · cases h
  · rename_i he
    have := ih _ _ _ _ hc he
    split at h
    · split at h
      · cases h; exact this
      · cases h
    · cases h
  · rename_i he
    have := ih _ _ _ _ hc he
    split at h
    · cases h; exact this
    · cases h
  · cases h

theorem mild_step (hT : ∀ f s, T f = some s → s.kind = kd f ∧ (kd f = .grow → mildC kd s.body = true)) {n : Nat} (ih : MildC T kd n) : Mild kd (callOf T (run T n)) := by
  intro f args st r st1 hk h
  unfold callOf at h
  split at h
  · cases h
  · rename_i s hs
    obtain ⟨hks, hgr⟩ := hT f s hs
    split at h
    · split at h
      · rename_i hw; rw [hks] at hw; exact absurd hw hk
      · rename_i hw; rw [hks] at hw; exact inner_mild ih (hgr hw) h
      · split at h
        · cases h
        · rename_i args1 st0 hx
          split at h
          · rw [Option.map_eq_some_iff] at h; obtain ⟨_, _, h⟩ := h; cases h; exact expA_le hx
          · rw [Option.map_eq_some_iff] at h; obtain ⟨_, _, h⟩ := h; cases h; exact expA_le hx
          · cases h
      · split at h
        · cases h
        · rename_i args1 st0 hx
          split at h
          · split at h
            · split at h
              · cases h
                have := expA_le hx
                intro b hb hH
                obtain ⟨hb', h1, h2⟩ := this b hb hH
                exact ⟨hb', h1, h2⟩
              · cases h
            · cases h
          · cases h; exact expA_le hx
          · rw [Option.map_eq_some_iff] at h; obtain ⟨_, _, h⟩ := h; cases h; exact expA_le hx
          · rw [Option.map_eq_some_iff] at h; obtain ⟨_, _, h⟩ := h; cases h; exact expA_le hx
          · cases h
    · cases h

theorem mild_of (hT : ∀ f s, T f = some s → s.kind = kd f ∧ (kd f = .grow → mildC kd s.body = true)) (n : Nat) : MildC T kd n ∧ Mild kd (callOf T (run T n)) := by
  induction n with
  | zero =>
    have h0 : MildC T kd 0 := fun _ _ _ _ _ h => by simp [run] at h
    exact ⟨h0, mild_step hT h0⟩
  | succ n ih =>
    have h1 := code_mild ih.2 ih.1
    exact ⟨h1, mild_step hT h1⟩

/-- The end of a callee whose memory is dropped. -/
theorem drop_ok {S0 S1 : Sim} {st1 : St} {r : Res} {e : Ending} (I0 : Inv S0) (k2 : S1.st = st1) (k3 : S1.B = S0.inside.B) (k4 : S1.A = S0.inside.A) (k5 : Step S0.inside S1) {a x : AV} (hx : expR st1 a = some x)
    (hr : (r = .ret x ∧ EndOk S1 (.ret a) e) ∨ (r = .pan x ∧ EndOk S1 (.pan a) e)) : Step S0 (S0.at S1.w) ∧ EndOk (S0.at S1.w) r e := by
  have hk := keeps_of k5
  have hstep : Step S0 (S0.at S1.w) := ⟨Ext.keeps hk, Inv.keeps I0 hk, ⟨k5.below.os, k5.below.tape, k5.below.output, k5.below.size, fun k h => k5.below.block k (Nat.lt_of_lt_of_le h I0.hB)⟩⟩
  refine ⟨hstep, ?_⟩
  have key : ∀ y, Rep S1 a y → Rep (S0.at S1.w) x y := fun y hy =>
    expR_rep k5.inv (by rw [k2]; exact hx) hy (frz_out I0 k5 k3 k4 rfl rfl rfl rfl rfl rfl) rfl
  rcases hr with ⟨rfl, h⟩ | ⟨rfl, h⟩
  · cases e with
    | returned y => exact key y h
    | panicked ch => simp [EndOk] at h
    | outgrown => simp [EndOk] at h
  · cases e with
    | returned y => simp [EndOk] at h
    | panicked ch =>
      cases ch with
      | nil => simp [EndOk] at h
      | cons q l =>
        cases l with
        | nil => obtain ⟨y, rfl, hy⟩ := h; exact ⟨y, rfl, key y hy⟩
        | cons => simp [EndOk] at h
    | outgrown => simp [EndOk] at h

/-- The end of a callee that hands on a slice behind which there is no room. -/
theorem full_ok {S0 S1 : Sim} (I0 : Inv S0) (k3 : S1.B = S0.inside.B) (k4 : S1.A = S0.inside.A) (k5 : Step S0.inside S1) {cs : List AV} {n : Nat} {y : Value} (hr : Rep S1 (.sl cs n .full) y) :
    Step S0 (S0.at S1.w) ∧ Rep (S0.at S1.w) (.sl cs n .full) y := by
  have hk := keeps_of k5
  refine ⟨⟨Ext.keeps hk, Inv.keeps I0 hk, ⟨k5.below.os, k5.below.tape, k5.below.output, k5.below.size, fun k h => k5.below.block k (Nat.lt_of_lt_of_le h I0.hB)⟩⟩, ?_⟩
  have hsafe : ∀ g lo k, S1.safe g lo k → (S0.at S1.w).safe g lo k := frz_out (S2 := S0.at S1.w) I0 k5 k3 k4 rfl rfl rfl rfl rfl rfl S1 S1.st (Frz.refl k5.inv)
  cases hr with
  | sl h1 h2 h3 hl h5 ho hcl ht => exact .sl h1 h2 (hsafe _ _ _ h3) (hl.move hsafe (fun _ _ _ _ _ _ => rfl) (hcl (by simp))) h5 ho (fun _ => hcl (by simp)) ht

/-- The end of a callee that hands on a row to which may be appended. -/
theorem keep_ok {S0 S1 : Sim} {st1 : St} (I0 : Inv S0) (k2 : S1.st = st1) (k3 : S1.B = S0.inside.B) (k4 : S1.A = S0.inside.A) (k5 : Step S0.inside S1) {cs : List AV} {n r e sz : Nat} {y : Value} (hF : st1.F[r]? = some (e, sz)) (hr : Rep S1 (.sl cs n (.own r e)) y) :
    ∃ S2 : Sim, S2.w = S1.w ∧ S2.st = { S0.st with F := S0.st.F ++ [(e, sz)] } ∧ S2.B = S0.B ∧ S2.A = S0.A ∧ Step S0 S2 ∧ Rep S2 (.sl cs n (.own S0.st.F.length e)) y := by
  subst k2
  have hk := keeps_of k5
  have hrl : r < S1.rm.length := by rw [k5.inv.rl]; exact (List.getElem?_eq_some_iff.1 hF).1
  have hrm : S1.rm[r]? = some (S1.rm[r].1, S1.rm[r].2) := by simp [hrl]
  obtain ⟨hge, c, ty, hc, hfl⟩ := k5.inv.rowb r _ _ hrm
  rw [k3] at hge
  obtain ⟨E, J⟩ := new_row I0 hk (e, sz) hge hc hfl
  let S2 : Sim := { S0 with w := S1.w, hm := S0.hm ++ [], rm := S0.rm ++ [(S1.rm[r].1, S1.rm[r].2)], st := { H := S0.st.H ++ [], F := S0.st.F ++ [(e, sz)] } }
  have hstep : Step S0 S2 := ⟨E, J, ⟨k5.below.os, k5.below.tape, k5.below.output, k5.below.size, fun k h => k5.below.block k (Nat.lt_of_lt_of_le h I0.hB)⟩⟩
  refine ⟨S2, rfl, by simp [S2], rfl, rfl, hstep, ?_⟩
  have hrow2 : S2.rm[S0.st.F.length]? = some (S1.rm[r].1, S1.rm[r].2) := by
    show (S0.rm ++ [(S1.rm[r].1, S1.rm[r].2)])[S0.st.F.length]? = _
    rw [← I0.rl]; simp
  have hF2 : S2.st.F[S0.st.F.length]? = some (e, sz) := by
    show (S0.st.F ++ [(e, sz)])[S0.st.F.length]? = _
    simp
  have hsafe : ∀ g lo k, S1.safe g lo k → S2.safe g lo k := fun g lo k hs =>
    outside_safe (S2 := S2) I0 k3 k4 rfl hs rfl rfl (by simp [S2]) (by simp [S2]) (fun r' fl hr' hg => by
        change (S0.rm ++ [(S1.rm[r].1, S1.rm[r].2)])[r']? = _ at hr'
        rcases Nat.lt_or_ge r' S0.rm.length with h | h
        · rw [List.getElem?_append_left h] at hr'; exact hr'
        · rw [List.getElem?_append_right h] at hr'
          have h1 := List.mem_of_getElem? hr'
          simp only [List.mem_singleton, Prod.mk.injEq] at h1
          have h2 : S0.w.heap.size ≤ S1.rm[r].1 := hge
          rw [← h1.1] at h2; omega)
      (fun r' fl hr' hg => by
        change (S0.rm ++ [(S1.rm[r].1, S1.rm[r].2)])[r']? = _ at hr'
        rcases Nat.lt_or_ge r' S0.rm.length with h | h
        · rw [List.getElem?_append_left h] at hr'
          obtain ⟨_, c, ty, hc', _⟩ := I0.rowb r' g fl hr'
          have := heap_lt hc'; omega
        · rw [List.getElem?_append_right h] at hr'
          have h1 := List.mem_of_getElem? hr'
          simp only [List.mem_singleton, Prod.mk.injEq] at h1
          exact hs.2.2.2 r fl (by rw [hrm, h1.1, h1.2]))
  cases hr with
  | sl h1 h2 h3 hl h5 ho hcl ht =>
    refine .sl h1 h2 (hsafe _ _ _ h3) (hl.move hsafe (fun _ _ _ _ _ _ => rfl) (hcl (by simp))) h5 ho (fun _ => hcl (by simp)) ?_
    obtain ⟨e1, sz1, hF1, hle, hx⟩ := ht
    rw [hF] at hF1; cases hF1
    refine ⟨e, sz, hF2, Nat.le_refl _, fun _ => ?_⟩
    obtain ⟨hx1, hx2⟩ := hx rfl
    refine ⟨hx1, hx2.imp id ?_⟩
    rintro ⟨hx3, hx4⟩
    refine ⟨?_, hx4⟩
    rw [hrow2, ← hx3, hrm]

theorem callOk_of {n : Nat} (hT : ∀ f s, T f = some s → ∃ fn, P.funcs[f]? = some fn ∧ stripFn P kd f fn = some s) (hcode : CodeOk P T kd n) : CallOk P (callOf T (run T n)) := by
  intro f args st r st' h
  unfold callOf at h
  split at h
  · cases h
  · rename_i s hs
    obtain ⟨fn, hf, hstrip⟩ := hT f s hs
    obtain ⟨c, hb, hn, hle, hsc, hres, hkind, _⟩ := stripFn_inv hstrip
    refine ⟨callable_of hf hb hn, fun S ys hst I hr => ?_⟩
    split at h
    · rename_i hlen
      split at h
      · exact inner_ok hcode hf hstrip h hlen hst I hr
      · exact inner_ok hcode hf hstrip h hlen hst I hr
      · split at h
        · cases h
        · rename_i args1 st0 hx
          subst hst
          obtain ⟨S0, f0, r0, c0⟩ := expA_rep I hx hr
          have r1 : RepL S0.inside args1 ys := r0.moveC (fun _ _ _ => inside_safe) (fun _ _ _ _ _ _ => rfl) c0
          have hlen1 : args1.length = s.np := by rw [← hlen, ← hr.length, ← r0.length]
          have fin : ∀ (r' : Res) (st1 : St) (a x : AV), inner (run T n) s args1 .mt = some (r', st1) → expR st1 a = some x → (r' = .ret a ∧ r = .ret x ∨ r' = .pan a ∧ r = .pan x) → st' = st0 → CallsTo P S f ys r st' := by
            intro r' st1 a x hi hx' hor hst'
            subst hst'
            refine Calls.mono (inner_in hcode hf hstrip hi hlen1 f0.w f0.inv r1) fun e w' => ?_
            rintro ⟨S1, rfl, k2, k3, k4, k5, k6⟩
            obtain ⟨d1, d2⟩ := drop_ok (r := r) (e := e) f0.inv k2 k3 k4 k5 hx' (hor.imp (fun hh => ⟨And.right hh, by rw [← And.left hh]; exact k6⟩) (fun hh => ⟨And.right hh, by rw [← And.left hh]; exact k6⟩))
            exact ⟨S0.at S1.w, rfl, f0.st, f0.B, f0.A, f0.step.trans d1, d2⟩
          split at h
          · rename_i a st1 hi
            rw [Option.map_eq_some_iff] at h; obtain ⟨x, hx', h⟩ := h; cases h
            exact fin _ st1 a x hi hx' (.inl ⟨rfl, rfl⟩) rfl
          · rename_i a st1 hi
            rw [Option.map_eq_some_iff] at h; obtain ⟨x, hx', h⟩ := h; cases h
            exact fin _ st1 a x hi hx' (.inr ⟨rfl, rfl⟩) rfl
          · cases h
      · split at h
        · cases h
        · rename_i args1 st0 hx
          subst hst
          obtain ⟨S0, f0, r0, c0⟩ := expA_rep I hx hr
          have r1 : RepL S0.inside args1 ys := r0.moveC (fun _ _ _ => inside_safe) (fun _ _ _ _ _ _ => rfl) c0
          have hlen1 : args1.length = s.np := by rw [← hlen, ← hr.length, ← r0.length]
          have fin : ∀ (r' : Res) (st1 : St) (a x : AV), inner (run T n) s args1 .mt = some (r', st1) → expR st1 a = some x → (r' = .ret a ∧ r = .ret x ∨ r' = .pan a ∧ r = .pan x) → st' = st0 → CallsTo P S f ys r st' := by
            intro r' st1 a x hi hx' hor hst'
            subst hst'
            refine Calls.mono (inner_in hcode hf hstrip hi hlen1 f0.w f0.inv r1) fun e w' => ?_
            rintro ⟨S1, rfl, k2, k3, k4, k5, k6⟩
            obtain ⟨d1, d2⟩ := drop_ok (r := r) (e := e) f0.inv k2 k3 k4 k5 hx' (hor.imp (fun hh => ⟨And.right hh, by rw [← And.left hh]; exact k6⟩) (fun hh => ⟨And.right hh, by rw [← And.left hh]; exact k6⟩))
            exact ⟨S0.at S1.w, rfl, f0.st, f0.B, f0.A, f0.step.trans d1, d2⟩
          split at h
          · rename_i cs m r' e' st1 hi
            split at h
            · rename_i e1 sz hF
              split at h
              · rename_i he
                subst he
                cases h
                refine Calls.mono (inner_in hcode hf hstrip hi hlen1 f0.w f0.inv r1) fun e w' => ?_
                rintro ⟨S1, rfl, k2, k3, k4, k5, k6⟩
                cases e with
                | returned y =>
                  obtain ⟨S2, q1, q2, q3, q4, q5, q6⟩ := keep_ok f0.inv k2 k3 k4 k5 hF k6
                  rw [f0.st] at q2 q6
                  exact ⟨S2, q1, q2, q3.trans f0.B, q4.trans f0.A, f0.step.trans q5, q6⟩
                | panicked ch => simp [EndOk] at k6
                | outgrown => simp [EndOk] at k6
              · cases h
            · cases h
          · rename_i cs m st1 hi
            cases h
            refine Calls.mono (inner_in hcode hf hstrip hi hlen1 f0.w f0.inv r1) fun e w' => ?_
            rintro ⟨S1, rfl, k2, k3, k4, k5, k6⟩
            cases e with
            | returned y =>
              obtain ⟨q1, q2⟩ := full_ok f0.inv k3 k4 k5 k6
              exact ⟨S0.at S1.w, rfl, f0.st, f0.B, f0.A, f0.step.trans q1, q2⟩
            | panicked ch => simp [EndOk] at k6
            | outgrown => simp [EndOk] at k6
          · rename_i a st1 _ _ hi
            rw [Option.map_eq_some_iff] at h; obtain ⟨x, hx', h⟩ := h; cases h
            exact fin _ st1 a x hi hx' (.inl ⟨rfl, rfl⟩) rfl
          · rename_i a st1 hi
            rw [Option.map_eq_some_iff] at h; obtain ⟨x, hx', h⟩ := h; cases h
            exact fin _ st1 a x hi hx' (.inr ⟨rfl, rfl⟩) rfl
          · cases h
    · cases h

theorem sound (hmix : P.follows .mixedOrders = true) (hT : ∀ f s, T f = some s → ∃ fn, P.funcs[f]? = some fn ∧ stripFn P kd f fn = some s) (n : Nat) : CodeOk P T kd n ∧ LoopOk P T kd n := by
  induction n with
  | zero => exact ⟨fun _ _ _ _ _ _ _ _ _ _ h => by simp [run] at h, fun _ _ _ _ _ _ _ _ _ _ _ h => by simp [run] at h⟩
  | succ n ih =>
    refine code_step hmix (callOk_of hT ih.1) (mild_of (fun f s h => ?_) n).2 ih.1 ih.2
    obtain ⟨fn, _, h2⟩ := hT f s h
    obtain ⟨_, _, _, _, _, _, _, h3⟩ := stripFn_inv h2
    exact ⟨by assumption, h3⟩

/-- What the evaluator answers, a call comes to. -/
theorem call_sound (hmix : P.follows .mixedOrders = true) (hT : ∀ f s, T f = some s → ∃ fn, P.funcs[f]? = some fn ∧ stripFn P kd f fn = some s) (n : Nat) : CallOk P (callOf T (run T n)) :=
  callOk_of hT (sound hmix hT n).1

end

end VS
end Go.Proofs.Ytohfbjgcfbkgnaa
