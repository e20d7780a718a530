/- Calls of functions: sound, for every amount of fuel. -/
import Derived.Test.YtbnhmahkgeaajaaVsFn
import Derived.Recover
namespace Go.Proofs.Ytbnhmahkgeaajaa
namespace VS

theorem look_init : ∀ {args : List AV} {k i : Nat} {x : AV}, look (initFr k args) i = some x → k ≤ i ∧ args[i - k]? = some x
  | [], k, i, x, h => by simp [initFr, look] at h
  | a :: r, k, i, x, h => by
    simp only [initFr, look_put] at h
    split at h
    · rename_i hk; subst hk; cases h; exact ⟨Nat.le_refl _, by simp⟩
    · obtain ⟨h1, h2⟩ := look_init h
      refine ⟨by omega, ?_⟩
      have : i - k = (i - (k + 1)) + 1 := by omega
      rw [this]; simpa using h2

theorem begin_ok {S : Sim} (I : Inv S) {args : List AV} {ys : List Value} (h : RepL S args ys) {n : Nat} (hn : args.length ≤ n) :
    Beg S n { s := initFr 0 args, d := [] } { tmps := ys.toArray ++ Array.replicate (n - ys.toArray.size) undef, defers := [] } := by
  have hl := h.length
  refine ⟨I, by simp; omega, fun i x hx => ?_, .nil⟩
  obtain ⟨_, h2⟩ := look_init hx
  simp only [Nat.sub_zero] at h2
  obtain ⟨y, hy, hr⟩ := h.get i x h2
  have hi := (List.getElem?_eq_some_iff.1 hy).1
  exact ⟨y, by rw [Array.getElem?_append_left (by simpa using hi)]; simpa using hy, hr⟩

theorem DRep.nil_inv {S : Sim} {m : List Deferred} (h : DRep S [] m) : m = [] := by cases h; rfl

section
variable {P : Program} {T : FuncId → Option SFn} {kd : FuncId → Kind}

theorem stripFn_inv {f : FuncId} {fn : Func} {s : SFn} (h : stripFn P kd f fn = some s) :
    ∃ c0 c, fn.body = some c0 ∧ bodyOf (kd f) fn.ntmps c0 = some c ∧ fn.name ≠ "runtime.NumGoroutine" ∧ s.np ≤ fn.ntmps ∧ (∃ b, strip P kd fn.ntmps c = some b ∧ erase s.body = erase b) ∧ stripRes P fn.results.toList = some s.res ∧ s.kind = kd f ∧ (kd f = .grow → mildC kd s.body = true) := by
  unfold stripFn at h
  split at h
  · cases h
  · rename_i hn
    split at h
    · rename_i c0 hc0
      split at h
      · rename_i c hc
        split at h
        · rename_i hle
          split at h
          · rename_i b r hb hr
            split at h
            · cases h
            · rename_i hm
              cases h
              exact ⟨c0, c, hc0, hc, hn, hle, ⟨_, hb, erase_mark _ _ _ _⟩, hr, rfl, fun hk => by simpa [hk] using hm⟩
          · cases h
        · cases h
      · cases h
    · cases h

theorem bodyOf_eq {k : Kind} {N : Nat} {c0 c : Code} (hk : ∀ r x, k ≠ .catch r x) (h : bodyOf k N c0 = some c) : c0 = c := by
  cases k <;> first | exact absurd rfl (hk _ _) | (simpa [bodyOf] using h)

theorem callable_of {f : FuncId} {fn : Func} {c : Code} (hf : P.funcs[f]? = some fn) (hb : fn.body = some c) (hn : fn.name ≠ "runtime.NumGoroutine") : Callable P f := by
  intro args w
  simp [callFunc, hf, hb, hn]

/-- Where a function ends. -/
def CallsTo (P : Program) (S : Sim) (f : FuncId) (ys : List Value) (r : Res) (st : St) : Prop :=
  Calls P f ys.toArray S.w fun e w' => ∃ S', S'.w = w' ∧ S'.st = st ∧ S'.B = S.B ∧ S'.A = S.A ∧ Step S S' ∧ EndOk S' r e

theorem inner_ok {n : Nat} (hcode : CodeOk P T kd n) {f : FuncId} {fn : Func} {s : SFn} (hf : P.funcs[f]? = some fn) (hs : stripFn P kd f fn = some s) (hnc : ∀ r x, s.kind ≠ .catch r x) {args : List AV} {st st' : St} {r : Res}
    (hi : inner (run T n) s args st = some (r, st')) (hlen : args.length = s.np) {S : Sim} {ys : List Value} (hst : S.st = st) (I : Inv S) (hr : RepL S args ys) : CallsTo P S f ys r st' := by
  obtain ⟨c0, c, hb, hbo, hn, hle, ⟨b, hstrip, her⟩, hres, hkd, _⟩ := stripFn_inv hs
  rw [hkd] at hnc
  have := bodyOf_eq hnc hbo
  subst this
  subst hst
  have hbeg := begin_ok I hr (n := fn.ntmps) (by omega)
  have fin : ∀ (S' : Sim) (fr : Fr) (a : Act) (xs : List AV), Inv S' → FrOk S' fr a → fr.d = [] → takeRess fr.s S'.st.H s.res = some xs → a.defers = [] ∧ ∃ v, (results fn a.tmps).run P S'.w = .ok v S'.w ∧ Rep S' (pack xs) v := by
    intro S' fr a xs I' hfr hd hx
    refine ⟨?_, results_run I' hfr.s hres hx⟩
    have := hfr.d
    rw [hd] at this
    exact this.nil_inv
  unfold inner at hi
  split at hi
  · rename_i fr st1 he
    split at hi
    · rename_i hd
      split at hi
      · rename_i xs hx
        cases hi
        refine calls_of_wp hf hb (wp_mono (hcode _ c0 b _ _ S _ _ hstrip her he hbeg) fun e a w hp => ?_)
        obtain ⟨S', rfl, p2, p3, p4, p5, p6, p7, p8⟩ := hp
        cases e with
        | normal =>
          obtain ⟨h1, v, h2, h3⟩ := fin S' fr a xs p5.inv p7 hd (by rw [p2]; exact hx)
          exact ⟨h1, v, h2, S', rfl, p2, p3, p4, p5, h3⟩
        | _ => simp [ExOk] at p8
      · cases hi
    · cases hi
  · rename_i fr st1 he
    split at hi
    · rename_i hd
      split at hi
      · rename_i xs hx
        cases hi
        refine calls_of_wp hf hb (wp_mono (hcode _ c0 b _ _ S _ _ hstrip her he hbeg) fun e a w hp => ?_)
        obtain ⟨S', rfl, p2, p3, p4, p5, p6, p7, p8⟩ := hp
        cases e with
        | ret =>
          obtain ⟨h1, v, h2, h3⟩ := fin S' fr a xs p5.inv p7 hd (by rw [p2]; exact hx)
          exact ⟨h1, v, h2, S', rfl, p2, p3, p4, p5, h3⟩
        | _ => simp [ExOk] at p8
      · cases hi
    · cases hi
  · rename_i x fr st1 he
    split at hi
    · rename_i hd
      cases hi
      refine calls_of_wp hf hb (wp_mono (hcode _ c0 b _ _ S _ _ hstrip her he hbeg) fun e a w hp => ?_)
      obtain ⟨S', rfl, p2, p3, p4, p5, p6, p7, p8⟩ := hp
      have hd2 : a.defers = [] := by
        have := p7.d
        change DRep S' fr.d a.defers at this
        rw [hd] at this
        exact this.nil_inv
      cases e with
      | panic ch =>
        cases ch with
        | nil => simp [ExOk] at p8
        | cons q l =>
          cases l with
          | nil => exact ⟨hd2, S', rfl, p2, p3, p4, p5, p8⟩
          | cons => simp [ExOk] at p8
      | _ => simp [ExOk] at p8
    · cases hi
  · cases hi

/-- The memory of a callee: empty; what may be read outside is what is safe. -/
def Sim.inside (S : Sim) : Sim := { w := S.w, hm := [], rm := [], st := .mt, B := S.w.heap.size, A := S.safe }

theorem inside_inv {S : Sim} (I : Inv S) : Inv S.inside :=
  ⟨Nat.le_refl _, rfl, rfl, fun b g h => by simp [Sim.inside] at h, fun b g fl h => by simp [Sim.inside] at h, fun b b' g h => by simp [Sim.inside] at h, fun b b' g fl fl' h => by simp [Sim.inside] at h,
    fun b r g fl h => by simp [Sim.inside] at h, fun _ _ _ _ _ h h1 h2 => Sim.safe.sub I h h1 h2⟩

theorem inside_safe {S : Sim} {g lo k : Nat} (h : S.safe g lo k) : S.inside.safe g lo k :=
  ⟨fun _ => h, h.2.1, fun b hb => by simp [Sim.inside] at hb, fun r fl hr => by simp [Sim.inside] at hr⟩

theorem inner_in {n : Nat} (hcode : CodeOk P T kd n) {f : FuncId} {fn : Func} {s : SFn} (hf : P.funcs[f]? = some fn) (hs : stripFn P kd f fn = some s) (hnc : ∀ r x, s.kind ≠ .catch r x) {args : List AV} {st' : St} {r : Res}
    (hi : inner (run T n) s args .mt = some (r, st')) (hlen : args.length = s.np) {S0 : Sim} {w : World} {ys : List Value} (hw : S0.w = w) (I : Inv S0) (hr : RepL S0.inside args ys) :
    Calls P f ys.toArray w fun e w' => ∃ S1, S1.w = w' ∧ S1.st = st' ∧ S1.B = S0.inside.B ∧ S1.A = S0.inside.A ∧ Step S0.inside S1 ∧ EndOk S1 r e := by
  subst hw
  exact inner_ok hcode hf hs hnc hi hlen (S := S0.inside) rfl (inside_inv I) hr

theorem keeps_of {S S1 : Sim} (h : Step S.inside S1) : Keeps S.w S1.w := ⟨h.below.size, fun k hk => h.below.block k hk⟩

/-- What is safe behind a callee, is safe in the caller's memory. -/
theorem outside_safe {S S1 S2 : Sim} (I : Inv S) (hB : S1.B = S.w.heap.size) (hA : S1.A = S.safe) (hw : S2.w = S1.w) {g lo k : Nat} (h : S1.safe g lo k)
    (h2B : S2.B = S.B) (h2A : S2.A = S.A) (hhm : S2.hm = S.hm) (hH : S2.st.H = S.st.H) (hrm : ∀ (r fl : Nat), S2.rm[r]? = some (g, fl) → g < S.w.heap.size → S.rm[r]? = some (g, fl))
    (hrm2 : ∀ (r fl : Nat), S2.rm[r]? = some (g, fl) → S.w.heap.size ≤ g → lo + k ≤ fl) : S2.safe g lo k := by
  obtain ⟨h1, h2, h3, h4⟩ := h
  rcases Nat.lt_or_ge g S.w.heap.size with hg | hg
  · have hs : S.safe g lo k := by
      have := h1 (by rw [hB]; exact hg)
      rw [hA] at this; exact this
    refine ⟨by rw [h2B, h2A]; exact hs.1, by rw [hw]; exact h2, by rw [hhm, hH]; exact hs.2.2.1, fun r fl hr => hs.2.2.2 r fl (hrm r fl hr hg)⟩
  · refine ⟨fun hb => ?_, by rw [hw]; exact h2, fun b hb => ?_, fun r fl hr => hrm2 r fl hr hg⟩
    · have := I.hB
      rw [h2B] at hb; omega
    · rw [hhm] at hb
      obtain ⟨_, _, c, ty, _, hc, _⟩ := I.blk b g hb
      have := heap_lt hc; omega

theorem frz_out {S S1 S2 : Sim} (I : Inv S) (h : Step S.inside S1) (f1 : S1.B = S.w.heap.size) (f2 : S1.A = S.safe) (hw : S2.w = S1.w) (h2B : S2.B = S.B) (h2A : S2.A = S.A) (hhm : S2.hm = S.hm) (hH : S2.st.H = S.st.H) (hrm : S2.rm = S.rm) :
    ∀ S' st', Frz S1 S' st' → ∀ g lo k, S'.safe g lo k → S2.safe g lo k := fun S' st' f g lo k hs =>
  outside_safe I (f.B.trans f1) (f.A.trans f2) (hw.trans f.w.symm) hs h2B h2A hhm hH (fun r fl hr _ => by rw [← hrm]; exact hr) (fun r fl hr hg => by
    rw [hrm] at hr
    obtain ⟨_, c, ty, hc, _⟩ := I.rowb r g fl hr
    have := heap_lt hc
    have := h.below.size
    omega)

theorem class_le {C : CallF} (hM : Mild kd C) {fr : Fr} {st st1 : St} {op : SOp} {r : ORes} (hc : opClass kd op ≤ 2) (h : evOp C fr st op = some (r, st1)) : stLe st st1 := by
  rcases Nat.lt_or_ge (opClass kd op) 2 with h2 | h2
  · rcases Nat.lt_or_ge (opClass kd op) 1 with h1 | h1
    · rw [(class0 (kd := kd) (by omega) h).1]; exact stLe.refl _
    · rw [(class1 hM (by omega) h).1]; exact stLe.refl _
  · exact class2 hM (by omega) h

theorem ops_mild {C : CallF} (hM : Mild kd C) : ∀ {ops : List SO} {fr : Fr} {st : St} {out : Out}, ops.all (fun o => decide (opClass kd o.op ≤ 2)) = true → evOps C ops fr st = some out → stLe st out.2.2
  | [], fr, st, out, _, h => by simp only [evOps, Option.some.injEq] at h; subst h; exact stLe.refl _
  | o :: r, fr, st, out, hc, h => by
    simp only [List.all_cons, Bool.and_eq_true, decide_eq_true_eq] at hc
    simp only [evOps] at h
    split at h
    · cases h
    · exact ops_mild hM hc.2 h
    · split at h
      · cases h
      · rename_i hev; exact (class_le hM hc.1 hev).trans (ops_mild hM hc.2 h)
      · rename_i hev; cases h; exact class_le hM hc.1 hev
      · rename_i hev; exact (class_le hM hc.1 hev).trans (ops_mild hM hc.2 h)

def MildC (T : FuncId → Option SFn) (kd : FuncId → Kind) (n : Nat) : Prop :=
  ∀ (c : SCode) (fr : Fr) (st : St) (out : Out), mildC kd c = true → run T n c fr st = some out → stLe st out.2.2

theorem code_mild {n : Nat} (hM : Mild kd (callOf T (run T n))) (ih : MildC T kd n) : MildC T kd (n + 1) := by
  intro c fr st out hc h
  cases c with
  | skip => simp only [run, Option.some.injEq] at h; subst h; exact stLe.refl _
  | region ops draw =>
    simp only [run] at h
    split at h
    · rename_i he; cases h; exact ops_mild hM hc he
    · split at h
      · cases h
      · exact ops_mild hM hc h
  | regionF ops =>
    simp only [run] at h
    split at h
    · rename_i he
      split at h
      · cases h; exact ops_mild hM hc he
      · cases h
    · cases h
  | seq ks a b =>
    simp only [mildC, Bool.and_eq_true] at hc
    simp only [run] at h
    split at h
    · rename_i he; exact (ih _ _ _ _ hc.1 he).trans (ih _ _ _ _ hc.2 h)
    · exact ih _ _ _ _ hc.1 h
  | cond x a b =>
    simp only [mildC, Bool.and_eq_true] at hc
    simp only [run] at h
    split at h
    · exact ih _ _ _ _ hc.1 h
    · exact ih _ _ _ _ hc.2 h
    · cases h
  | block id c =>
    simp only [mildC] at hc
    simp only [run] at h
    split at h
    · rename_i he
      have := ih _ _ _ _ hc he
      split at h <;> (cases h; exact this)
    · exact ih _ _ _ _ hc h
  | loop ks c =>
    have hc' : mildC kd c = true := by simpa only [mildC] using hc
    simp only [run] at h
    split at h
    · rename_i he; exact (ih _ _ _ _ hc' he).trans (ih _ _ _ _ hc h)
    · exact ih _ _ _ _ hc' h
  | exit id => simp only [run, Option.some.injEq] at h; subst h; exact stLe.refl _
  | ret => simp only [run, Option.some.injEq] at h; subst h; exact stLe.refl _

theorem inner_mild {n : Nat} (ih : MildC T kd n) {s : SFn} {args : List AV} {st : St} {r : Res × St} (hc : mildC kd s.body = true) (h : inner (run T n) s args st = some r) : stLe st r.2 := by
  unfold inner at h
  split at h
  · rename_i he
    have := ih _ _ _ _ hc he
    split at h
    · split at h
      · cases h; exact this
      · cases h
    · cases h
  · rename_i he
    have := ih _ _ _ _ hc he
    split at h
    · split at h
      · cases h; exact this
      · cases h
    · cases h
  · rename_i he
    have := ih _ _ _ _ hc he
    split at h
    · cases h; exact this
    · cases h
  · cases h

theorem mild_le (hT : ∀ f s, T f = some s → s.kind = kd f ∧ (kd f = .grow → mildC kd s.body = true)) {n : Nat} (ih : MildC T kd n) (f : FuncId) (args : List AV) (st : St) (r : Res) (st1 : St) (hk : kd f ≠ .whole) (h : callOf T (run T n) f args st = some (r, st1)) : stLe st st1 := by
  unfold callOf at h
  split at h
  · cases h
  · rename_i s hs
    obtain ⟨hks, hgr⟩ := hT f s hs
    split at h
    · split at h
      · rename_i hw; rw [hks] at hw; exact absurd hw hk
      · rename_i hw; rw [hks] at hw; exact inner_mild ih (hgr hw) h
      · cases h
      · split at h
        · cases h
        · rename_i args1 st0 hx
          split at h
          · rw [Option.map_eq_some_iff] at h; obtain ⟨_, _, h⟩ := h; cases h; exact expA_le hx
          · cases h
      · split at h
        · cases h
        · rename_i args1 st0 hx
          split at h
          · rw [Option.map_eq_some_iff] at h; obtain ⟨_, _, h⟩ := h; cases h; exact expA_le hx
          · rw [Option.map_eq_some_iff] at h; obtain ⟨_, _, h⟩ := h; cases h; exact expA_le hx
          · cases h
      · split at h
        · cases h
        · rename_i args1 st0 hx
          split at h
          · split at h
            · split at h
              · cases h
                have := expA_le hx
                intro b hb hH
                obtain ⟨hb', h1, h2⟩ := this b hb hH
                exact ⟨hb', h1, h2⟩
              · cases h
            · cases h
          · cases h; exact expA_le hx
          · rw [Option.map_eq_some_iff] at h; obtain ⟨_, _, h⟩ := h; cases h; exact expA_le hx
          · rw [Option.map_eq_some_iff] at h; obtain ⟨_, _, h⟩ := h; cases h; exact expA_le hx
          · cases h
      · split at h
        · cases h
        · rename_i args1 st0 hx
          split at h
          · split at h
            · split at h
              · cases h
                exact (expA_le hx).trans (stLe_append _ _ _)
              · cases h
            · cases h
          · cases h; exact expA_le hx
          · rw [Option.map_eq_some_iff] at h; obtain ⟨_, _, h⟩ := h; cases h; exact expA_le hx
          · rw [Option.map_eq_some_iff] at h; obtain ⟨_, _, h⟩ := h; cases h; exact expA_le hx
          · cases h
      · split at h
        · cases h
        · split at h
          · split at h
            · split at h
              · cases h; exact stLe.refl _
              · cases h
            · cases h
          · cases h
    · cases h

theorem mild_step (hT : ∀ f s, T f = some s → s.kind = kd f ∧ (kd f = .grow → mildC kd s.body = true)) {n : Nat} (ih : MildC T kd n) : Mild kd (callOf T (run T n)) := by
  refine ⟨mild_le hT ih, fun f args st r st1 hk h => ?_⟩
  unfold callOf at h
  split at h
  · cases h
  · rename_i s hs
    have hkp : s.kind = .pure := (hT f s hs).1.trans hk
    simp only [hkp] at h
    split at h
    · rename_i hl
      split at h
      · cases h
      · rename_i args1 st0 hx
        split at h
        · rename_i a st2 hi
          split at h
          · rename_i x hx'
            split at h
            · rename_i hsc
              cases h
              refine ⟨rfl, fun st3 hal => ?_⟩
              obtain ⟨s2, k1, _⟩ := expA_alike hx hal
              unfold callOf
              rw [hs]
              simp only [hkp, hl, if_true, k1, hi, hx']
              rw [if_pos hsc]
            · cases h
          · cases h
        · cases h
    · cases h

theorem mild_of (hT : ∀ f s, T f = some s → s.kind = kd f ∧ (kd f = .grow → mildC kd s.body = true)) (n : Nat) : MildC T kd n ∧ Mild kd (callOf T (run T n)) := by
  induction n with
  | zero =>
    have h0 : MildC T kd 0 := fun _ _ _ _ _ h => by simp [run] at h
    exact ⟨h0, mild_step hT h0⟩
  | succ n ih =>
    have h1 := code_mild ih.2 ih.1
    exact ⟨h1, mild_step hT h1⟩

/-- The end of a callee whose memory is dropped. -/
theorem drop_ok {S0 S1 : Sim} {st1 : St} {r : Res} {e : Ending} (I0 : Inv S0) (k2 : S1.st = st1) (k3 : S1.B = S0.inside.B) (k4 : S1.A = S0.inside.A) (k5 : Step S0.inside S1) {a x : AV} (hx : expR st1 a = some x)
    (hr : (r = .ret x ∧ EndOk S1 (.ret a) e) ∨ (r = .pan x ∧ EndOk S1 (.pan a) e)) : Step S0 (S0.at S1.w) ∧ EndOk (S0.at S1.w) r e := by
  have hk := keeps_of k5
  have hstep : Step S0 (S0.at S1.w) := ⟨Ext.keeps hk, Inv.keeps I0 hk, ⟨k5.below.os, k5.below.tape, k5.below.output, k5.below.size, fun k h => k5.below.block k (Nat.lt_of_lt_of_le h I0.hB)⟩⟩
  refine ⟨hstep, ?_⟩
  have key : ∀ y, Rep S1 a y → Rep (S0.at S1.w) x y := fun y hy =>
    expR_rep k5.inv (by rw [k2]; exact hx) hy (frz_out I0 k5 k3 k4 rfl rfl rfl rfl rfl rfl) rfl
  rcases hr with ⟨rfl, h⟩ | ⟨rfl, h⟩
  · cases e with
    | returned y => exact key y h
    | panicked ch => simp [EndOk] at h
    | outgrown => simp [EndOk] at h
  · cases e with
    | returned y => simp [EndOk] at h
    | panicked ch =>
      cases ch with
      | nil => simp [EndOk] at h
      | cons q l =>
        cases l with
        | nil => obtain ⟨y, rfl, hy⟩ := h; exact ⟨y, rfl, key y hy⟩
        | cons => simp [EndOk] at h
    | outgrown => simp [EndOk] at h

/-- The end of a callee that hands on a slice behind which there is no room. -/
theorem full_ok {S0 S1 : Sim} (I0 : Inv S0) (k3 : S1.B = S0.inside.B) (k4 : S1.A = S0.inside.A) (k5 : Step S0.inside S1) {cs : List AV} {n : Nat} {y : Value} (hr : Rep S1 (.sl cs n .full) y) :
    Step S0 (S0.at S1.w) ∧ Rep (S0.at S1.w) (.sl cs n .full) y := by
  have hk := keeps_of k5
  refine ⟨⟨Ext.keeps hk, Inv.keeps I0 hk, ⟨k5.below.os, k5.below.tape, k5.below.output, k5.below.size, fun k h => k5.below.block k (Nat.lt_of_lt_of_le h I0.hB)⟩⟩, ?_⟩
  have hsafe : ∀ g lo k, S1.safe g lo k → (S0.at S1.w).safe g lo k := frz_out (S2 := S0.at S1.w) I0 k5 k3 k4 rfl rfl rfl rfl rfl rfl S1 S1.st (Frz.refl k5.inv)
  cases hr with
  | sl h1 h2 h3 hl h5 ho hcl ht => exact .sl h1 h2 (hsafe _ _ _ h3) (hl.move hsafe (fun _ _ _ _ _ _ => rfl) (hcl (by simp))) h5 ho (fun _ => hcl (by simp)) ht

/-- The end of a callee that hands on a row to which may be appended. -/
theorem keep_ok {S0 S1 : Sim} {st1 : St} (I0 : Inv S0) (k2 : S1.st = st1) (k3 : S1.B = S0.inside.B) (k4 : S1.A = S0.inside.A) (k5 : Step S0.inside S1) {cs : List AV} {n r e sz : Nat} {y : Value} (hF : st1.F[r]? = some (e, sz)) (hr : Rep S1 (.sl cs n (.own r e)) y) :
    ∃ S2 : Sim, S2.w = S1.w ∧ S2.st = { S0.st with F := S0.st.F ++ [(e, sz)] } ∧ S2.B = S0.B ∧ S2.A = S0.A ∧ Step S0 S2 ∧ Rep S2 (.sl cs n (.own S0.st.F.length e)) y := by
  subst k2
  have hk := keeps_of k5
  have hrl : r < S1.rm.length := by rw [k5.inv.rl]; exact (List.getElem?_eq_some_iff.1 hF).1
  have hrm : S1.rm[r]? = some (S1.rm[r].1, S1.rm[r].2) := by simp [hrl]
  obtain ⟨hge, c, ty, hc, hfl⟩ := k5.inv.rowb r _ _ hrm
  rw [k3] at hge
  obtain ⟨E, J⟩ := new_row I0 hk (e, sz) hge hc hfl
  let S2 : Sim := { S0 with w := S1.w, hm := S0.hm ++ [], rm := S0.rm ++ [(S1.rm[r].1, S1.rm[r].2)], st := { H := S0.st.H ++ [], F := S0.st.F ++ [(e, sz)] } }
  have hstep : Step S0 S2 := ⟨E, J, ⟨k5.below.os, k5.below.tape, k5.below.output, k5.below.size, fun k h => k5.below.block k (Nat.lt_of_lt_of_le h I0.hB)⟩⟩
  refine ⟨S2, rfl, by simp [S2], rfl, rfl, hstep, ?_⟩
  have hrow2 : S2.rm[S0.st.F.length]? = some (S1.rm[r].1, S1.rm[r].2) := by
    show (S0.rm ++ [(S1.rm[r].1, S1.rm[r].2)])[S0.st.F.length]? = _
    rw [← I0.rl]; simp
  have hF2 : S2.st.F[S0.st.F.length]? = some (e, sz) := by
    show (S0.st.F ++ [(e, sz)])[S0.st.F.length]? = _
    simp
  have hsafe : ∀ g lo k, S1.safe g lo k → S2.safe g lo k := fun g lo k hs =>
    outside_safe (S2 := S2) I0 k3 k4 rfl hs rfl rfl (by simp [S2]) (by simp [S2]) (fun r' fl hr' hg => by
        change (S0.rm ++ [(S1.rm[r].1, S1.rm[r].2)])[r']? = _ at hr'
        rcases Nat.lt_or_ge r' S0.rm.length with h | h
        · rw [List.getElem?_append_left h] at hr'; exact hr'
        · rw [List.getElem?_append_right h] at hr'
          have h1 := List.mem_of_getElem? hr'
          simp only [List.mem_singleton, Prod.mk.injEq] at h1
          have h2 : S0.w.heap.size ≤ S1.rm[r].1 := hge
          rw [← h1.1] at h2; omega)
      (fun r' fl hr' hg => by
        change (S0.rm ++ [(S1.rm[r].1, S1.rm[r].2)])[r']? = _ at hr'
        rcases Nat.lt_or_ge r' S0.rm.length with h | h
        · rw [List.getElem?_append_left h] at hr'
          obtain ⟨_, c, ty, hc', _⟩ := I0.rowb r' g fl hr'
          have := heap_lt hc'; omega
        · rw [List.getElem?_append_right h] at hr'
          have h1 := List.mem_of_getElem? hr'
          simp only [List.mem_singleton, Prod.mk.injEq] at h1
          exact hs.2.2.2 r fl (by rw [hrm, h1.1, h1.2]))
  cases hr with
  | sl h1 h2 h3 hl h5 ho hcl ht =>
    refine .sl h1 h2 (hsafe _ _ _ h3) (hl.move hsafe (fun _ _ _ _ _ _ => rfl) (hcl (by simp))) h5 ho (fun _ => hcl (by simp)) ?_
    obtain ⟨e1, sz1, hF1, hle, hx⟩ := ht
    rw [hF] at hF1; cases hF1
    refine ⟨e, sz, hF2, Nat.le_refl _, fun _ => ?_⟩
    obtain ⟨hx1, hx2⟩ := hx rfl
    refine ⟨hx1, hx2.imp id ?_⟩
    rintro ⟨hx3, hx4⟩
    refine ⟨?_, hx4⟩
    rw [hrow2, ← hx3, hrm]

theorem isV_rep {S S' : Sim} : ∀ {cs : List AV} {ys : List Value}, cs.all AV.isV = true → RepL S cs ys → RepL S' cs ys
  | _, _, _, .nil => .nil
  | _, _, hv, .cons h1 h2 => by
    simp only [List.all_cons, Bool.and_eq_true] at hv
    refine .cons ?_ (isV_rep hv.2 h2)
    cases h1 <;> first | (exact .v (by assumption)) | (simp [AV.isV] at hv; done)

theorem scal1_rep {S S' : Sim} {x : AV} {y : Value} (hs : scal1 x = true) (h : Rep S x y) : Rep S' x y := by
  cases h <;> simp only [scal1, Bool.false_eq_true] at hs
  · exact .v (by assumption)
  · exact .agg (isV_rep hs (by assumption)) (by assumption)

theorem scalL_rep {S S' : Sim} : ∀ {cs : List AV} {ys : List Value}, cs.all scal1 = true → RepL S cs ys → RepL S' cs ys
  | _, _, _, .nil => .nil
  | _, _, hv, .cons h1 h2 => by
    simp only [List.all_cons, Bool.and_eq_true] at hv
    exact .cons (scal1_rep hv.1 h1) (scalL_rep hv.2 h2)

theorem scalR_rep {S S' : Sim} {x : AV} {y : Value} (hs : scalR x = true) (h : Rep S x y) : Rep S' x y := by
  by_cases ht : ∃ vs, x = .tup vs
  · obtain ⟨vs, rfl⟩ := ht
    cases h with
    | tup hl => exact .tup (scalL_rep hs hl)
  · have : scal1 x = true := by cases x <;> first | exact hs | exact absurd ⟨_, rfl⟩ ht
    exact scal1_rep this h

theorem exp0_still {st st1 : St} {a x : AV} (hs : hsOf0 a = []) (h : exp0 st a = some (x, st1)) : st1 = st := by
  unfold exp0 at h
  split at h
  · simp [hsOf0] at hs
  · split at h
    · cases h; rfl
    · cases h

theorem expL_still : ∀ {l m : List AV} {st st1 : St}, l.flatMap hsOf0 = [] → expL st l = some (m, st1) → st1 = st
  | [], m, st, st1, _, h => by simp only [expL, Option.some.injEq, Prod.mk.injEq] at h; exact h.2.symm
  | a :: r, m, st, st1, hs, h => by
    rw [List.flatMap_cons, List.append_eq_nil_iff] at hs
    simp only [expL] at h
    split at h
    · rename_i x s1 h1
      split at h
      · rename_i l s2 h2
        cases h
        rw [expL_still hs.2 h2, exp0_still hs.1 h1]
      · cases h
    · cases h

theorem exp1_still {st st1 : St} {a x : AV} (hs : hsOf a = []) (h : exp1 st a = some (x, st1)) : st1 = st := by
  unfold exp1 at h
  split at h
  · split at h
    · rename_i h1; cases h; exact expL_still hs h1
    · cases h
  · rename_i hne
    have hh : hsOf a = hsOf0 a := by cases a <;> first | rfl | exact absurd rfl (hne _)
    exact exp0_still (hh ▸ hs) h

theorem expA_still : ∀ {l m : List AV} {st st1 : St}, l.flatMap hsOf = [] → expA st l = some (m, st1) → st1 = st
  | [], m, st, st1, _, h => by simp only [expA, Option.some.injEq, Prod.mk.injEq] at h; exact h.2.symm
  | a :: r, m, st, st1, hs, h => by
    rw [List.flatMap_cons, List.append_eq_nil_iff] at hs
    simp only [expA] at h
    split at h
    · rename_i x s1 h1
      split at h
      · rename_i l s2 h2
        cases h
        rw [expA_still hs.2 h2, exp1_still hs.1 h1]
      · cases h
    · cases h

/-- A memory of which nothing more was frozen is the same. -/
theorem still_rep {S S0 : Sim} {st0 : St} (f0 : Frz S S0 st0) (hst : st0 = S.st) {w : World} {x : AV} {y : Value} (h : Rep (S0.at w) x y) : Rep (S.at w) x y := by
  have : S0 = S := by
    have h1 := f0.st
    have h2 := f0.w
    have h3 := f0.B
    have h4 := f0.A
    have h5 := f0.hm
    have h6 := f0.rm
    cases S
    cases S0
    simp only at h1 h2 h3 h4 h5 h6 hst
    subst h2 h3 h4 h5 h6
    rw [h1, hst]
  rw [← this]; exact h

/-- The end of a callee that hands on a new row, which becomes a block of one's own. -/
theorem fresh_ok {S0 S1 : Sim} {st1 : St} (I0 : Inv S0) (k2 : S1.st = st1) (k3 : S1.B = S0.inside.B) (k5 : Step S0.inside S1) {cs : List AV} {n r e sz : Nat} {y : Value} (hF : st1.F[r]? = some (e, sz)) (hlen : cs.length = e) (he0 : 0 < e) (hv : cs.all AV.isV = true) (hr : Rep S1 (.sl cs n (.own r e)) y) :
    ∃ S2 : Sim, S2.w = S1.w ∧ S2.st = { S0.st with H := S0.st.H ++ [{ cells := cs, fz := false }] } ∧ S2.B = S0.B ∧ S2.A = S0.A ∧ Step S0 S2 ∧ Rep S2 (.hs S0.st.H.length 0 n sz) y := by
  subst k2
  have hk := keeps_of k5
  cases hr with
  | sl h1 h2 h3 hl h5 ho hcl ht =>
    rename_i g off cap ys
    obtain ⟨e1, sz1, hF1, hle, hx⟩ := ht
    rw [hF] at hF1; cases hF1
    obtain ⟨⟨hx1, _, hx2⟩, hx3⟩ := hx rfl
    have hoff : off = 0 := hx2 hlen
    subst hoff
    rcases hx3 with hx3 | ⟨hrm, c, ty, hc, hfit⟩
    · exfalso
      have : n = 0 := by omega
      subst this
      omega
    · have hge : S0.w.heap.size ≤ g := by
        have := (k5.inv.rowb r g _ hrm).1
        rw [k3] at this; exact this
      let S2 : Sim := { S0 with w := S1.w, hm := S0.hm ++ [g], rm := S0.rm ++ [], st := { H := S0.st.H ++ [{ cells := cs, fz := false }], F := S0.st.F ++ [] } }
      have E : Ext S0 S2 := Ext.grow hk (by simpa using hge) (by simp)
      have hks : n * sz ≤ cap * sz := Nat.mul_le_mul_right _ h1
      have hys : c.toList.take cs.length = ys := by
        apply List.ext_getElem?
        intro i
        rw [List.getElem?_take]
        split
        · rename_i hi
          have hi' : i < ys.length := by rw [hl.length]; exact hi
          have := h5 i ys[i] (by simp [hi'])
          rw [Nat.zero_add, cell_of_row S1.w g i c ty (0, 0) hc] at this
          rw [Array.getElem?_toList, this]
          simp [hi']
        · rename_i hi
          rw [List.getElem?_eq_none (by rw [hl.length]; omega)]
      have J : Inv S2 := by
        refine Inv.grow I0 hk (by simpa using hge) (by simp) rfl rfl (by simp) (by simp) (by simp) ?_ (by simp)
        intro j g' hj
        have : j = 0 ∧ g' = g := by
          cases j with
          | zero => simp at hj; exact ⟨rfl, hj.symm⟩
          | succ j => simp at hj
        obtain ⟨rfl, rfl⟩ := this
        exact ⟨{ cells := cs, fz := false }, c, ty, rfl, hc, by show cs.length ≤ c.size; omega, by rw [hys]; exact isV_rep hv hl, ho⟩
      refine ⟨S2, rfl, by simp [S2], rfl, rfl, ⟨E, J, ⟨k5.below.os, k5.below.tape, k5.below.output, k5.below.size, fun k h => k5.below.block k (Nat.lt_of_lt_of_le h I0.hB)⟩⟩, ?_⟩
      refine .hs ?_ h1 h2 hc (.inl ⟨rfl, hfit⟩)
      show (S0.hm ++ [g])[S0.st.H.length]? = _
      rw [← I0.hl]; simp

theorem headOff_inv {N r x : Nat} {c0 c : Code} (h : headOff N r x c0 = some c) : ∃ id ops o0 o1 ci, c0 = .seq (.region id ops false) c ∧ ops.toList = [o0, o1] ∧ o0.op = .call ci ∧ ci.callee = .builtin .recover ∧ ci.args = #[] ∧ o1.op = .assign (.tmp r) ∧
    o0.dst = some r ∧ o0.guard = none ∧ o1.dst = some x ∧ o1.guard = none ∧ r < N ∧ x < N ∧ r ≠ x := by
  unfold headOff at h
  split at h
  · rename_i id ops c1
    split at h
    · rename_i o0 o1 hops
      split at h
      · rename_i ci t h0 h1
        split at h
        · rename_i hc ha
          split at h
          · rename_i hh
            obtain ⟨k1, k2, k3, k4, k5, k6, k7, k8⟩ := hh
            subst k3
            cases h
            exact ⟨id, ops, o0, o1, ci, rfl, hops, h0, hc, by simpa using ha, h1, k1, k2, k4, k5, k6, k7, k8⟩
          · cases h
        · cases h
      · cases h
    · cases h
  · cases h

theorem wanted_free {o : Oper} (h : o.guard = none) (y : Nat → Option Bool) : Region.wanted o y = true := by
  simp [Region.wanted, h]

/-- A closure that recovers. -/
theorem catch_ok {n : Nat} (hcode : CodeOk P T kd n) (hT : ∀ f s, T f = some s → ∃ fn, P.funcs[f]? = some fn ∧ stripFn P kd f fn = some s) {g : FuncId} {caps : List AV} {v : AV} {st st2 : St} (h : catchR T (run T n) g caps v st = some st2)
    {S : Sim} {ys : List Value} (hst : S.st = st) (I : Inv S) (hr : RepL S caps ys) {u : FrameMode} {y : Value} (hv : Rep S v y) (hu : (u = .returning ∧ y = .nilIface) ∨ u = .panicking [{ v := y, recovered := false }]) :
    CallsD P g ys.toArray u S.w fun e u' w' => settle u' = .returning ∧ (∃ z, e = .returned z) ∧ ∃ S', S'.w = w' ∧ S'.st = st2 ∧ S'.B = S.B ∧ S'.A = S.A ∧ Step S S' := by
  subst hst
  unfold catchR at h
  split at h
  · rename_i s hs
    split at h
    · rename_i r x hk
      split at h
      · rename_i hlen
        split at h
        · rename_i out hrun
          obtain ⟨fn, hf, hstrip⟩ := hT g s hs
          obtain ⟨c0, c, hb, hbo, hn, hle, ⟨b, hsb, her⟩, hres, hkd, _⟩ := stripFn_inv hstrip
          rw [← hkd, hk] at hbo
          obtain ⟨id, ops, o0, o1, ci, rfl, hops, h0, hc, ha, h1, d0, g0, d1, g1, hrN, hxN, hrx⟩ := headOff_inv hbo
          have hsz : ops.size = 2 := by rw [← Array.length_toList, hops]; rfl
          have e0 : ops[0]? = some o0 := by rw [← Array.getElem?_toList, hops]; rfl
          have e1 : ops[1]? = some o1 := by rw [← Array.getElem?_toList, hops]; rfl
          refine callsD_of_wpS hf hb fun cf cs hu' => ?_
          have hbeg := begin_ok I hr (n := fn.ntmps) (by omega)
          generalize ha0 : ({ tmps := ys.toArray ++ Array.replicate (fn.ntmps - ys.toArray.size) undef, defers := [] } : Act) = a0 at *
          have hsz0 : a0.tmps.size = fn.ntmps := hbeg.size
          have hf1 : FrOk S (Fr.put { s := initFr 0 caps, d := [] } (some r) v) (a0.put (some r) y) := hbeg.fr.put hv (by simp; omega)
          have hsz1 : (a0.put (some r) y).tmps.size = fn.ntmps := by simp [Act.put, hsz0]
          have hf2 := hf1.put (dst := some x) hv (by simp [hsz1]; omega)
          have hsz2 : ((a0.put (some r) y).put (some x) y).tmps.size = fn.ntmps := by simp [Act.put, hsz0]
          have hbeg2 : Beg S fn.ntmps { s := (x, v) :: (r, v) :: initFr 0 caps, d := [] } ((a0.put (some r) y).put (some x) y) := ⟨I, hsz2, hf2⟩
          have hev : (a0.put (some r) y).eval (.tmp r) = y := by simp [Act.eval, Act.put, hsz0, hrN]
          have x0 : (execOp a0.eval o0).run P S.w = .ok .recover S.w := by simp [execOp, h0, resolve, hc, ha, invoke, builtin]
          have x1 : (execOp (a0.put (some r) y).eval o1).run P S.w = .ok (.value y) S.w := by simp [execOp, h1, hev]
          have hwp := wp_mono (hcode fn.ntmps c b s.body _ S _ out hsb her hrun hbeg2) (fun e a w hp => hp)
          apply wpS_seq
          apply wpS_region
          have fin : ∀ cs2 u2, cs2 = { cf with mode := u2 } :: cs → settle u2 = .returning →
              c.wpS P (bodyPostS P fn cf cs fun e u' w' => settle u' = .returning ∧ (∃ z, e = .returned z) ∧ ∃ S', S'.w = w' ∧ S'.st = st2 ∧ S'.B = S.B ∧ S'.A = S.A ∧ Step S S') ((a0.put (some r) y).put (some x) y) cs2 S.w := by
            intro cs2 u2 hcs2 hset
            refine wpS_of_wp (wp_mono hwp fun e a w hp => ?_)
            obtain ⟨S', rfl, p2, p3, p4, p5, p6, p7, p8⟩ := hp
            have done : (∃ xs, out.2.1.d = [] ∧ takeRess out.2.1.s out.2.2.H s.res = some xs ∧ out.2.2 = st2) → a.defers = [] ∧ ∃ u', cs2 = { cf with mode := u' } :: cs ∧ ∃ z, (results fn a.tmps).run P S'.w = .ok z S'.w ∧ settle u' = .returning ∧ (∃ z', Ending.returned z = .returned z') ∧ ∃ S'', S''.w = S'.w ∧ S''.st = st2 ∧ S''.B = S.B ∧ S''.A = S.A ∧ Step S S'' := by
              rintro ⟨xs, q1, q2, q3⟩
              have hd := p7.d
              rw [q1] at hd
              obtain ⟨z, hz, _⟩ := results_run p5.inv p7.s hres (by rw [p2]; exact q2)
              exact ⟨hd.nil_inv, u2, hcs2, z, hz, hset, ⟨z, rfl⟩, S', rfl, p2.trans q3, p3, p4, p5⟩
            obtain ⟨ex, frX, stX⟩ := out
            cases ex with
            | nx =>
              cases e with
              | normal =>
                refine done ?_
                simp only [endC] at h
                split at h
                · rename_i hd
                  split at h
                  · rename_i xs hx; cases h; exact ⟨xs, hd, hx, rfl⟩
                  · cases h
                · cases h
              | _ => simp [ExOk] at p8
            | rt =>
              cases e with
              | ret =>
                refine done ?_
                simp only [endC] at h
                split at h
                · rename_i hd
                  split at h
                  · rename_i xs hx; cases h; exact ⟨xs, hd, hx, rfl⟩
                  · cases h
                · cases h
              | _ => simp [ExOk] at p8
            | ex i => simp [endC] at h
            | pn a => simp [endC] at h
          rw [hsz]
          rcases hu with ⟨rfl, rfl⟩ | rfl
          · have hrec : recoverD (cf :: cs) = none := by simp [recoverD, hu']
            simp only [List.range_succ, List.range_zero, List.nil_append, List.cons_append, wpOpsS, e0, e1, wanted_free g0, wanted_free g1, if_true, x0, hrec, d0, d1, x1, Oper.upon]
            exact fin _ .returning (by rw [← hu']) rfl
          · have hrec : recoverD (cf :: cs) = some (y, { cf with mode := .panicking [{ v := y, recovered := true }] } :: cs) := by simp [recoverD, hu']
            simp only [List.range_succ, List.range_zero, List.nil_append, List.cons_append, wpOpsS, e0, e1, wanted_free g0, wanted_free g1, if_true, x0, hrec, d0, d1, x1, Oper.upon]
            exact fin _ _ rfl (by simp [settle])
        · cases h
      · cases h
    · cases h
  · cases h

/-- A function with one deferred closure that recovers. -/
theorem guard_ok {n : Nat} (hcode : CodeOk P T kd n) (hT : ∀ f s, T f = some s → ∃ fn, P.funcs[f]? = some fn ∧ stripFn P kd f fn = some s) {f : FuncId} {fn : Func} {s : SFn} (hf : P.funcs[f]? = some fn) (hs : stripFn P kd f fn = some s) (hnc : ∀ r x, s.kind ≠ .catch r x) {args : List AV} {st st' : St} {x : AV}
    (hi : innerG T (run T n) s args st = some (x, st')) (hlen : args.length = s.np) {S : Sim} {ys : List Value} (hst : S.st = st) (I : Inv S) (hr : RepL S args ys) : CallsTo P S f ys (.ret x) st' := by
  obtain ⟨c0, c, hb, hbo, hn, hle, ⟨b, hstrip, her⟩, hres, hkd, _⟩ := stripFn_inv hs
  rw [hkd] at hnc
  have := bodyOf_eq hnc hbo
  subst this
  subst hst
  have hbeg := begin_ok I hr (n := fn.ntmps) (by omega)
  unfold innerG at hi
  split at hi
  · rename_i out hrun
    split at hi
    · rename_i l g caps v st1 ho
      split at hi
      · rename_i st2 hcat
        split at hi
        · rename_i xs hx
          cases hi
          refine calls_of_wp_defers hf hb (wp_mono (hcode _ c0 b _ _ S _ _ hstrip her hrun hbeg) fun e a w hp => ?_)
          obtain ⟨S', rfl, p2, p3, p4, p5, p6, p7, p8⟩ := hp
          have key : ∀ (u : FrameMode) (y : Value), out.2.1.s = l → out.2.1.d = [(g, caps)] → out.2.2 = st1 → Rep S' v y → ((u = .returning ∧ y = .nilIface) ∨ u = .panicking [{ v := y, recovered := false }]) → u ≠ .run →
              Leaves P fn a.tmps (fun e w' => ∃ S', S'.w = w' ∧ S'.st = st' ∧ S'.B = S.B ∧ S'.A = S.A ∧ Step S S' ∧ EndOk S' (.ret (pack xs)) e) a.defers u S'.w := by
            intro u y q1 q2 q3 hv hu hur
            have hd := p7.d
            rw [q2] at hd
            generalize a.defers = ds at hd ⊢
            cases hd with
            | @cons _ _ zs _ _ hz hd2 =>
              cases hd2
              obtain ⟨fng, hfg, hsg⟩ : ∃ fng, P.funcs[g]? = some fng ∧ ∃ sg, stripFn P kd g fng = some sg := by
                unfold catchR at hcat
                split at hcat
                · rename_i sg hsg
                  obtain ⟨fng, k1, k2⟩ := hT g sg hsg
                  exact ⟨fng, k1, sg, k2⟩
                · cases hcat
              obtain ⟨sg, hsg⟩ := hsg
              obtain ⟨cg, _, hbg, _, hng, _⟩ := stripFn_inv hsg
              have hcall := callable_of hfg hbg hng zs.toArray S'.w
              refine leaves_cons (f := g) (args := zs.toArray) hur (by simpa [invoke] using hcall) ?_
              refine CallsD.mono (catch_ok hcode hT hcat (p2.trans q3) p5.inv hz hv hu) fun e u' w' => ?_
              rintro ⟨h1, ⟨z, rfl⟩, S2, rfl, k2, k3, k4, k5⟩
              simp only
              rw [h1]
              obtain ⟨z, hz1, hz2⟩ := results_run (S := S2) k5.inv (fun i x hx => let ⟨y, h1, h2⟩ := p7.s i x (by rw [q1]; exact hx); ⟨y, h1, Rep.ext k5.ext h2⟩) hres (by rw [k2]; exact hx)
              exact ⟨z, hz1, S2, rfl, k2, k3.trans p3, k4.trans p4, p5.trans k5, hz2⟩
          obtain ⟨ex, frX, stX⟩ := out
          cases ex with
          | nx =>
            cases e with
            | normal =>
              simp only [openG] at ho
              split at ho
              · rename_i g' caps' hd
                cases ho
                exact key .returning .nilIface rfl hd rfl (.v rfl) (.inl ⟨rfl, rfl⟩) (by simp)
              · cases ho
            | _ => simp [ExOk] at p8
          | rt =>
            cases e with
            | ret =>
              simp only [openG] at ho
              split at ho
              · rename_i g' caps' hd
                cases ho
                exact key .returning .nilIface rfl hd rfl (.v rfl) (.inl ⟨rfl, rfl⟩) (by simp)
              · cases ho
            | _ => simp [ExOk] at p8
          | pn v' =>
            cases e with
            | panic ch =>
              cases ch with
              | nil => simp [ExOk] at p8
              | cons q t =>
                cases t with
                | nil =>
                  obtain ⟨y, rfl, hy⟩ := p8
                  simp only [openG] at ho
                  split at ho
                  · rename_i g' caps' hd
                    cases ho
                    exact key _ y rfl hd rfl hy (.inr rfl) (by simp)
                  · cases ho
                | cons => simp [ExOk] at p8
            | _ => simp [ExOk] at p8
          | ex i => simp [openG] at ho
        · cases hi
      · cases hi
    · cases hi
  · cases hi

theorem callOk_of {n : Nat} (hT : ∀ f s, T f = some s → ∃ fn, P.funcs[f]? = some fn ∧ stripFn P kd f fn = some s) (hcode : CodeOk P T kd n) : CallOk P (callOf T (run T n)) := by
  intro f args st r st' h
  unfold callOf at h
  split at h
  · cases h
  · rename_i s hs
    obtain ⟨fn, hf, hstrip⟩ := hT f s hs
    obtain ⟨c, c', hb, hbo, hn, hle, hsc, hres, hkind, _⟩ := stripFn_inv hstrip
    refine ⟨callable_of hf hb hn, fun S ys hst I hr => ?_⟩
    split at h
    · rename_i hlen
      split at h
      · rename_i hk; exact inner_ok hcode hf hstrip (by rw [hk]; simp) h hlen hst I hr
      · rename_i hk; exact inner_ok hcode hf hstrip (by rw [hk]; simp) h hlen hst I hr
      · cases h
      · rename_i hk
        split at h
        · cases h
        · rename_i args1 st0 hx
          subst hst
          obtain ⟨S0, f0, r0, c0⟩ := expA_rep I hx hr
          have r1 : RepL S0.inside args1 ys := r0.moveC (fun _ _ _ => inside_safe) (fun _ _ _ _ _ _ => rfl) c0
          have hlen1 : args1.length = s.np := by rw [← hlen, ← hr.length, ← r0.length]
          split at h
          · rename_i a st1 hi
            rw [Option.map_eq_some_iff] at h; obtain ⟨x, hx', h⟩ := h; cases h
            have hg := guard_ok hcode hT hf hstrip (by rw [hk]; simp) hi hlen1 (S := S0.inside) rfl (inside_inv f0.inv) r1
            have hw : S0.inside.w = S.w := f0.w
            unfold CallsTo at hg
            rw [hw] at hg
            refine Calls.mono hg fun e w' => ?_
            rintro ⟨S1, rfl, k2, k3, k4, k5, k6⟩
            obtain ⟨d1, d2⟩ := drop_ok (r := .ret x) (e := e) f0.inv k2 k3 k4 k5 hx' (.inl ⟨rfl, k6⟩)
            exact ⟨S0.at S1.w, rfl, f0.st, f0.B, f0.A, f0.step.trans d1, d2⟩
          · cases h
      · rename_i hk
        have hnc : ∀ r x, s.kind ≠ .catch r x := by rw [hk]; simp
        split at h
        · cases h
        · rename_i args1 st0 hx
          subst hst
          obtain ⟨S0, f0, r0, c0⟩ := expA_rep I hx hr
          have r1 : RepL S0.inside args1 ys := r0.moveC (fun _ _ _ => inside_safe) (fun _ _ _ _ _ _ => rfl) c0
          have hlen1 : args1.length = s.np := by rw [← hlen, ← hr.length, ← r0.length]
          have fin : ∀ (r' : Res) (st1 : St) (a x : AV), inner (run T n) s args1 .mt = some (r', st1) → expR st1 a = some x → (r' = .ret a ∧ r = .ret x ∨ r' = .pan a ∧ r = .pan x) → st' = st0 → CallsTo P S f ys r st' := by
            intro r' st1 a x hi hx' hor hst'
            subst hst'
            refine Calls.mono (inner_in hcode hf hstrip hnc hi hlen1 f0.w f0.inv r1) fun e w' => ?_
            rintro ⟨S1, rfl, k2, k3, k4, k5, k6⟩
            obtain ⟨d1, d2⟩ := drop_ok (r := r) (e := e) f0.inv k2 k3 k4 k5 hx' (hor.imp (fun hh => ⟨And.right hh, by rw [← And.left hh]; exact k6⟩) (fun hh => ⟨And.right hh, by rw [← And.left hh]; exact k6⟩))
            exact ⟨S0.at S1.w, rfl, f0.st, f0.B, f0.A, f0.step.trans d1, d2⟩
          split at h
          · rename_i a st1 hi
            rw [Option.map_eq_some_iff] at h; obtain ⟨x, hx', h⟩ := h; cases h
            exact fin _ st1 a x hi hx' (.inl ⟨rfl, rfl⟩) rfl
          · rename_i a st1 hi
            rw [Option.map_eq_some_iff] at h; obtain ⟨x, hx', h⟩ := h; cases h
            exact fin _ st1 a x hi hx' (.inr ⟨rfl, rfl⟩) rfl
          · cases h
      · rename_i hk
        have hnc : ∀ r x, s.kind ≠ .catch r x := by rw [hk]; simp
        split at h
        · cases h
        · rename_i args1 st0 hx
          subst hst
          obtain ⟨S0, f0, r0, c0⟩ := expA_rep I hx hr
          have r1 : RepL S0.inside args1 ys := r0.moveC (fun _ _ _ => inside_safe) (fun _ _ _ _ _ _ => rfl) c0
          have hlen1 : args1.length = s.np := by rw [← hlen, ← hr.length, ← r0.length]
          have fin : ∀ (r' : Res) (st1 : St) (a x : AV), inner (run T n) s args1 .mt = some (r', st1) → expR st1 a = some x → (r' = .ret a ∧ r = .ret x ∨ r' = .pan a ∧ r = .pan x) → st' = st0 → CallsTo P S f ys r st' := by
            intro r' st1 a x hi hx' hor hst'
            subst hst'
            refine Calls.mono (inner_in hcode hf hstrip hnc hi hlen1 f0.w f0.inv r1) fun e w' => ?_
            rintro ⟨S1, rfl, k2, k3, k4, k5, k6⟩
            obtain ⟨d1, d2⟩ := drop_ok (r := r) (e := e) f0.inv k2 k3 k4 k5 hx' (hor.imp (fun hh => ⟨And.right hh, by rw [← And.left hh]; exact k6⟩) (fun hh => ⟨And.right hh, by rw [← And.left hh]; exact k6⟩))
            exact ⟨S0.at S1.w, rfl, f0.st, f0.B, f0.A, f0.step.trans d1, d2⟩
          split at h
          · rename_i cs m r' e' st1 hi
            split at h
            · rename_i e1 sz hF
              split at h
              · rename_i he
                subst he
                cases h
                refine Calls.mono (inner_in hcode hf hstrip hnc hi hlen1 f0.w f0.inv r1) fun e w' => ?_
                rintro ⟨S1, rfl, k2, k3, k4, k5, k6⟩
                cases e with
                | returned y =>
                  obtain ⟨S2, q1, q2, q3, q4, q5, q6⟩ := keep_ok f0.inv k2 k3 k4 k5 hF k6
                  rw [f0.st] at q2 q6
                  exact ⟨S2, q1, q2, q3.trans f0.B, q4.trans f0.A, f0.step.trans q5, q6⟩
                | panicked ch => simp [EndOk] at k6
                | outgrown => simp [EndOk] at k6
              · cases h
            · cases h
          · rename_i cs m st1 hi
            cases h
            refine Calls.mono (inner_in hcode hf hstrip hnc hi hlen1 f0.w f0.inv r1) fun e w' => ?_
            rintro ⟨S1, rfl, k2, k3, k4, k5, k6⟩
            cases e with
            | returned y =>
              obtain ⟨q1, q2⟩ := full_ok f0.inv k3 k4 k5 k6
              exact ⟨S0.at S1.w, rfl, f0.st, f0.B, f0.A, f0.step.trans q1, q2⟩
            | panicked ch => simp [EndOk] at k6
            | outgrown => simp [EndOk] at k6
          · rename_i a st1 _ _ hi
            rw [Option.map_eq_some_iff] at h; obtain ⟨x, hx', h⟩ := h; cases h
            exact fin _ st1 a x hi hx' (.inl ⟨rfl, rfl⟩) rfl
          · rename_i a st1 hi
            rw [Option.map_eq_some_iff] at h; obtain ⟨x, hx', h⟩ := h; cases h
            exact fin _ st1 a x hi hx' (.inr ⟨rfl, rfl⟩) rfl
          · cases h
      · rename_i hk
        have hnc : ∀ r x, s.kind ≠ .catch r x := by rw [hk]; simp
        split at h
        · cases h
        · rename_i args1 st0 hx
          subst hst
          obtain ⟨S0, f0, r0, c0⟩ := expA_rep I hx hr
          have r1 : RepL S0.inside args1 ys := r0.moveC (fun _ _ _ => inside_safe) (fun _ _ _ _ _ _ => rfl) c0
          have hlen1 : args1.length = s.np := by rw [← hlen, ← hr.length, ← r0.length]
          have fin : ∀ (r' : Res) (st1 : St) (a x : AV), inner (run T n) s args1 .mt = some (r', st1) → expR st1 a = some x → (r' = .ret a ∧ r = .ret x ∨ r' = .pan a ∧ r = .pan x) → st' = st0 → CallsTo P S f ys r st' := by
            intro r' st1 a x hi hx' hor hst'
            subst hst'
            refine Calls.mono (inner_in hcode hf hstrip hnc hi hlen1 f0.w f0.inv r1) fun e w' => ?_
            rintro ⟨S1, rfl, k2, k3, k4, k5, k6⟩
            obtain ⟨d1, d2⟩ := drop_ok (r := r) (e := e) f0.inv k2 k3 k4 k5 hx' (hor.imp (fun hh => ⟨And.right hh, by rw [← And.left hh]; exact k6⟩) (fun hh => ⟨And.right hh, by rw [← And.left hh]; exact k6⟩))
            exact ⟨S0.at S1.w, rfl, f0.st, f0.B, f0.A, f0.step.trans d1, d2⟩
          split at h
          · rename_i cs m r' e' st1 hi
            split at h
            · rename_i e1 sz hF
              split at h
              · rename_i he
                obtain ⟨he, hlen2, he0, hv⟩ := he
                subst he
                cases h
                refine Calls.mono (inner_in hcode hf hstrip hnc hi hlen1 f0.w f0.inv r1) fun e w' => ?_
                rintro ⟨S1, rfl, k2, k3, k4, k5, k6⟩
                cases e with
                | returned y =>
                  obtain ⟨S2, q1, q2, q3, q4, q5, q6⟩ := fresh_ok f0.inv k2 k3 k5 hF hlen2 he0 hv k6
                  rw [f0.st] at q2 q6
                  exact ⟨S2, q1, q2, q3.trans f0.B, q4.trans f0.A, f0.step.trans q5, q6⟩
                | panicked ch => simp [EndOk] at k6
                | outgrown => simp [EndOk] at k6
              · cases h
            · cases h
          · rename_i cs m st1 hi
            cases h
            refine Calls.mono (inner_in hcode hf hstrip hnc hi hlen1 f0.w f0.inv r1) fun e w' => ?_
            rintro ⟨S1, rfl, k2, k3, k4, k5, k6⟩
            cases e with
            | returned y =>
              obtain ⟨q1, q2⟩ := full_ok f0.inv k3 k4 k5 k6
              exact ⟨S0.at S1.w, rfl, f0.st, f0.B, f0.A, f0.step.trans q1, q2⟩
            | panicked ch => simp [EndOk] at k6
            | outgrown => simp [EndOk] at k6
          · rename_i a st1 _ _ hi
            rw [Option.map_eq_some_iff] at h; obtain ⟨x, hx', h⟩ := h; cases h
            exact fin _ st1 a x hi hx' (.inl ⟨rfl, rfl⟩) rfl
          · rename_i a st1 hi
            rw [Option.map_eq_some_iff] at h; obtain ⟨x, hx', h⟩ := h; cases h
            exact fin _ st1 a x hi hx' (.inr ⟨rfl, rfl⟩) rfl
          · cases h
      · rename_i hk
        have hnc : ∀ r x, s.kind ≠ .catch r x := by rw [hk]; simp
        split at h
        · cases h
        · rename_i args1 st0 hx
          subst hst
          obtain ⟨S0, f0, r0, c0⟩ := expA_rep I hx hr
          have r1 : RepL S0.inside args1 ys := r0.moveC (fun _ _ _ => inside_safe) (fun _ _ _ _ _ _ => rfl) c0
          have hlen1 : args1.length = s.np := by rw [← hlen, ← hr.length, ← r0.length]
          split at h
          · rename_i a st1 hi
            split at h
            · rename_i x hx'
              split at h
              · rename_i hsc
                cases h
                refine Calls.mono (inner_in hcode hf hstrip hnc hi hlen1 f0.w f0.inv r1) fun e w' => ?_
                rintro ⟨S1, rfl, k2, k3, k4, k5, k6⟩
                obtain ⟨d1, d2⟩ := drop_ok (r := .ret x) (e := e) f0.inv k2 k3 k4 k5 hx' (.inl ⟨rfl, k6⟩)
                have hk' : Keeps S.w S1.w := by rw [← f0.w]; exact keeps_of k5
                refine ⟨S.at S1.w, rfl, rfl, rfl, rfl, ⟨Ext.keeps hk', Inv.keeps I hk', ?_⟩, ?_⟩
                · have hb := (f0.step.trans d1).below
                  exact hb
                · cases e with
                  | returned y =>
                    rcases Bool.or_eq_true _ _ ▸ hsc with hsc | hsc
                    · exact scalR_rep hsc d2
                    · have hst0 : st0 = S.st := expA_still (by simpa using hsc) hx
                      exact still_rep f0 hst0 d2
                  | panicked ch => simp [EndOk] at d2
                  | outgrown => simp [EndOk] at d2
              · cases h
            · cases h
          · cases h
    · cases h

theorem sound (hmix : P.follows .mixedOrders = true) (hT : ∀ f s, T f = some s → ∃ fn, P.funcs[f]? = some fn ∧ stripFn P kd f fn = some s) (n : Nat) : CodeOk P T kd n ∧ LoopOk P T kd n := by
  induction n with
  | zero => exact ⟨fun _ _ _ _ _ _ _ _ _ _ h => by simp [run] at h, fun _ _ _ _ _ _ _ _ _ _ _ h => by simp [run] at h⟩
  | succ n ih =>
    refine code_step hmix (callOk_of hT ih.1) (mild_of (fun f s h => ?_) n).2 ih.1 ih.2
    obtain ⟨fn, _, h2⟩ := hT f s h
    obtain ⟨_, _, _, _, _, _, _, _, _, h3⟩ := stripFn_inv h2
    exact ⟨by assumption, h3⟩

/-- What the evaluator answers, a call comes to. -/
theorem call_sound (hmix : P.follows .mixedOrders = true) (hT : ∀ f s, T f = some s → ∃ fn, P.funcs[f]? = some fn ∧ stripFn P kd f fn = some s) (n : Nat) : CallOk P (callOf T (run T n)) :=
  callOk_of hT (sound hmix hT n).1

end

end VS
end Go.Proofs.Ytbnhmahkgeaajaa
