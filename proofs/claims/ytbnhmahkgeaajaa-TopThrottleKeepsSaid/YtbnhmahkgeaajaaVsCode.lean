/- Code: what the evaluator answers, the model's code comes to. -/
import Derived.Test.YtbnhmahkgeaajaaVsDraw3
import Derived.LoopN
namespace Go.Proofs.Ytbnhmahkgeaajaa
namespace VS

theorem look_only : ∀ {l : List (Nat × AV)} {ks : List Nat} {i : Nat} {x : AV}, look (onlyL l ks) i = some x → look l i = some x
  | l, [], i, x, h => by simp [onlyL, look] at h
  | l, k :: r, i, x, h => by
    simp only [onlyL] at h
    split at h
    · rename_i a ha
      simp only [look_put] at h
      split at h
      · rename_i hk; subst hk; cases h; exact ha
      · exact look_only h
    · exact look_only h

theorem FrOk.only {S : Sim} {fr : Fr} {a : Act} (h : FrOk S fr a) (ks : List Nat) : FrOk S (fr.only ks) a := ⟨fun i x hx => h.s i x (look_only hx), h.d⟩

theorem rounds_mono {P : Program} {c : Code} {Q Q' : Exit → Act → World → Prop} (hq : ∀ e a w, Q e a w → Q' e a w) : ∀ n a w, Code.rounds P c Q n a w → Code.rounds P c Q' n a w
  | 0, _, _, h => h
  | n + 1, a, w, h => wp_mono h fun e a w hh => by
    cases e with
    | normal => exact rounds_mono hq n a w hh
    | _ => exact hq _ _ _ hh

section
variable {P : Program} {T : FuncId → Option SFn} {kd : FuncId → Kind} {N : Nat}

/-- The state in which code begins. -/
structure Beg (S : Sim) (N : Nat) (fr : Fr) (a : Act) : Prop where
  inv : Inv S
  size : a.tmps.size = N
  fr : FrOk S fr a

def CodeOk (P : Program) (T : FuncId → Option SFn) (kd : FuncId → Kind) (n : Nat) : Prop :=
  ∀ (N : Nat) (c : Code) (b sc : SCode) (fr : Fr) (S : Sim) (a : Act) (out : Out), strip P kd N c = some b → erase sc = erase b → run T n sc fr S.st = some out → Beg S N fr a → c.wp P (Post S N out) a S.w

def LoopOk (P : Program) (T : FuncId → Option SFn) (kd : FuncId → Kind) (n : Nat) : Prop :=
  ∀ (N : Nat) (ks : List Nat) (c : Code) (b sc : SCode) (fr : Fr) (S : Sim) (a : Act) (out : Out), strip P kd N c = some b → erase sc = erase b → run T n (.loop ks sc) fr S.st = some out → Beg S N fr a → Code.rounds P c (Post S N out) n a S.w

theorem Beg.only {S : Sim} {N : Nat} {fr : Fr} {a : Act} (h : Beg S N fr a) (ks : List Nat) : Beg S N (fr.only ks) a := ⟨h.inv, h.size, h.fr.only ks⟩

/-- The way on from where code ended normally; or the end, as it is. -/
theorem Post.cases {S : Sim} {o : Out} {e : Exit} {a : Act} {w : World} (h : Post S N o e a w) :
    (∃ fr1 st1 S', o = (.nx, fr1, st1) ∧ e = .normal ∧ S'.w = w ∧ S'.st = st1 ∧ S'.B = S.B ∧ S'.A = S.A ∧ Step S S' ∧ Beg S' N fr1 a) ∨ (e ≠ .normal ∧ o.1 ≠ .nx) := by
  obtain ⟨S', h1, h2, h3, h4, h5, h6, h7, h8⟩ := h
  obtain ⟨ex, fr1, st1⟩ := o
  cases ex with
  | nx =>
    cases e with
    | normal => exact .inl ⟨fr1, st1, S', rfl, rfl, h1, h2, h3, h4, h5, h5.inv, h6, h7⟩
    | _ => simp [ExOk] at h8
  | ex i => cases e <;> first | (simp [ExOk] at h8; done) | (exact .inr ⟨by simp, by simp⟩)
  | rt => cases e <;> first | (simp [ExOk] at h8; done) | (exact .inr ⟨by simp, by simp⟩)
  | pn x => cases e <;> first | (simp [ExOk] at h8; done) | (exact .inr ⟨by simp, by simp⟩)

theorem code_step {n : Nat} (hmix : P.follows .mixedOrders = true) (hC : CallOk P (callOf T (run T n))) (hM : Mild kd (callOf T (run T n))) (ih : CodeOk P T kd n) (ihl : LoopOk P T kd n) : CodeOk P T kd (n + 1) ∧ LoopOk P T kd (n + 1) := by
  have loop : LoopOk P T kd (n + 1) := by
    intro N ks c b sc fr S a out hs hsc he hb
    simp only [run] at he
    split at he
    · rename_i fr1 st1 h1
      refine wp_mono (ih N c b sc _ S a _ hs hsc h1 (hb.only ks)) fun e a' w' hp => ?_
      rcases hp.cases with ⟨f, s, S', ho, rfl, rfl, hst, hB, hA, hstep, hb'⟩ | ⟨_, h⟩
      · cases ho
        exact rounds_mono (fun e a w h => Post.step hB hA hstep h) n a' S'.w (ihl N ks c b sc _ S' a' out hs hsc (by rw [hst]; exact he) hb')
      · exact absurd rfl h
    · rename_i o hno
      refine wp_mono (ih N c b sc _ S a _ hs hsc he (hb.only ks)) fun e a' w' hp => ?_
      rcases hp.cases with ⟨f, s, S', ho, _⟩ | ⟨h, _⟩
      · rw [ho] at he; exact absurd he (hno f s)
      · cases e with
        | normal => exact absurd rfl h
        | _ => exact hp
  refine ⟨?_, loop⟩
  intro N c b sc fr S a out hs hsc he hb
  cases c with
  | skip =>
    simp only [strip, Option.some.injEq] at hs; subst hs
    cases sc <;> simp only [erase] at hsc <;> first | (cases hsc; done) | skip
    simp only [run, Option.some.injEq] at he; subst he
    exact wp_skip ⟨S, rfl, rfl, rfl, rfl, Step.refl hb.inv, hb.size, hb.fr, trivial⟩
  | region id ops draw =>
    simp only [strip] at hs
    split at hs
    · rename_i l hl
      split at hs
      · rename_i hd
        subst hd
        split at hs
        · rename_i hok
          cases hs
          cases sc <;> simp only [erase] at hsc <;> first | (cases hsc; done) | skip
          cases hsc
          simp only [run] at he
          split at he
          · rename_i fr1 st1 h1
            cases he
            exact draw_sound hC hM hmix hl hok (fun h => by cases h) h1 hb.inv hb.size hb.fr
          · simp at he
        · split at hs
          · rename_i hok
            cases hs
            cases sc <;> simp only [erase] at hsc <;> first | (cases hsc; done) | skip
            cases hsc
            simp only [run] at he
            split at he
            · rename_i fr1 st1 h1
              split at he
              · rename_i hfr
                cases he
                exact draw_sound hC hM hmix hl hok (fun _ => hfr) h1 hb.inv hb.size hb.fr
              · cases he
            · cases he
          · cases hs
      · rename_i hd
        have : draw = false := by simpa using hd
        subst this
        cases hs
        cases sc <;> simp only [erase] at hsc <;> first | (cases hsc; done) | skip
        cases hsc
        simp only [run] at he
        have he' : evOps (callOf T (run T n)) l fr S.st = some out := by
          split at he
          · rename_i h1; rw [h1]; exact he
          · simpa using he
        exact wp_region_list (ops_sound hC ops.toList l fr S a hl he' rfl rfl (Step.refl hb.inv) hb.size hb.fr)
    · cases hs
  | seq x y =>
    simp only [strip] at hs
    split at hs
    · rename_i sx sy hx hy
      cases hs
      cases sc <;> simp only [erase] at hsc <;> first | (cases hsc; done) | skip
      rename_i ks ca cb
      simp only [SCode.seq.injEq, true_and] at hsc
      simp only [run] at he
      split at he
      · rename_i fr1 st1 h1
        refine wp_seq (wp_mono (ih N x sx ca fr S a _ hx hsc.1 h1 hb) fun e a' w' hp => ?_)
        rcases hp.cases with ⟨f, s, S', ho, rfl, rfl, hst, hB, hA, hstep, hb'⟩ | ⟨_, h⟩
        · cases ho
          exact wp_mono (ih N y sy cb _ S' a' out hy hsc.2 (by rw [hst]; exact he) (hb'.only ks)) fun e a w h => Post.step hB hA hstep h
        · exact absurd rfl h
      · rename_i o hno
        refine wp_seq (wp_mono (ih N x sx ca fr S a _ hx hsc.1 he hb) fun e a' w' hp => ?_)
        rcases hp.cases with ⟨f, s, S', ho, _⟩ | ⟨h, _⟩
        · rw [ho] at he; exact absurd he (hno f s)
        · cases e with
          | normal => exact absurd rfl h
          | _ => exact hp
    · cases hs
  | cond q x y =>
    simp only [strip] at hs
    split at hs
    · rename_i sq sx sy hq hx hy
      cases hs
      cases sc <;> simp only [erase] at hsc <;> first | (cases hsc; done) | skip
      rename_i cq ca cb
      simp only [SCode.cond.injEq] at hsc
      obtain ⟨rfl, hsa, hsb⟩ := hsc
      simp only [run] at he
      split at he
      · rename_i h1
        have hr := (stripX_rep hb.fr hq h1).bool_inv
        exact wp_cond_true hr (ih N x sx ca fr S a out hx hsa he hb)
      · rename_i h1
        have hr := (stripX_rep hb.fr hq h1).bool_inv
        exact wp_cond_false hr (ih N y sy cb fr S a out hy hsb he hb)
      · cases he
    · cases hs
  | block id c =>
    simp only [strip] at hs
    rw [Option.map_eq_some_iff] at hs
    obtain ⟨sc', hc, rfl⟩ := hs
    cases sc <;> simp only [erase] at hsc <;> first | (cases hsc; done) | skip
    rename_i id' cc
    simp only [SCode.block.injEq] at hsc
    obtain ⟨rfl, hsc⟩ := hsc
    simp only [run] at he
    split at he
    · rename_i i fr1 st1 h1
      refine wp_block (wp_mono (ih N c sc' cc fr S a _ hc hsc h1 hb) fun e a' w' hp => ?_)
      obtain ⟨S', p1, p2, p3, p4, p5, p6, p7, p8⟩ := hp
      cases e with
      | exit j =>
        simp only [ExOk] at p8; subst p8
        simp only [Exit.inBlock]
        split at he
        · rename_i hi; subst hi
          cases he
          simp only [if_true]
          exact ⟨S', p1, p2, p3, p4, p5, p6, p7, trivial⟩
        · rename_i hi
          cases he
          rw [if_neg hi]
          exact ⟨S', p1, p2, p3, p4, p5, p6, p7, rfl⟩
      | _ => simp [ExOk] at p8
    · rename_i o hno
      refine wp_block (wp_mono (ih N c sc' cc fr S a _ hc hsc he hb) fun e a' w' hp => ?_)
      cases e with
      | exit j =>
        obtain ⟨S', p1, p2, p3, p4, p5, p6, p7, p8⟩ := hp
        obtain ⟨ex, fr1, st1⟩ := out
        cases ex with
        | ex i => exact absurd he (hno i fr1 st1)
        | _ => simp [ExOk] at p8
      | _ => exact hp
  | loop c =>
    simp only [strip] at hs
    rw [Option.map_eq_some_iff] at hs
    obtain ⟨sc', hc, rfl⟩ := hs
    cases sc <;> simp only [erase] at hsc <;> first | (cases hsc; done) | skip
    rename_i ks cc
    simp only [SCode.loop.injEq, true_and] at hsc
    exact wp_loop_rounds (n + 1) (loop N ks c sc' cc fr S a out hc hsc he hb)
  | exit id =>
    simp only [strip, Option.some.injEq] at hs; subst hs
    cases sc <;> simp only [erase] at hsc <;> first | (cases hsc; done) | skip
    cases hsc
    simp only [run, Option.some.injEq] at he; subst he
    exact wp_exit ⟨S, rfl, rfl, rfl, rfl, Step.refl hb.inv, hb.size, hb.fr, rfl⟩
  | ret =>
    simp only [strip, Option.some.injEq] at hs; subst hs
    cases sc <;> simp only [erase] at hsc <;> first | (cases hsc; done) | skip
    simp only [run, Option.some.injEq] at he; subst he
    exact wp_ret ⟨S, rfl, rfl, rfl, rfl, Step.refl hb.inv, hb.size, hb.fr, trivial⟩
  | _ => simp [strip] at hs

end

end VS
end Go.Proofs.Ytbnhmahkgeaajaa
