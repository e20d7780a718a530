/- One operation, then a list of them, then code, then a function: what the evaluator answers, the model's run comes to. -/
import Derived.Test.YtbnhmahkgeaajaaVsAppend
namespace Go.Proofs.Ytbnhmahkgeaajaa
namespace VS

def EndOk (S : Sim) : Res → Ending → Prop
  | .ret x, .returned y => Rep S x y
  | .pan x, .panicked [e] => ∃ y, e = { v := y, recovered := false } ∧ Rep S x y
  | _, _ => False

def Callable (P : Program) (f : FuncId) : Prop := ∀ (args : Array Value) (w : World), (callFunc f args).run P w = .ok (.enter f args) w

/-- A call's answer, held against the model's call. -/
def CallOk (P : Program) (C : CallF) : Prop := ∀ (f : FuncId) (args : List AV) (st : St) (r : Res) (st' : St), C f args st = some (r, st') →
  Callable P f ∧ ∀ (S : Sim) (ys : List Value), S.st = st → Inv S → RepL S args ys →
    Calls P f ys.toArray S.w fun e w' => ∃ S', S'.w = w' ∧ S'.st = st' ∧ S'.B = S.B ∧ S'.A = S.A ∧ Step S S' ∧ EndOk S' r e

section
variable {P : Program} {S : Sim} {fr : Fr} {a : Act} {o : Oper} {C : CallF}

def Goes (P : Program) (o : Oper) (a : Act) (S : Sim) (st' : St) : ORes → Prop
  | .ret x => ∀ (K : Act → World → Prop) (Q : Exit → Act → World → Prop), (∀ S' y, S'.st = st' → S'.B = S.B → S'.A = S.A → Step S S' → Rep S' x y → K (a.put o.dst y) S'.w) → o.wp P a S.w K Q
  | .pan x => ∀ (K : Act → World → Prop) (Q : Exit → Act → World → Prop), (∀ S' y, S'.st = st' → S'.B = S.B → S'.A = S.A → Step S S' → Rep S' x y → Q (.panic [{ v := y, recovered := false }]) a S'.w) → o.wp P a S.w K Q
  | .dfr f caps => st' = S.st ∧ ∃ ys, RepL S caps ys ∧ ∀ (K : Act → World → Prop) (Q : Exit → Act → World → Prop), K ({ a with defers := { target := .fn (.func f) ys.toArray, args := #[] } :: a.defers }.put o.dst undef) S.w → o.wp P a S.w K Q

theorem OpRet.goes {x : AV} {st : St} (h : OpRet P o a S x st) : Goes P o a S st (.ret x) := by
  intro K Q hK
  obtain ⟨S', h1, h2, h3, h4, h5⟩ := h
  rcases h5 with ⟨y, h6, h7⟩ | ⟨h6, rfl⟩
  · unfold Oper.wp
    rw [h6]
    exact hK S' y h1 h2 h3 h4 h7
  · unfold Oper.wp
    rw [h6]
    exact hK S' undef h1 h2 h3 h4 (.tup .nil)

theorem call_run {f : Operand} {args : Array Operand} {ts : Array TypeId} {g : FuncId} {caps : Array Value} (ho : o.op = .call { callee := .value f, args := args, argTypes := ts }) (hf : a.eval f = .func (.func g) #[] caps) (hc : Callable P g) (w : World) :
    (execOp a.eval o).run P w = .ok (.enter g (args.map a.eval ++ caps)) w := by
  have := hc (args.map a.eval ++ caps) w
  simp [execOp, ho, resolve, hf, Deferred.ofValue, invoke, this]

theorem op_call (hC : CallOk P C) (I : Inv S) (hf : FrOk S fr a) {f : Operand} {args : Array Operand} {ts : Array TypeId} {sf : SX} {l : List SX} {g : FuncId} {caps as : List AV} {r : Res} {st : St} (ho : o.op = .call { callee := .value f, args := args, argTypes := ts })
    (hsf : stripX f = some sf) (hl : stripXs args.toList = some l) (ef : evX fr sf = some (.fn g caps)) (el : evXs fr l = some as) (hc : C g (as ++ caps) S.st = some (r, st)) :
    (∀ x, r = .ret x → Goes P o a S st (.ret x)) ∧ (∀ x, r = .pan x → Goes P o a S st (.pan x)) := by
  have hfr := stripX_rep hf hsf ef
  have hargs := stripXs_rep hf hl el
  generalize hfv : a.eval f = fv at hfr
  cases hfr with
  | fn hcaps =>
    rename_i cs
    obtain ⟨hcall, hok⟩ := hC _ _ _ _ _ hc
    have hrun := call_run (a := a) ho hfv hcall S.w
    have hcalls := hok S (args.toList.map a.eval ++ cs) rfl I (hargs.append hcaps)
    have e : args.map a.eval ++ cs.toArray = (args.toList.map a.eval ++ cs).toArray := by apply Array.ext'; simp
    rw [e] at hrun
    constructor
    · rintro x rfl K Q hK
      unfold Oper.wp
      rw [hrun]
      refine Calls.mono hcalls fun en w' => ?_
      rintro ⟨S', rfl, h1, h2, h3, h4, h5⟩
      cases en with
      | returned y => exact hK S' y h1 h2 h3 h4 h5
      | panicked chain => simp [EndOk] at h5
      | outgrown => simp [EndOk] at h5
    · rintro x rfl K Q hK
      unfold Oper.wp
      rw [hrun]
      refine Calls.mono hcalls fun en w' => ?_
      rintro ⟨S', rfl, h1, h2, h3, h4, h5⟩
      cases en with
      | returned y => simp [EndOk] at h5
      | panicked chain =>
        cases chain with
        | nil => simp [EndOk] at h5
        | cons p q =>
          cases q with
          | nil => obtain ⟨y, rfl, hr⟩ := h5; exact hK S' y h1 h2 h3 h4 hr
          | cons => simp [EndOk] at h5
      | outgrown => simp [EndOk] at h5

theorem list2 {α : Type} {c : Array α} {x y : α} (h : c.toList = [x, y]) : c = #[x, y] := by apply Array.ext'; simpa using h
theorem list1 {α : Type} {c : Array α} {x : α} (h : c.toList = [x]) : c = #[x] := by apply Array.ext'; simpa using h

theorem opB_sound (I : Inv S) (hf : FrOk S fr a) {c : Call} {b : Builtin} {sop : SOp} {r : ORes} {st : St} (hop : o.op = .call c) (hcb : c.callee = .builtin b) (hs : stripB P b c.args.toList c.argTypes.toList = some sop) (he : evOp C fr S.st sop = some (r, st)) : Goes P o a S st r := by
  obtain ⟨ce, as, ts⟩ := c
  simp only at hcb hs
  subst hcb
  unfold stripB at hs
  split at hs
  · rename_i s x t u h1a h1t
    rw [list2 h1a, list2 h1t] at hop
    split at hs
    · rename_i e s1 s2 ht h1 h2
      split at hs
      · rename_i i z hi hz
        split at hs
        · rename_i hc
          obtain ⟨hzl, rfl⟩ := hc
          cases hs
          simp only [evOp] at he
          split at he
          · rename_i u v hu hv
            rw [Option.map_eq_some_iff] at he; obtain ⟨p, hp, he⟩ := he; cases he
            exact (op_append I hf hop ht hi hz hzl h1 h2 hu hv (r := p.1) (st := p.2) hp).goes
          · cases he
        · cases hs
      · cases hs
    · cases hs
  · rename_i x t h1a h1t
    rw [list1 h1a, list1 h1t] at hop
    split at hs
    · rename_i e sx ht hx
      cases hs
      simp only [evOp] at he
      split at he
      · rename_i cs n tg hu; cases he; exact (op_len I hf hop ht hx hu (.inl ⟨_, _, rfl⟩) rfl).goes
      · rename_i cs n tg hu; cases he; exact (op_len I hf hop ht hx hu (.inr (.inl ⟨_, _, _, rfl⟩)) rfl).goes
      · rename_i hu; cases he; exact (op_len I hf hop ht hx hu (n := 0) (.inr (.inr ⟨⟨_, rfl⟩, rfl⟩)) rfl).goes
      · cases he
    · cases hs
  · rename_i x y h1a
    rw [list2 h1a] at hop
    split at hs
    · rename_i s1 s2 h1 h2
      cases hs
      simp only [evOp] at he
      split at he
      · rename_i k m k' n hu hv
        split at he
        · rename_i hk; subst hk; cases he; exact (op_minmax I hf (mx := true) hop h1 h2 hu hv).goes
        · cases he
      · cases he
    · cases hs
  · rename_i x y h1a
    rw [list2 h1a] at hop
    split at hs
    · rename_i s1 s2 h1 h2
      cases hs
      simp only [evOp] at he
      split at he
      · rename_i k m k' n hu hv
        split at he
        · rename_i hk; subst hk; cases he; exact (op_minmax I hf (mx := false) hop h1 h2 hu hv).goes
        · cases he
      · cases he
    · cases hs
  · cases hs

theorem op_sound (hC : CallOk P C) (I : Inv S) (hf : FrOk S fr a) {sop : SOp} {r : ORes} {st : St} (hs : stripOp P o = some sop) (he : evOp C fr S.st sop = some (r, st)) : Goes P o a S st r := by
  unfold stripOp at hs
  split at hs
  · -- move
    rename_i x hop
    rw [Option.map_eq_some_iff] at hs; obtain ⟨sx, hx, rfl⟩ := hs
    simp only [evOp] at he
    split at he
    · rename_i av h1; cases he; exact (op_mv I hf (.inl hop) hx h1).goes
    · cases he
  · rename_i x hop
    rw [Option.map_eq_some_iff] at hs; obtain ⟨sx, hx, rfl⟩ := hs
    simp only [evOp] at he
    split at he
    · rename_i av h1; cases he; exact (op_mv I hf (.inr hop) hx h1).goes
    · cases he
  · -- pick
    rename_i c x y hop
    split at hs
    · rename_i sc s1 s2 hc h1 h2
      cases hs
      simp only [evOp] at he
      split at he
      · rename_i hb
        rw [Option.map_eq_some_iff] at he; obtain ⟨av, hv, he⟩ := he; cases he
        exact (op_pick I hf (b := true) hop hc h1 h2 hb hv).goes
      · rename_i hb
        rw [Option.map_eq_some_iff] at he; obtain ⟨av, hv, he⟩ := he; cases he
        exact (op_pick I hf (b := false) hop hc h1 h2 hb hv).goes
      · cases he
    · cases hs
  · -- alloc
    rename_i t hop
    rw [Option.map_eq_some_iff] at hs; obtain ⟨z, hz, rfl⟩ := hs
    simp only [evOp] at he; cases he
    exact (op_alloc I hop hz).goes
  · -- box
    rename_i t x hop
    rw [Option.map_eq_some_iff] at hs; obtain ⟨sx, hx, rfl⟩ := hs
    simp only [evOp] at he
    split at he
    · rename_i av h1
      split at he
      · rename_i ht; cases he; exact (op_box I hf hop hx h1 ht).goes
      · cases he
    · cases he
  · -- build
    rename_i t ps hop
    have hs' : stripOp P o = some sop := by unfold stripOp; rw [hop]; exact hs
    obtain ⟨z, sps, rfl, hb⟩ := op_build I hf hop hs'
    simp only [evOp] at he
    rw [Option.map_eq_some_iff] at he; obtain ⟨cs, hv, he⟩ := he; cases he
    exact (hb cs hv).goes
  · -- buildSlice
    rename_i t n ps hop
    have hs' : stripOp P o = some sop := by unfold stripOp; rw [hop]; exact hs
    obtain ⟨z, sps, rfl, hb⟩ := op_bslice I hf hop hs'
    simp only [evOp] at he
    split at he
    · cases he
    · rename_i cs hcs
      split at he
      · rename_i l st1 hl; cases he; exact ((hb cs hcs).1 l st hl).goes
      · cases he; exact (hb cs hcs).2.goes
  · -- load
    rename_i t x hop
    split at hs
    · rename_i k sx hk hx
      cases hs
      simp only [evOp] at he
      split at he
      · rename_i p hp
        rw [Option.map_eq_some_iff] at he; obtain ⟨av, hv, he⟩ := he; cases he
        exact (op_load I hf hop hk hx hp hv).goes
      · cases he
    · cases hs
  · -- store
    rename_i t x y hop
    split at hs
    · rename_i i s1 s2 hi h1 h2
      cases hs
      simp only [evOp] at he
      split at he
      · rename_i p av hp hv
        rw [Option.map_eq_some_iff] at he; obtain ⟨st1, hst, he⟩ := he; cases he
        exact (op_store I hf hop hi h1 h2 hp hv hst).goes
      · cases he
    · cases hs
  · -- nilCheck
    rename_i x hop
    rw [Option.map_eq_some_iff] at hs; obtain ⟨sx, hx, rfl⟩ := hs
    simp only [evOp] at he
    split at he
    · rename_i b off h1; cases he; exact (op_nilck I hf hop hx h1 (.inl ⟨_, _, rfl⟩)).goes
    · rename_i b off h1; cases he; exact (op_nilck I hf hop hx h1 (.inr (.inl ⟨_, _, rfl⟩))).goes
    · rename_i b off h1; cases he; exact (op_nilck I hf hop hx h1 (.inr (.inr ⟨_, _, rfl⟩))).goes
    · cases he
  · -- binOp
    rename_i op t x y ty hop
    split at hs
    · rename_i s1 s2 h1 h2
      cases hs
      simp only [evOp] at he
      split at he
      · rename_i u v hu hv
        rw [Option.map_eq_some_iff] at he; obtain ⟨z, hz, he⟩ := he; cases he
        exact (op_bin I hf hop h1 h2 hu hv hz).goes
      · cases he
    · cases hs
  · -- unOp
    rename_i op t x hop
    rw [Option.map_eq_some_iff] at hs; obtain ⟨sx, hx, rfl⟩ := hs
    simp only [evOp] at he
    split at he
    · rename_i u hu
      rw [Option.map_eq_some_iff] at he; obtain ⟨z, hz, he⟩ := he; cases he
      exact (op_un I hf hop hx hu hz).goes
    · cases he
  · -- convert
    rename_i s d x hop
    split at hs
    · rename_i ds k sx hsd hk hx
      cases hs
      simp only [evOp] at he
      split at he
      · rename_i k' n hu; cases he; exact (op_conv I hf hop hsd hk hx hu).goes
      · cases he
    · rename_i e sx hsd hd hx
      split at hs
      · rename_i hu8
        cases hs
        simp only [evOp] at he
        split at he
        · rename_i hu
          obtain ⟨r', hr', h⟩ := op_tostr I hf hop hsd hd hu8 hx hu he
          subst hr'
          exact h.goes
        · rename_i cs n t hu
          obtain ⟨r', hr', h⟩ := op_tostr I hf hop hsd hd hu8 hx hu he
          subst hr'
          exact h.goes
        · cases he
      · cases hs
    · cases hs
  · -- sliceToArrayPointer
    rename_i t x hop
    split at hs
    · rename_i n e sx ht hx
      cases hs
      simp only [evOp] at he
      split at he
      · rename_i cs m tg hu
        split at he
        · rename_i hle; cases he; exact (op_s2ap I hf hop ht hx hu hle).goes
        · cases he
      · cases he
    · cases hs
  · -- makeInterface
    rename_i t x hop
    split at hs
    · cases hs
    · rename_i d sx hni ht hx
      cases hs
      simp only [evOp] at he
      split at he
      · rename_i u hu; cases he; exact (op_mkifc I hf hop ht (fun ms h => by first | exact hni ms h | exact hni ms (h ▸ ht)) hx hu).goes
      · cases he
    · cases hs
  · -- makeFunc
    rename_i fn first caps hop
    split at hs
    · rename_i f
      split at hs
      · rename_i h0
        rw [Option.map_eq_some_iff] at hs; obtain ⟨l, hl, rfl⟩ := hs
        simp only [evOp] at he
        rw [Option.map_eq_some_iff] at he; obtain ⟨as, has, he⟩ := he; cases he
        exact (op_mkfn I hf hop h0 hl has).goes
      · cases hs
    · cases hs
  · -- makeSlice
    rename_i t l c hop
    split at hs
    · rename_i e ht
      split at hs
      · rename_i i z s1 s2 hi hz h1 h2
        split at hs
        · rename_i hc
          cases hs
          simp only [evOp] at he
          split at he
          · rename_i n m hn hm
            split at he
            · rename_i hcnd
              cases he
              rw [Option.bind_eq_some_iff] at hn hm
              obtain ⟨u, hu, hn⟩ := hn
              obtain ⟨v, hv, hm⟩ := hm
              exact (op_mkslice I hf hop ht hi hz hc.1 hc.2 h1 h2 hu hv hn hm hcnd).goes
            · cases he
          · cases he
        · cases hs
      · cases hs
    · cases hs
  · -- slice
    rename_i t x lo hi mx hop
    split at hs
    · cases hs
    · split at hs
      · rename_i e sx slo shi ht hx hlo hhi
        rw [Option.map_eq_some_iff] at hs; obtain ⟨i, hi', rfl⟩ := hs
        simp only [evOp] at he
        split at he
        · rename_i u hu
          rw [Option.map_eq_some_iff] at he; obtain ⟨y, hy, he⟩ := he; cases he
          exact (op_slice I hf hop ht hi' hx hlo hhi hu hy).goes
        · cases he
      · rename_i n e sx slo shi ht hx hlo hhi
        split at hs
        · rename_i hmax
          rw [Option.map_eq_some_iff] at hs; obtain ⟨i, hi', rfl⟩ := hs
          simp only [evOp] at he
          split at he
          · rename_i b off hu
            split at he
            · rename_i hb h hH hh
              split at he
              · rename_i l hl
                split at he
                · rename_i hfit
                  split at he
                  · rename_i cs hcs
                    cases he
                    exact (op_arrslice I hf hop ht hi' hx hlo hhi hu hH hh hl hmax hfit hcs).goes
                  · cases he
                · cases he
              · cases he
            · cases he
          · cases he
        · cases hs
      · cases hs
  · -- fieldAddr
    rename_i t x f hop
    split at hs
    · rename_i fs sx ht hx
      split at hs
      · rename_i fd hfd
        split at hs
        · rename_i i hi
          split at hs
          · cases hs
          · rename_i hz
            cases hs
            simp only [evOp] at he
            split at he
            · rename_i b q hu; cases he; exact (op_faddr I hf hop ht hfd hi hz hx hu (.inl ⟨_, _, rfl, rfl⟩)).goes
            · rename_i b q hu; cases he; exact (op_faddr I hf hop ht hfd hi hz hx hu (.inr ⟨_, _, rfl, rfl⟩)).goes
            · cases he
        · cases hs
      · cases hs
    · cases hs
  · -- field
    rename_i t x f hop
    split at hs
    · rename_i fs sx ht hx
      split at hs
      · rename_i fd hfd
        split at hs
        · rename_i k hk
          cases hs
          simp only [evOp] at he
          split at he
          · rename_i cs hu
            rw [Option.map_eq_some_iff] at he; obtain ⟨y, hy, he⟩ := he; cases he
            exact (op_field I hf hop ht hfd hk hx hu hy).goes
          · cases he
        · cases hs
      · cases hs
    · cases hs
  · -- indexAddr
    rename_i t x i hop
    split at hs
    · rename_i e s1 s2 ht h1 h2
      rw [Option.map_eq_some_iff] at hs; obtain ⟨j, hj, rfl⟩ := hs
      simp only [evOp] at he
      split at he
      · rename_i u n hu hn
        rw [Option.bind_eq_some_iff] at hn; obtain ⟨v, hv, hn⟩ := hn
        split at he
        · rename_i cs m tg _
          split at he
          · rename_i hc; cases he; exact (op_iaddr_sl I hf hop ht hj h1 h2 hu hv hn (.inl ⟨_, _, _, rfl, hc.1, hc.2, rfl⟩)).goes
          · cases he
        · split at he
          · rename_i hc; cases he; exact (op_iaddr_sl I hf hop ht hj h1 h2 hu hv hn (.inr ⟨_, _, _, _, rfl, hc.1, hc.2, rfl⟩)).goes
          · cases he
        · contradiction
        · contradiction
        · cases he
      · cases he
    · rename_i n e s1 s2 ht h1 h2
      rw [Option.map_eq_some_iff] at hs; obtain ⟨j, hj, rfl⟩ := hs
      simp only [evOp] at he
      split at he
      · rename_i u m hu hn
        rw [Option.bind_eq_some_iff] at hn; obtain ⟨v, hv, hn⟩ := hn
        split at he
        · contradiction
        · contradiction
        · rename_i b q p heq
          cases heq
          split at he
          · rename_i hc; cases he; exact (op_iaddr_arr I hf hop ht hj h1 h2 hu hv hn hc.1 hc.2 (.inr ⟨_, _, rfl, rfl⟩)).goes
          · cases he
        · rename_i b q p heq
          cases heq
          split at he
          · rename_i hc; cases he; exact (op_iaddr_arr I hf hop ht hj h1 h2 hu hv hn hc.1 hc.2 (.inl ⟨_, _, rfl, rfl⟩)).goes
          · cases he
        · cases he
      · cases he
    · cases hs
  · -- index
    rename_i t x i hop
    split at hs
    · rename_i n e s1 s2 ht h1 h2
      split at hs
      · rename_i j k hj hk
        cases hs
        simp only [evOp] at he
        split at he
        · rename_i cs m hu hn
          rw [Option.bind_eq_some_iff] at hn; obtain ⟨v, hv, hn⟩ := hn
          split at he
          · rename_i hc
            rw [Option.map_eq_some_iff] at he; obtain ⟨y, hy, he⟩ := he; cases he
            exact (op_index I hf hop ht hj hk h1 h2 hu hv hn hc.1 hc.2 hy).goes
          · cases he
        · cases he
      · cases hs
    · cases hs
  · -- extract
    rename_i x i hop
    rw [Option.map_eq_some_iff] at hs; obtain ⟨sx, hx, rfl⟩ := hs
    simp only [evOp] at he
    split at he
    · rename_i vs hu
      rw [Option.map_eq_some_iff] at he; obtain ⟨y, hy, he⟩ := he; cases he
      exact (op_extract I hf hop hx hu hy).goes
    · cases he
  · -- call
    rename_i c hop
    unfold stripCall at hs
    split at hs
    · rename_i f hce
      obtain ⟨ce, as, ts⟩ := c
      simp only at hce hs
      subst hce
      split at hs
      · rename_i sf l hsf hl
        cases hs
        simp only [evOp] at he
        split at he
        · rename_i g caps as' ef el
          split at he
          · rename_i x st1 hc; cases he; exact (op_call hC I hf hop hsf hl ef el hc).1 _ rfl
          · rename_i x st1 hc; cases he; exact (op_call hC I hf hop hsf hl ef el hc).2 _ rfl
          · cases he
        · cases he
      · cases hs
    · rename_i b hce
      exact opB_sound I hf hop hce hs he
    · cases hs
  · -- typeAssert
    rename_i x xt t ok hop
    split at hs
    · cases hs
    · rename_i d sx hni ht hx
      rw [Option.map_eq_some_iff] at hs; obtain ⟨z, hz, rfl⟩ := hs
      simp only [evOp] at he
      split at he
      · rename_i u y hu
        split at he
        · rename_i hut; cases he; exact (op_tassert I hf hop ht (fun ms h => by first | exact hni ms h | exact hni ms (h ▸ ht)) hz hx hu (.inl ⟨hut, rfl⟩)).goes
        · rename_i hut
          split at he
          · rename_i hok; cases he; exact (op_tassert I hf hop ht (fun ms h => by first | exact hni ms h | exact hni ms (h ▸ ht)) hz hx hu (.inr ⟨hut, hok, rfl⟩)).goes
          · cases he
      · cases he
    · cases hs
  · -- panic
    rename_i x hop
    rw [Option.map_eq_some_iff] at hs; obtain ⟨sx, hx, rfl⟩ := hs
    simp only [evOp] at he
    split at he
    · rename_i t y hu
      cases he
      have hr := stripX_rep hf hx hu
      generalize hxv : a.eval x = xv at hr
      cases hr with
      | ifc hy =>
        rename_i yv
        intro K Q hK
        have hrun : (execOp a.eval o).run P S.w = .halt (.panic (.iface t yv)) S.w := by simp [execOp, hop, hxv, Instr.panic]
        unfold Oper.wp
        rw [hrun]
        exact hK S _ rfl rfl rfl (Step.refl I) (.ifc hy)
    · cases he
  · -- defer
    rename_i c hop
    split at hs
    · rename_i f hce
      split at hs
      · rename_i hemp
        rw [Option.map_eq_some_iff] at hs; obtain ⟨sx, hx, rfl⟩ := hs
        obtain ⟨ce, as, ts⟩ := c
        simp only at hce hemp
        subst hce
        have has : as = #[] := by simpa using hemp
        subst has
        simp only [evOp] at he
        split at he
        · rename_i g caps hu
          cases he
          have hr := stripX_rep hf hx hu
          generalize hxv : a.eval f = xv at hr
          cases hr with
          | fn hcaps =>
            rename_i ys
            refine ⟨rfl, ys, hcaps, fun K Q hK => ?_⟩
            have hrun : (execOp a.eval o).run P S.w = .ok (.defer { target := .fn (.func g) ys.toArray, args := #[] }) S.w := by simp [execOp, hop, resolve, hxv, Deferred.ofValue]
            unfold Oper.wp
            rw [hrun]
            exact hK
        · cases he
      · cases hs
    · cases hs
  · cases hs

end

end VS
end Go.Proofs.Ytbnhmahkgeaajaa
