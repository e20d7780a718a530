/- One operation, then a list of them, then code, then a function: what the evaluator answers, the model's run comes to. -/
import Derived.Test.YtkhekmmldnjenaaEng1
import Derived.LoopN
import Derived.Recover
import Derived.ProofKit
import Derived.OpenShut
namespace Go.Proofs.Ytkhekmmldnjenaa
namespace VS

def EndOk (S : Sim) : Res → Ending → Prop
  | .ret x, .returned y => Rep S x y
  | .pan x, .panicked [e] => ∃ y, e = { v := y, recovered := false } ∧ Rep S x y
  | _, _ => False

def Callable (P : Program) (f : FuncId) : Prop := ∀ (args : Array Value) (w : World), (callFunc f args).run P w = .ok (.enter f args) w

/-- A call's answer, held against the model's call. -/
def CallOk (P : Program) (C : CallF) : Prop := ∀ (f : FuncId) (args : List AV) (st : St) (r : Res) (st' : St), C f args st = some (r, st') →
  Callable P f ∧ ∀ (S : Sim) (ys : List Value) (args0 : List AV), (args = args0 ∨ args = args0 ++ fmks) → S.st = st → Inv S → RepL S args0 ys →
    Calls P f ys.toArray S.w fun e w' => ∃ S', S'.w = w' ∧ S'.st = st' ∧ S'.B = S.B ∧ S'.A = S.A ∧ Step S S' ∧ EndOk S' r e

section
variable {P : Program} {S : Sim} {fr : Fr} {a : Act} {o : Oper} {C : CallF}

def Goes (P : Program) (o : Oper) (a : Act) (S : Sim) (st' : St) : ORes → Prop
  | .ret x => ∀ (K : Act → World → Prop) (Q : Exit → Act → World → Prop), (∀ S' y, S'.st = st' → S'.B = S.B → S'.A = S.A → Step S S' → Rep S' x y → K (a.put o.dst y) S'.w) → o.wp P a S.w K Q
  | .pan x => ∀ (K : Act → World → Prop) (Q : Exit → Act → World → Prop), (∀ S' y, S'.st = st' → S'.B = S.B → S'.A = S.A → Step S S' → Rep S' x y → Q (.panic [{ v := y, recovered := false }]) a S'.w) → o.wp P a S.w K Q
  | .dfr f caps => st' = S.st ∧ ∃ ys, RepL S caps ys ∧ ∀ (K : Act → World → Prop) (Q : Exit → Act → World → Prop), K ({ a with defers := { target := .fn (.func f) ys.toArray, args := #[] } :: a.defers }.put o.dst undef) S.w → o.wp P a S.w K Q

theorem OpRet.goes {x : AV} {st : St} (h : OpRet P o a S x st) : Goes P o a S st (.ret x) := by
  intro K Q hK
  obtain ⟨S', h1, h2, h3, h4, h5⟩ := h
  rcases h5 with ⟨y, h6, h7⟩ | ⟨h6, rfl⟩
  · unfold Oper.wp
    rw [h6]
    exact hK S' y h1 h2 h3 h4 h7
  · unfold Oper.wp
    rw [h6]
    exact hK S' undef h1 h2 h3 h4 (.tup .nil)

theorem call_run {f : Operand} {args : Array Operand} {ts : Array TypeId} {g : FuncId} {caps : Array Value} (ho : o.op = .call { callee := .value f, args := args, argTypes := ts }) (hf : a.eval f = .func (.func g) #[] caps) (hc : Callable P g) (w : World) :
    (execOp a.eval o).run P w = .ok (.enter g (args.map a.eval ++ caps)) w := by
  have := hc (args.map a.eval ++ caps) w
  simp [execOp, ho, resolve, hf, Deferred.ofValue, invoke, this]

theorem op_call (hC : CallOk P C) (I : Inv S) (hf : FrOk S fr a) {f : Operand} {args : Array Operand} {ts : Array TypeId} {sf : SX} {l : List SX} {g : FuncId} {caps as : List AV} {r : Res} {st : St} (ho : o.op = .call { callee := .value f, args := args, argTypes := ts })
    (hsf : stripX f = some sf) (hl : stripXs args.toList = some l) (ef : evX fr sf = some (.fn g caps)) (el : evXs fr l = some as) {full : List AV} (hfull : full = as ++ caps ∨ full = as ++ caps ++ fmks) (hc : C g full S.st = some (r, st)) :
    (∀ x, r = .ret x → Goes P o a S st (.ret x)) ∧ (∀ x, r = .pan x → Goes P o a S st (.pan x)) := by
  have hfr := stripX_rep hf hsf ef
  have hargs := stripXs_rep hf hl el
  generalize hfv : a.eval f = fv at hfr
  cases hfr with
  | fn hcaps =>
    rename_i cs
    obtain ⟨hcall, hok⟩ := hC _ _ _ _ _ hc
    have hrun := call_run (a := a) ho hfv hcall S.w
    have hcalls := hok S (args.toList.map a.eval ++ cs) _ hfull rfl I (hargs.append hcaps)
    have e : args.map a.eval ++ cs.toArray = (args.toList.map a.eval ++ cs).toArray := by apply Array.ext'; simp
    rw [e] at hrun
    constructor
    · rintro x rfl K Q hK
      unfold Oper.wp
      rw [hrun]
      refine Calls.mono hcalls fun en w' => ?_
      rintro ⟨S', rfl, h1, h2, h3, h4, h5⟩
      cases en with
      | returned y => exact hK S' y h1 h2 h3 h4 h5
      | panicked chain => simp [EndOk] at h5
      | outgrown => simp [EndOk] at h5
    · rintro x rfl K Q hK
      unfold Oper.wp
      rw [hrun]
      refine Calls.mono hcalls fun en w' => ?_
      rintro ⟨S', rfl, h1, h2, h3, h4, h5⟩
      cases en with
      | returned y => simp [EndOk] at h5
      | panicked chain =>
        cases chain with
        | nil => simp [EndOk] at h5
        | cons p q =>
          cases q with
          | nil => obtain ⟨y, rfl, hr⟩ := h5; exact hK S' y h1 h2 h3 h4 hr
          | cons => simp [EndOk] at h5
      | outgrown => simp [EndOk] at h5

theorem list2 {α : Type} {c : Array α} {x y : α} (h : c.toList = [x, y]) : c = #[x, y] := by apply Array.ext'; simpa using h
theorem list1 {α : Type} {c : Array α} {x : α} (h : c.toList = [x]) : c = #[x] := by apply Array.ext'; simpa using h

theorem opB_sound (I : Inv S) (hf : FrOk S fr a) {c : Call} {b : Builtin} {sop : SOp} {r : ORes} {st : St} (hop : o.op = .call c) (hcb : c.callee = .builtin b) (hs : stripB P b c.args.toList c.argTypes.toList = some sop) (he : evOp C fr S.st sop = some (r, st)) : Goes P o a S st r := by
  obtain ⟨ce, as, ts⟩ := c
  simp only at hcb hs
  subst hcb
  unfold stripB at hs
  split at hs
  · rename_i s x t u h1a h1t
    rw [list2 h1a, list2 h1t] at hop
    split at hs
    · rename_i e s1 s2 ht h1 h2
      split at hs
      · rename_i i z hi hz
        split at hs
        · rename_i hc
          obtain ⟨hzl, rfl⟩ := hc
          cases hs
          simp only [evOp] at he
          split at he
          · rename_i u v hu hv
            rw [Option.map_eq_some_iff] at he; obtain ⟨p, hp, he⟩ := he; cases he
            exact (op_append I hf hop ht hi hz hzl h1 h2 hu hv (r := p.1) (st := p.2) hp).goes
          · cases he
        · cases hs
      · cases hs
    · cases hs
  · rename_i x t h1a h1t
    rw [list1 h1a, list1 h1t] at hop
    split at hs
    · rename_i e sx ht hx
      cases hs
      simp only [evOp] at he
      split at he
      · rename_i cs n tg hu; cases he; exact (op_len I hf hop ht hx hu (.inl ⟨_, _, rfl⟩) rfl).goes
      · rename_i cs n tg hu; cases he; exact (op_len I hf hop ht hx hu (.inr (.inl ⟨_, _, _, rfl⟩)) rfl).goes
      · rename_i hu; cases he; exact (op_len I hf hop ht hx hu (n := 0) (.inr (.inr ⟨⟨_, rfl⟩, rfl⟩)) rfl).goes
      · cases he
    · cases hs
  · rename_i x y h1a
    rw [list2 h1a] at hop
    split at hs
    · rename_i s1 s2 h1 h2
      cases hs
      simp only [evOp] at he
      split at he
      · rename_i k m k' n hu hv
        split at he
        · rename_i hk; subst hk; cases he; exact (op_minmax I hf (mx := true) hop h1 h2 hu hv).goes
        · cases he
      · cases he
    · cases hs
  · rename_i x y h1a
    rw [list2 h1a] at hop
    split at hs
    · rename_i s1 s2 h1 h2
      cases hs
      simp only [evOp] at he
      split at he
      · rename_i k m k' n hu hv
        split at he
        · rename_i hk; subst hk; cases he; exact (op_minmax I hf (mx := false) hop h1 h2 hu hv).goes
        · cases he
      · cases he
    · cases hs
  · cases hs

theorem op_sound (hC : CallOk P C) (I : Inv S) (hf : FrOk S fr a) {sop : SOp} {r : ORes} {st : St} (hs : stripOp P o = some sop) (he : evOp C fr S.st sop = some (r, st)) : Goes P o a S st r := by
  unfold stripOp at hs
  split at hs
  · -- move
    rename_i x hop
    rw [Option.map_eq_some_iff] at hs; obtain ⟨sx, hx, rfl⟩ := hs
    simp only [evOp] at he
    split at he
    · rename_i av h1; cases he; exact (op_mv I hf (.inl hop) hx h1).goes
    · cases he
  · rename_i x hop
    rw [Option.map_eq_some_iff] at hs; obtain ⟨sx, hx, rfl⟩ := hs
    simp only [evOp] at he
    split at he
    · rename_i av h1; cases he; exact (op_mv I hf (.inr hop) hx h1).goes
    · cases he
  · -- pick
    rename_i c x y hop
    split at hs
    · rename_i sc s1 s2 hc h1 h2
      cases hs
      simp only [evOp] at he
      split at he
      · rename_i hb
        rw [Option.map_eq_some_iff] at he; obtain ⟨av, hv, he⟩ := he; cases he
        exact (op_pick I hf (b := true) hop hc h1 h2 hb hv).goes
      · rename_i hb
        rw [Option.map_eq_some_iff] at he; obtain ⟨av, hv, he⟩ := he; cases he
        exact (op_pick I hf (b := false) hop hc h1 h2 hb hv).goes
      · cases he
    · cases hs
  · -- alloc
    rename_i t hop
    rw [Option.map_eq_some_iff] at hs; obtain ⟨z, hz, rfl⟩ := hs
    simp only [evOp] at he; cases he
    exact (op_alloc I hop hz).goes
  · -- box
    rename_i t x hop
    rw [Option.map_eq_some_iff] at hs; obtain ⟨sx, hx, rfl⟩ := hs
    simp only [evOp] at he
    split at he
    · rename_i av h1
      split at he
      · rename_i ht; cases he; exact (op_box I hf hop hx h1 ht).goes
      · cases he
    · cases he
  · -- build
    rename_i t ps hop
    have hs' : stripOp P o = some sop := by unfold stripOp; rw [hop]; exact hs
    obtain ⟨z, sps, rfl, hb⟩ := op_build I hf hop hs'
    simp only [evOp] at he
    rw [Option.map_eq_some_iff] at he; obtain ⟨cs, hv, he⟩ := he; cases he
    exact (hb cs hv).goes
  · -- buildSlice
    rename_i t n ps hop
    have hs' : stripOp P o = some sop := by unfold stripOp; rw [hop]; exact hs
    obtain ⟨z, sps, rfl, hb⟩ := op_bslice I hf hop hs'
    simp only [evOp] at he
    split at he
    · cases he
    · rename_i cs hcs
      split at he
      · rename_i l st1 hl; cases he; exact ((hb cs hcs).1 l st hl).goes
      · cases he; exact (hb cs hcs).2.goes
  · -- load
    rename_i t x hop
    split at hs
    · rename_i k sx hk hx
      cases hs
      simp only [evOp] at he
      split at he
      · rename_i p hp
        rw [Option.map_eq_some_iff] at he; obtain ⟨av, hv, he⟩ := he; cases he
        exact (op_load I hf hop hk hx hp hv).goes
      · cases he
    · cases hs
  · -- store
    rename_i t x y hop
    split at hs
    · rename_i i s1 s2 hi h1 h2
      cases hs
      simp only [evOp] at he
      split at he
      · rename_i p av hp hv
        rw [Option.map_eq_some_iff] at he; obtain ⟨st1, hst, he⟩ := he; cases he
        exact (op_store I hf hop hi h1 h2 hp hv hst).goes
      · cases he
    · cases hs
  · -- nilCheck
    rename_i x hop
    rw [Option.map_eq_some_iff] at hs; obtain ⟨sx, hx, rfl⟩ := hs
    simp only [evOp] at he
    split at he
    · rename_i b off h1; cases he; exact (op_nilck I hf hop hx h1 (.inl ⟨_, _, rfl⟩)).goes
    · rename_i b off h1; cases he; exact (op_nilck I hf hop hx h1 (.inr (.inl ⟨_, _, rfl⟩))).goes
    · rename_i b off h1; cases he; exact (op_nilck I hf hop hx h1 (.inr (.inr ⟨_, _, rfl⟩))).goes
    · cases he
  · -- binOp
    rename_i op t x y ty hop
    split at hs
    · rename_i s1 s2 h1 h2
      cases hs
      simp only [evOp] at he
      split at he
      · rename_i u v hu hv
        rw [Option.map_eq_some_iff] at he; obtain ⟨z, hz, he⟩ := he; cases he
        exact (op_bin I hf hop h1 h2 hu hv hz).goes
      · cases he
    · cases hs
  · -- unOp
    rename_i op t x hop
    rw [Option.map_eq_some_iff] at hs; obtain ⟨sx, hx, rfl⟩ := hs
    simp only [evOp] at he
    split at he
    · rename_i u hu
      rw [Option.map_eq_some_iff] at he; obtain ⟨z, hz, he⟩ := he; cases he
      exact (op_un I hf hop hx hu hz).goes
    · cases he
  · -- convert
    rename_i s d x hop
    split at hs
    · rename_i ds k sx hsd hk hx
      cases hs
      simp only [evOp] at he
      split at he
      · rename_i k' n hu; cases he; exact (op_conv I hf hop hsd hk hx hu).goes
      · cases he
    · rename_i e sx hsd hd hx
      split at hs
      · rename_i hu8
        cases hs
        simp only [evOp] at he
        split at he
        · rename_i hu
          obtain ⟨r', hr', h⟩ := op_tostr I hf hop hsd hd hu8 hx hu he
          subst hr'
          exact h.goes
        · rename_i cs n t hu
          obtain ⟨r', hr', h⟩ := op_tostr I hf hop hsd hd hu8 hx hu he
          subst hr'
          exact h.goes
        · cases he
      · cases hs
    · cases hs
  · -- sliceToArrayPointer
    rename_i t x hop
    split at hs
    · rename_i n e sx ht hx
      cases hs
      simp only [evOp] at he
      split at he
      · rename_i cs m tg hu
        split at he
        · rename_i hle; cases he; exact (op_s2ap I hf hop ht hx hu hle).goes
        · cases he
      · cases he
    · cases hs
  · -- makeInterface
    rename_i t x hop
    split at hs
    · cases hs
    · rename_i d sx hni ht hx
      cases hs
      simp only [evOp] at he
      split at he
      · rename_i u hu; cases he; exact (op_mkifc I hf hop ht (fun ms h => by first | exact hni ms h | exact hni ms (h ▸ ht)) hx hu).goes
      · cases he
    · cases hs
  · -- makeFunc
    rename_i fn first caps hop
    split at hs
    · rename_i f
      split at hs
      · rename_i h0
        rw [Option.map_eq_some_iff] at hs; obtain ⟨l, hl, rfl⟩ := hs
        simp only [evOp] at he
        rw [Option.map_eq_some_iff] at he; obtain ⟨as, has, he⟩ := he; cases he
        exact (op_mkfn I hf hop h0 hl has).goes
      · cases hs
    · cases hs
  · -- makeSlice
    rename_i t l c hop
    split at hs
    · rename_i e ht
      split at hs
      · rename_i i z s1 s2 hi hz h1 h2
        split at hs
        · rename_i hc
          cases hs
          simp only [evOp] at he
          split at he
          · rename_i n m hn hm
            split at he
            · rename_i hcnd
              cases he
              rw [Option.bind_eq_some_iff] at hn hm
              obtain ⟨u, hu, hn⟩ := hn
              obtain ⟨v, hv, hm⟩ := hm
              exact (op_mkslice I hf hop ht hi hz hc.1 hc.2 h1 h2 hu hv hn hm hcnd).goes
            · cases he
          · cases he
        · cases hs
      · cases hs
    · cases hs
  · -- slice
    rename_i t x lo hi mx hop
    split at hs
    · cases hs
    · split at hs
      · rename_i e sx slo shi ht hx hlo hhi
        rw [Option.map_eq_some_iff] at hs; obtain ⟨i, hi', rfl⟩ := hs
        simp only [evOp] at he
        split at he
        · rename_i u hu
          rw [Option.map_eq_some_iff] at he; obtain ⟨y, hy, he⟩ := he; cases he
          exact (op_slice I hf hop ht hi' hx hlo hhi hu hy).goes
        · cases he
      · rename_i n e sx slo shi ht hx hlo hhi
        split at hs
        · rename_i hmax
          rw [Option.map_eq_some_iff] at hs; obtain ⟨i, hi', rfl⟩ := hs
          simp only [evOp] at he
          split at he
          · rename_i b off hu
            split at he
            · rename_i hb h hH hh
              split at he
              · rename_i l hl
                split at he
                · rename_i hfit
                  split at he
                  · rename_i cs hcs
                    cases he
                    exact (op_arrslice I hf hop ht hi' hx hlo hhi hu hH hh hl hmax hfit hcs).goes
                  · cases he
                · cases he
              · cases he
            · cases he
          · cases he
        · cases hs
      · cases hs
  · -- fieldAddr
    rename_i t x f hop
    split at hs
    · rename_i fs sx ht hx
      split at hs
      · rename_i fd hfd
        split at hs
        · rename_i i hi
          split at hs
          · cases hs
          · rename_i hz
            cases hs
            simp only [evOp] at he
            split at he
            · rename_i b q hu; cases he; exact (op_faddr I hf hop ht hfd hi hz hx hu (.inl ⟨_, _, rfl, rfl⟩)).goes
            · rename_i b q hu; cases he; exact (op_faddr I hf hop ht hfd hi hz hx hu (.inr ⟨_, _, rfl, rfl⟩)).goes
            · cases he
        · cases hs
      · cases hs
    · cases hs
  · -- field
    rename_i t x f hop
    split at hs
    · rename_i fs sx ht hx
      split at hs
      · rename_i fd hfd
        split at hs
        · rename_i k hk
          cases hs
          simp only [evOp] at he
          split at he
          · rename_i cs hu
            rw [Option.map_eq_some_iff] at he; obtain ⟨y, hy, he⟩ := he; cases he
            exact (op_field I hf hop ht hfd hk hx hu hy).goes
          · cases he
        · cases hs
      · cases hs
    · cases hs
  · -- indexAddr
    rename_i t x i hop
    split at hs
    · rename_i e s1 s2 ht h1 h2
      rw [Option.map_eq_some_iff] at hs; obtain ⟨j, hj, rfl⟩ := hs
      simp only [evOp] at he
      split at he
      · rename_i u n hu hn
        rw [Option.bind_eq_some_iff] at hn; obtain ⟨v, hv, hn⟩ := hn
        split at he
        · rename_i cs m tg _
          split at he
          · rename_i hc; cases he; exact (op_iaddr_sl I hf hop ht hj h1 h2 hu hv hn (.inl ⟨_, _, _, rfl, hc.1, hc.2, rfl⟩)).goes
          · cases he
        · split at he
          · rename_i hc; cases he; exact (op_iaddr_sl I hf hop ht hj h1 h2 hu hv hn (.inr ⟨_, _, _, _, rfl, hc.1, hc.2, rfl⟩)).goes
          · cases he
        · contradiction
        · contradiction
        · cases he
      · cases he
    · rename_i n e s1 s2 ht h1 h2
      rw [Option.map_eq_some_iff] at hs; obtain ⟨j, hj, rfl⟩ := hs
      simp only [evOp] at he
      split at he
      · rename_i u m hu hn
        rw [Option.bind_eq_some_iff] at hn; obtain ⟨v, hv, hn⟩ := hn
        split at he
        · contradiction
        · contradiction
        · rename_i b q p heq
          cases heq
          split at he
          · rename_i hc; cases he; exact (op_iaddr_arr I hf hop ht hj h1 h2 hu hv hn hc.1 hc.2 (.inr ⟨_, _, rfl, rfl⟩)).goes
          · cases he
        · rename_i b q p heq
          cases heq
          split at he
          · rename_i hc; cases he; exact (op_iaddr_arr I hf hop ht hj h1 h2 hu hv hn hc.1 hc.2 (.inl ⟨_, _, rfl, rfl⟩)).goes
          · cases he
        · cases he
      · cases he
    · cases hs
  · -- index
    rename_i t x i hop
    split at hs
    · rename_i n e s1 s2 ht h1 h2
      split at hs
      · rename_i j k hj hk
        cases hs
        simp only [evOp] at he
        split at he
        · rename_i cs m hu hn
          rw [Option.bind_eq_some_iff] at hn; obtain ⟨v, hv, hn⟩ := hn
          split at he
          · rename_i hc
            rw [Option.map_eq_some_iff] at he; obtain ⟨y, hy, he⟩ := he; cases he
            exact (op_index I hf hop ht hj hk h1 h2 hu hv hn hc.1 hc.2 hy).goes
          · cases he
        · cases he
      · cases hs
    · cases hs
  · -- extract
    rename_i x i hop
    rw [Option.map_eq_some_iff] at hs; obtain ⟨sx, hx, rfl⟩ := hs
    simp only [evOp] at he
    split at he
    · rename_i vs hu
      rw [Option.map_eq_some_iff] at he; obtain ⟨y, hy, he⟩ := he; cases he
      exact (op_extract I hf hop hx hu hy).goes
    · cases he
  · -- call
    rename_i c hop
    unfold stripCall at hs
    split at hs
    · rename_i f hce
      obtain ⟨ce, as, ts⟩ := c
      simp only at hce hs
      subst hce
      split at hs
      · rename_i sf l hsf hl
        cases hs
        simp only [evOp] at he
        split at he
        · rename_i g caps as' ef el
          split at he
          · rename_i x st1 hc; cases he; exact (op_call hC I hf hop hsf hl ef el (.inl rfl) hc).1 _ rfl
          · rename_i x st1 hc; cases he; exact (op_call hC I hf hop hsf hl ef el (.inl rfl) hc).2 _ rfl
          · cases he
        · cases he
      · cases hs
    · rename_i b hce
      exact opB_sound I hf hop hce hs he
    · cases hs
  · -- typeAssert
    rename_i x xt t ok hop
    split at hs
    · cases hs
    · rename_i d sx hni ht hx
      rw [Option.map_eq_some_iff] at hs; obtain ⟨z, hz, rfl⟩ := hs
      simp only [evOp] at he
      split at he
      · rename_i u y hu
        split at he
        · rename_i hut; cases he; exact (op_tassert I hf hop ht (fun ms h => by first | exact hni ms h | exact hni ms (h ▸ ht)) hz hx hu (.inl ⟨hut, rfl⟩)).goes
        · rename_i hut
          split at he
          · rename_i hok; cases he; exact (op_tassert I hf hop ht (fun ms h => by first | exact hni ms h | exact hni ms (h ▸ ht)) hz hx hu (.inr ⟨hut, hok, rfl⟩)).goes
          · cases he
      · cases he
    · cases hs
  · -- panic
    rename_i x hop
    rw [Option.map_eq_some_iff] at hs; obtain ⟨sx, hx, rfl⟩ := hs
    simp only [evOp] at he
    split at he
    · rename_i t y hu
      cases he
      have hr := stripX_rep hf hx hu
      generalize hxv : a.eval x = xv at hr
      cases hr with
      | ifc hy =>
        rename_i yv
        intro K Q hK
        have hrun : (execOp a.eval o).run P S.w = .halt (.panic (.iface t yv)) S.w := by simp [execOp, hop, hxv, Instr.panic]
        unfold Oper.wp
        rw [hrun]
        exact hK S _ rfl rfl rfl (Step.refl I) (.ifc hy)
    · cases he
  · -- defer
    rename_i c hop
    split at hs
    · rename_i f hce
      split at hs
      · rename_i hemp
        rw [Option.map_eq_some_iff] at hs; obtain ⟨sx, hx, rfl⟩ := hs
        obtain ⟨ce, as, ts⟩ := c
        simp only at hce hemp
        subst hce
        have has : as = #[] := by simpa using hemp
        subst has
        simp only [evOp] at he
        split at he
        · rename_i g caps hu
          cases he
          have hr := stripX_rep hf hx hu
          generalize hxv : a.eval f = xv at hr
          cases hr with
          | fn hcaps =>
            rename_i ys
            refine ⟨rfl, ys, hcaps, fun K Q hK => ?_⟩
            have hrun : (execOp a.eval o).run P S.w = .ok (.defer { target := .fn (.func g) ys.toArray, args := #[] }) S.w := by simp [execOp, hop, resolve, hxv, Deferred.ofValue]
            unfold Oper.wp
            rw [hrun]
            exact hK
        · cases he
      · cases hs
    · cases hs
  · cases hs

end

end VS
end Go.Proofs.Ytkhekmmldnjenaa
/- Lists of operations in the order of the text. -/
namespace Go.Proofs.Ytkhekmmldnjenaa
namespace VS

def ExOk (S : Sim) : Ex → Exit → Prop
  | .nx, .normal => True
  | .ex i, .exit j => i = j
  | .rt, .ret => True
  | .pn x, .panic [e] => ∃ y, e = { v := y, recovered := false } ∧ Rep S x y
  | _, _ => False

/-- Where code ends: the state, the frame, the exit. -/
def Post (S : Sim) (N : Nat) (out : Out) : Exit → Act → World → Prop := fun e a' w' =>
  ∃ S', S'.w = w' ∧ S'.st = out.2.2 ∧ S'.B = S.B ∧ S'.A = S.A ∧ Step S S' ∧ a'.tmps.size = N ∧ FrOk S' out.2.1 a' ∧ ExOk S' out.1 e

theorem Post.step {S S1 : Sim} {N : Nat} {out : Out} (hB : S1.B = S.B) (hA : S1.A = S.A) (h : Step S S1) {e : Exit} {a : Act} {w : World} (p : Post S1 N out e a w) : Post S N out e a w := by
  obtain ⟨S', h1, h2, h3, h4, h5, h6⟩ := p
  exact ⟨S', h1, h2, h3.trans hB, h4.trans hA, h.trans h5, h6⟩

theorem look_put {l : List (Nat × AV)} {d i : Nat} {x : AV} : look ((d, x) :: l) i = if d = i then some x else look l i := rfl

theorem FrOk.put {S : Sim} {fr : Fr} {a : Act} (h : FrOk S fr a) {x : AV} {y : Value} (hr : Rep S x y) {dst : Option Nat} (hd : dst.all (fun d => decide (d < a.tmps.size)) = true) : FrOk S (fr.put dst x) (a.put dst y) := by
  cases dst with
  | none => exact h
  | some d =>
    have hlt : d < a.tmps.size := by simpa using hd
    refine ⟨fun i z hz => ?_, h.d⟩
    simp only [Fr.put, look_put] at hz
    simp only [Act.put]
    split at hz
    · rename_i hdi; subst hdi; cases hz
      exact ⟨y, by simp [hlt], hr⟩
    · rename_i hdi
      obtain ⟨v, h1, h2⟩ := h.s i z hz
      exact ⟨v, by rw [Array.getElem?_setIfInBounds_ne hdi]; exact h1, h2⟩

theorem put_size (a : Act) (dst : Option Nat) (y : Value) : (a.put dst y).tmps.size = a.tmps.size := by cases dst <;> simp [Act.put]
theorem put_defers (a : Act) (dst : Option Nat) (y : Value) : (a.put dst y).defers = a.defers := by cases dst <;> simp [Act.put]

section
variable {P : Program} {S : Sim} {fr : Fr} {a : Act} {C : CallF} {N : Nat} {ops : Array Oper}

theorem wanted_ok (hf : FrOk S fr a) {o : Oper} {g : Option (Nat × Bool)} {b : Bool} (hg : stripG ops o.guard = some g) (hw : wants fr g = some b) : Region.wanted o (yielded ops a.tmps) = b := by
  unfold stripG at hg
  split at hg
  · rename_i hgd
    cases hg
    simp only [wants, Option.some.injEq] at hw
    subst hw
    simp [Region.wanted, hgd]
  · rename_i j want hgd
    split at hg
    · rename_i oj hj
      split at hg
      · rename_i d hd
        cases hg
        simp only [wants] at hw
        have hy : ∀ y, a.tmps[d]? = some y → yielded ops a.tmps j = (match y with | .bool b => some b | _ => none) := by
          intro y h
          simp only [yielded, hj, hd, Option.bind_some, h]
          cases y <;> rfl
        split at hw
        · rename_i c hc
          cases hw
          obtain ⟨y, h1, h2⟩ := hf.s d _ hc
          obtain ⟨rfl, _⟩ := h2.v_inv
          simp only [Region.wanted, hgd, hy _ h1]
          cases c <;> cases want <;> rfl
        · rename_i hc
          cases hw
          obtain ⟨y, h1, h2⟩ := hf.s d _ hc
          cases h2 with
          | tup hl =>
            cases hl
            simp only [Region.wanted, hgd, hy _ h1]
            cases want <;> rfl
        · cases hw
      · cases hg
    · cases hg

theorem stripOne_inv {o : Oper} {s : SO} (h : stripOne P N ops o = some s) : o.dst.all (fun d => decide (d < N)) = true ∧ stripOp P o = some s.op ∧ stripG ops o.guard = some s.g ∧ s.dst = o.dst := by
  unfold stripOne at h
  split at h
  · rename_i hd
    split at h
    · rename_i op g h1 h2; cases h; exact ⟨hd, h1, h2, rfl⟩
    · cases h
  · cases h

theorem strip_noF {f : SX} {l : List SX} {o : Oper} : stripOp P o ≠ some (.callF f l) := by
  intro h
  unfold stripOp at h
  split at h
  all_goals (try unfold stripCall at h)
  all_goals (try unfold stripB at h)
  all_goals
    (repeat' (first
      | (cases h; done)
      | (rw [Option.map_eq_some_iff] at h; obtain ⟨_, _, h⟩ := h; cases h; done)
      | (split at h)))

theorem strip_callI {f : SX} {l : List SX} {o : Oper} (h : stripOp P o = some (.call f l)) : ∃ f0 args ts, o.op = .call { callee := .value f0, args := args, argTypes := ts } ∧ stripX f0 = some f ∧ stripXs args.toList = some l := by
  unfold stripOp at h
  split at h
  all_goals
    first
    | (rename_i c hop
       unfold stripCall at h
       split at h
       · rename_i f hce
         obtain ⟨ce, as, ts⟩ := c
         simp only at hce h
         subst hce
         split at h
         · rename_i sf l hsf hl
           cases h
           exact ⟨_, _, _, hop, hsf, hl⟩
         · cases h
       · exfalso
         unfold stripB at h
         repeat' (first
          | (cases h; done)
          | (rw [Option.map_eq_some_iff] at h; obtain ⟨_, _, h⟩ := h; cases h; done)
          | (split at h))
       · cases h
       done)
    | (exfalso
       repeat' (first
        | (cases h; done)
        | (rw [Option.map_eq_some_iff] at h; obtain ⟨_, _, h⟩ := h; cases h; done)
        | (split at h))
       done)

theorem unOp_ne {o : SOp} (h : ∀ f l, o ≠ .callF f l) : unOp o = o := by
  cases o <;> first | rfl | exact absurd rfl (h _ _)

/-- An operation that may be marked as a call for a new block. -/
theorem op_soundF (hC : CallOk P C) {S : Sim} {fr : Fr} {a : Act} {o : Oper} (I : Inv S) (hf : FrOk S fr a) {sop sop' : SOp} {r : ORes} {st : St} (hs : stripOp P o = some sop) (hu : unOp sop' = unOp sop) (he : evOp C fr S.st sop' = some (r, st)) : Goes P o a S st r := by
  have h1 : unOp sop = sop := unOp_ne fun f l h => strip_noF (h ▸ hs)
  by_cases hc : ∃ f l, sop' = .callF f l
  · obtain ⟨f, l, rfl⟩ := hc
    have h2 : sop = .call f l := by rw [← h1, ← hu]; rfl
    subst h2
    obtain ⟨f0, args, ts, hop, hsf, hl⟩ := strip_callI hs
    simp only [evOp] at he
    split at he
    · rename_i g caps as' ef el
      split at he
      · rename_i x st1 hc; cases he; exact (op_call hC I hf hop hsf hl ef el (.inr rfl) hc).1 _ rfl
      · rename_i x st1 hc; cases he; exact (op_call hC I hf hop hsf hl ef el (.inr rfl) hc).2 _ rfl
      · cases he
    · cases he
  · have h2 : unOp sop' = sop' := unOp_ne fun f l h => hc ⟨f, l, h⟩
    have : sop' = sop := by rw [← h2, hu, h1]
    subst this
    exact op_sound hC I hf hs he

theorem ops_sound (hC : CallOk P C) {out : Out} {S0 : Sim} : ∀ (l : List Oper) (so so' : List SO) (fr : Fr) (S : Sim) (a : Act), stripOps P N ops l = some so → so'.map unSO = so.map unSO → evOps C so' fr S.st = some out →
    S.B = S0.B → S.A = S0.A → Step S0 S → a.tmps.size = N → FrOk S fr a → wpList P ops (Post S0 N out) l a S.w
  | [], so, so', fr, S, a, hs, hm, he, hB, hA, hst, hN, hf => by
    simp only [stripOps, Option.some.injEq] at hs; subst hs
    have : so' = [] := by simpa using hm
    subst this
    simp only [evOps, Option.some.injEq] at he; subst he
    exact ⟨S, rfl, rfl, hB, hA, hst, hN, hf, trivial⟩
  | o :: r, so, so', fr, S, a, hs, hm, he, hB, hA, hst, hN, hf => by
    simp only [stripOps] at hs
    split at hs
    · rename_i s l h1 h2
      cases hs
      cases so' with
      | nil => simp at hm
      | cons s' l' =>
      simp only [List.map_cons, List.cons.injEq] at hm
      obtain ⟨hm1, hm2⟩ := hm
      obtain ⟨hdst', hg', hop'⟩ : s'.dst = s.dst ∧ s'.g = s.g ∧ unOp s'.op = unOp s.op := by
        unfold unSO at hm1
        simp only [SO.mk.injEq] at hm1
        exact hm1
      obtain ⟨hd, hop, hg, hdst⟩ := stripOne_inv h1
      have hd' : o.dst.all (fun d => decide (d < a.tmps.size)) = true := by rw [hN]; exact hd
      rw [← hg'] at hg
      simp only [evOps, hdst', hdst] at he
      unfold wpList
      split at he
      · cases he
      · rename_i hw
        rw [wanted_ok hf hg hw]
        simp only [Bool.false_eq_true, if_false]
        exact ops_sound hC r l l' _ S _ h2 hm2 he hB hA hst (by rw [put_size, hN]) (hf.put (.tup .nil) hd')
      · rename_i hw
        rw [wanted_ok hf hg hw]
        simp only [if_true]
        refine .inl ?_
        split at he
        · cases he
        · rename_i x st1 hev
          have hgo := op_soundF hC hst.inv hf hop hop' hev
          refine hgo _ _ fun S' y e1 e2 e3 e4 e5 => ?_
          exact ops_sound hC r l l' _ S' _ h2 hm2 (by rw [e1]; exact he) (e2.trans hB) (e3.trans hA) (hst.trans e4) (by rw [put_size, hN]) ((hf.ext e4.ext).put e5 hd')
        · rename_i x st1 hev
          cases he
          have hgo := op_soundF hC hst.inv hf hop hop' hev
          refine hgo _ _ fun S' y e1 e2 e3 e4 e5 => ?_
          exact ⟨S', rfl, e1, e2.trans hB, e3.trans hA, hst.trans e4, hN, hf.ext e4.ext, y, rfl, e5⟩
        · rename_i f caps st1 hev
          obtain ⟨e1, ys, hl, hgo⟩ := op_soundF hC hst.inv hf hop hop' hev
          refine hgo _ _ ?_
          subst e1
          refine ops_sound hC r l l' _ S _ h2 hm2 he hB hA hst (by rw [put_size, hN]) ?_
          have hp := hf.put (x := und) (y := undef) (dst := o.dst) (.tup .nil) hd'
          refine ⟨?_, ?_⟩
          · cases hdd : o.dst with
            | none => rw [hdd] at hp; exact hf.s
            | some d => rw [hdd] at hp; exact hp.s
          · cases hdd : o.dst with
            | none => exact .cons hl hf.d
            | some d => exact .cons hl hf.d
    · cases hs

end

end VS
end Go.Proofs.Ytkhekmmldnjenaa
/- A list of operations whose order is left open: whatever order the edges allow, it comes to what the order of the text comes to. -/
namespace Go.Proofs.Ytkhekmmldnjenaa
namespace VS

inductive Tr (C : CallF) : List SO → Fr → St → List (Fr × St × AV) → Fr → St → Prop where
  | nil {fr : Fr} {st : St} : Tr C [] fr st [] fr st
  | cons {o : SO} {r : List SO} {fr fr' : Fr} {st st1 st' : St} {a : AV} {t : List (Fr × St × AV)} : stepS C o fr st = some (a, st1) → Tr C r (fr.put o.dst a) st1 t fr' st' → Tr C (o :: r) fr st ((fr, st, a) :: t) fr' st'

theorem dfr_only {C : CallF} {fr : Fr} {st st1 : St} {op : SOp} {f : FuncId} {caps : List AV} (h : evOp C fr st op = some (.dfr f caps, st1)) : ∃ x, op = .defer x := by
  cases op <;> simp only [evOp] at h <;> (try (exact ⟨_, rfl⟩)) <;> exfalso <;>
    (repeat' (first | (cases h; done) | (rw [Option.map_eq_some_iff] at h; obtain ⟨_, _, h⟩ := h; cases h; done) | (split at h)))

theorem tr_of {C : CallF} : ∀ {so : List SO} {fr fr' : Fr} {st st' : St}, so.all (fun o => match o.op with | .defer _ => false | _ => true) = true → evOps C so fr st = some (.nx, fr', st') → ∃ t, Tr C so fr st t fr' st'
  | [], fr, fr', st, st', _, h => by
    simp only [evOps, Option.some.injEq, Prod.mk.injEq, true_and] at h
    obtain ⟨rfl, rfl⟩ := h
    exact ⟨[], .nil⟩
  | o :: r, fr, fr', st, st', hd, h => by
    simp only [List.all_cons, Bool.and_eq_true] at hd
    simp only [evOps] at h
    split at h
    · cases h
    · rename_i hw
      obtain ⟨t, ht⟩ := tr_of hd.2 h
      exact ⟨_, .cons (by simp only [stepS, hw]) ht⟩
    · rename_i hw
      split at h
      · cases h
      · rename_i a st1 hev
        obtain ⟨t, ht⟩ := tr_of hd.2 h
        exact ⟨_, .cons (by simp only [stepS, hw, hev]) ht⟩
      · cases h
      · rename_i f caps st1 hev
        obtain ⟨x, hx⟩ := dfr_only hev
        rw [hx] at hd
        simp at hd

def frAt (t : List (Fr × St × AV)) (e : Fr) (i : Nat) : Fr := match t[i]? with | some p => p.1 | none => e
def stAt (t : List (Fr × St × AV)) (e : St) (i : Nat) : St := match t[i]? with | some p => p.2.1 | none => e
def avAt (t : List (Fr × St × AV)) (i : Nat) : AV := match t[i]? with | some p => p.2.2 | none => und

theorem Tr.len {C : CallF} {so : List SO} {fr fr' : Fr} {st st' : St} {t : List (Fr × St × AV)} (h : Tr C so fr st t fr' st') : t.length = so.length := by
  induction h with
  | nil => rfl
  | cons _ _ ih => simp [ih]

theorem Tr.zero {C : CallF} {so : List SO} {fr fr' : Fr} {st st' : St} {t : List (Fr × St × AV)} (h : Tr C so fr st t fr' st') : frAt t fr' 0 = fr ∧ stAt t st' 0 = st := by
  cases h <;> simp [frAt, stAt]

theorem Tr.step {C : CallF} {so : List SO} {fr fr' : Fr} {st st' : St} {t : List (Fr × St × AV)} (h : Tr C so fr st t fr' st') : ∀ (i : Nat) (o : SO), so[i]? = some o →
    stepS C o (frAt t fr' i) (stAt t st' i) = some (avAt t i, stAt t st' (i + 1)) ∧ frAt t fr' (i + 1) = (frAt t fr' i).put o.dst (avAt t i) := by
  induction h with
  | nil => intro i o h; simp at h
  | cons h1 h2 ih =>
    rename_i o r fr fr' st st1 st' a t
    intro i o' ho
    cases i with
    | zero =>
      simp at ho; subst ho
      obtain ⟨e1, e2⟩ := h2.zero
      have e3 : frAt ((fr, st, a) :: t) fr' 1 = frAt t fr' 0 := by simp [frAt]
      have e4 : stAt ((fr, st, a) :: t) st' 1 = stAt t st' 0 := by simp [stAt]
      have e5 : frAt ((fr, st, a) :: t) fr' 0 = fr := by simp [frAt]
      have e6 : stAt ((fr, st, a) :: t) st' 0 = st := by simp [stAt]
      have e7 : avAt ((fr, st, a) :: t) 0 = a := by simp [avAt]
      rw [e3, e4, e5, e6, e7, e1, e2]
      exact ⟨h1, rfl⟩
    | succ i =>
      have := ih i o' (by simpa using ho)
      simpa [frAt, stAt, avAt] using this

theorem Tr.touched {C : CallF} {so : List SO} {fr fr' : Fr} {st st' : St} {t : List (Fr × St × AV)} (h : Tr C so fr st t fr' st') : ∀ (i : Nat) (o : SO), so[i]? = some o → ∀ p ∈ touch o (frAt t fr' i), p ∈ VS.touched C so fr st := by
  induction h with
  | nil => intro i o ho; simp at ho
  | @cons o1 r fr fr' st st1 st' a t h1 h2 ih =>
    intro i o ho p hp
    simp only [VS.touched, h1]
    cases i with
    | zero =>
      simp at ho
      subst ho
      have e5 : frAt ((fr, st, a) :: t) fr' 0 = fr := by simp [frAt]
      rw [e5] at hp
      exact List.mem_append_left _ hp
    | succ i =>
      have e : frAt ((fr, st, a) :: t) fr' (i + 1) = frAt t fr' i := by simp [frAt]
      rw [e] at hp
      exact List.mem_append_right _ (ih i o (by simpa using ho) p hp)

theorem Tr.last {C : CallF} {so : List SO} {fr fr' : Fr} {st st' : St} {t : List (Fr × St × AV)} (h : Tr C so fr st t fr' st') : frAt t fr' so.length = fr' ∧ stAt t st' so.length = st' := by
  rw [← h.len]; simp [frAt, stAt]

/-- What a slot holds when the operations of a set have been carried out. -/
def expS (dst : Nat → Option Nat) (av : Nat → AV) (l0 : List (Nat × AV)) (D : Nat → Bool) (s : Nat) : Nat → Option AV
  | 0 => look l0 s
  | m + 1 => if D m && dst m == some s then some (av m) else expS dst av l0 D s m

theorem expS_congr {dst : Nat → Option Nat} {av : Nat → AV} {l0 : List (Nat × AV)} {D D' : Nat → Bool} {s : Nat} : ∀ m, (∀ k, k < m → dst k = some s → D k = D' k) → expS dst av l0 D s m = expS dst av l0 D' s m
  | 0, _ => rfl
  | m + 1, h => by
    simp only [expS]
    rw [expS_congr m (fun k hk => h k (by omega))]
    by_cases hd : dst m = some s
    · rw [h m (by omega) hd]
    · have : (dst m == some s) = false := by simpa using hd
      simp [this]

theorem expS_lt {dst : Nat → Option Nat} {av : Nat → AV} {l0 : List (Nat × AV)} {s i : Nat} : ∀ m, i ≤ m → expS dst av l0 (fun k => decide (k < i)) s m = expS dst av l0 (fun _ => true) s i
  | 0, h => by have : i = 0 := by omega
               subst this; rfl
  | m + 1, h => by
    by_cases he : i = m + 1
    · subst he
      exact expS_congr _ (fun k hk _ => by simpa using hk)
    · simp only [expS]
      have : ¬ m < i := by omega
      simp only [this, decide_false, Bool.false_and, Bool.false_eq_true, if_false]
      exact expS_lt m (by omega)

/-- Which of the states of the text's order stands. -/
def posE (cls : Nat → Nat) (D : Nat → Bool) : Nat → Nat
  | 0 => 0
  | m + 1 => if D m && decide (2 ≤ cls m) then m + 1 else posE cls D m

theorem posE_inv {cls : Nat → Nat} {D : Nat → Bool} : ∀ m, posE cls D m ≤ m ∧ (∀ k, k < m → D k = true → 2 ≤ cls k → k < posE cls D m) ∧ (0 < posE cls D m → D (posE cls D m - 1) = true ∧ 2 ≤ cls (posE cls D m - 1))
  | 0 => ⟨Nat.le_refl _, fun k h => by omega, fun h => by simp [posE] at h⟩
  | m + 1 => by
    obtain ⟨h1, h2, h3⟩ := posE_inv (cls := cls) (D := D) m
    simp only [posE]
    split
    · rename_i hc
      simp only [Bool.and_eq_true, decide_eq_true_eq] at hc
      exact ⟨Nat.le_refl _, fun k hk _ _ => hk, fun _ => by simpa using hc⟩
    · rename_i hc
      refine ⟨by omega, fun k hk hD hcl => ?_, h3⟩
      by_cases he : k = m
      · subst he; simp [hD, hcl] at hc
      · exact h2 k (by omega) hD hcl

def stLe (s t : St) : Prop := ∀ (b : Nat) (hb : HB), s.H[b]? = some hb → ∃ hb', t.H[b]? = some hb' ∧ hb'.cells = hb.cells

theorem stLe.refl (s : St) : stLe s s := fun _ hb h => ⟨hb, h, rfl⟩
theorem stLe.trans {a b c : St} (h : stLe a b) (k : stLe b c) : stLe a c := fun i hb hi => by
  obtain ⟨h1, h2, h3⟩ := h i hb hi
  obtain ⟨k1, k2, k3⟩ := k i h1 h2
  exact ⟨k1, k2, k3.trans h3⟩

theorem stLe_append (s : St) (H2 : List HB) (F : List (Nat × Nat)) : stLe s { H := s.H ++ H2, F := F } := fun b hb h => ⟨hb, by show (s.H ++ H2)[b]? = _; rw [List.getElem?_append_left (List.getElem?_eq_some_iff.1 h).1]; exact h, rfl⟩
theorem stLe_F (s : St) (F : List (Nat × Nat)) : stLe s { H := s.H, F := F } := fun _ hb h => ⟨hb, h, rfl⟩

theorem stLe_freeze {s : St} {b : Nat} {hb : HB} (h : s.H[b]? = some hb) : stLe s (s.freeze b hb) := fun i x hi => by
  by_cases he : i = b
  · subst he
    rw [h] at hi; cases hi
    exact ⟨{ hb with fz := true }, by show (s.H.set i _)[i]? = _; rw [List.getElem?_set_self (List.getElem?_eq_some_iff.1 h).1], rfl⟩
  · exact ⟨x, by show (s.H.set b _)[i]? = _; rw [getElem?_set_ne' he]; exact hi, rfl⟩

theorem exp0_le {st st1 : St} {a b : AV} (h : exp0 st a = some (b, st1)) : stLe st st1 := by
  unfold exp0 at h
  split at h
  · split at h
    · rename_i hb hH
      split at h
      · split at h
        · cases h; exact stLe_freeze hH
        · cases h
      · cases h
    · cases h
  · split at h
    · cases h; exact stLe.refl _
    · cases h

theorem expL_le : ∀ {l m : List AV} {st st1 : St}, expL st l = some (m, st1) → stLe st st1
  | [], m, st, st1, h => by simp only [expL, Option.some.injEq, Prod.mk.injEq] at h; rw [← h.2]; exact stLe.refl _
  | a :: r, m, st, st1, h => by
    simp only [expL] at h
    split at h
    · rename_i x s1 h1
      split at h
      · rename_i l s2 h2
        cases h
        exact (exp0_le h1).trans (expL_le h2)
      · cases h
    · cases h

theorem exp1_le {st st1 : St} {a b : AV} (h : exp1 st a = some (b, st1)) : stLe st st1 := by
  unfold exp1 at h
  split at h
  · split at h
    · rename_i l s1 h1; cases h; exact expL_le h1
    · cases h
  · exact exp0_le h

theorem expA_le : ∀ {l m : List AV} {st st1 : St}, expA st l = some (m, st1) → stLe st st1
  | [], m, st, st1, h => by simp only [expA, Option.some.injEq, Prod.mk.injEq] at h; rw [← h.2]; exact stLe.refl _
  | a :: r, m, st, st1, h => by
    simp only [expA] at h
    split at h
    · rename_i x s1 h1
      split at h
      · rename_i l s2 h2
        cases h
        exact (exp1_le h1).trans (expA_le h2)
      · cases h
    · cases h

def cellsAt (st : St) (b : Nat) : Option (List AV) := (st.H[b]?).map HB.cells

/-- The blocks of a list hold the same in both states. -/
def Alike (st st2 : St) (l : List Nat) : Prop := ∀ b ∈ l, cellsAt st b ≠ none → cellsAt st2 b = cellsAt st b

theorem cellsAt_freeze {s : St} {b : Nat} {hb : HB} (h : s.H[b]? = some hb) (c : Nat) : cellsAt (s.freeze b hb) c = cellsAt s c := by
  unfold cellsAt
  show ((s.H.set b { hb with fz := true })[c]?).map HB.cells = _
  by_cases hc : c = b
  · subst hc
    rw [List.getElem?_set_self (List.getElem?_eq_some_iff.1 h).1, h]; rfl
  · rw [getElem?_set_ne' hc]

theorem exp0_alike {st st1 st2 : St} {a x : AV} (h : exp0 st a = some (x, st1)) (hs : Alike st st2 (hsOf0 a)) : ∃ s2, exp0 st2 a = some (x, s2) ∧ (∀ b, cellsAt st1 b = cellsAt st b) ∧ ∀ b, cellsAt s2 b = cellsAt st2 b := by
  unfold exp0 at h
  split at h
  · rename_i b q n sz
    split at h
    · rename_i hb hH
      split at h
      · rename_i hle
        split at h
        · rename_i cs hcl
          cases h
          have h1 : cellsAt st b = some hb.cells := by simp [cellsAt, hH]
          have h2 := hs b (by simp [hsOf0]) (by rw [h1]; simp)
          rw [h1] at h2
          simp only [cellsAt, Option.map_eq_some_iff] at h2
          obtain ⟨hb2, hH2, hc2⟩ := h2
          refine ⟨st2.freeze b hb2, ?_, cellsAt_freeze hH, cellsAt_freeze hH2⟩
          simp only [exp0, hH2, hc2, hle, if_true, hcl]
        · cases h
      · cases h
    · cases h
  · rename_i hne
    split at h
    · rename_i y hy
      cases h
      refine ⟨st2, ?_, fun _ => rfl, fun _ => rfl⟩
      cases a <;> first | (exact absurd rfl (hne _ _ _ _)) | simp only [exp0, hy]
    · cases h

theorem Alike.next {st st1 st2 s2 : St} {l : List Nat} (h : Alike st st2 l) (h1 : ∀ b, cellsAt st1 b = cellsAt st b) (h2 : ∀ b, cellsAt s2 b = cellsAt st2 b) : Alike st1 s2 l := fun b hb hn => by
  rw [h1] at hn ⊢
  rw [h2]
  exact h b hb hn

theorem expL_alike : ∀ {l m : List AV} {st st1 st2 : St}, expL st l = some (m, st1) → Alike st st2 (l.flatMap hsOf0) → ∃ s2, expL st2 l = some (m, s2) ∧ (∀ b, cellsAt st1 b = cellsAt st b) ∧ ∀ b, cellsAt s2 b = cellsAt st2 b
  | [], m, st, st1, st2, h, _ => by
    simp only [expL, Option.some.injEq, Prod.mk.injEq] at h
    obtain ⟨rfl, rfl⟩ := h
    exact ⟨st2, rfl, fun _ => rfl, fun _ => rfl⟩
  | a :: r, m, st, st1, st2, h, hs => by
    simp only [expL] at h
    split at h
    · rename_i x s1 h1
      split at h
      · rename_i l s2 h2
        cases h
        obtain ⟨t1, k1, k2, k3⟩ := exp0_alike h1 (fun b hb => hs b (by rw [List.flatMap_cons]; exact List.mem_append_left _ hb))
        obtain ⟨t2, k4, k5, k6⟩ := expL_alike h2 (Alike.next (fun b hb => hs b (by rw [List.flatMap_cons]; exact List.mem_append_right _ hb)) k2 k3)
        exact ⟨t2, by simp only [expL, k1, k4], fun b => (k5 b).trans (k2 b), fun b => (k6 b).trans (k3 b)⟩
      · cases h
    · cases h

theorem exp1_alike {st st1 st2 : St} {a x : AV} (h : exp1 st a = some (x, st1)) (hs : Alike st st2 (hsOf a)) : ∃ s2, exp1 st2 a = some (x, s2) ∧ (∀ b, cellsAt st1 b = cellsAt st b) ∧ ∀ b, cellsAt s2 b = cellsAt st2 b := by
  unfold exp1 at h
  split at h
  · split at h
    · rename_i l s1 h1
      cases h
      obtain ⟨s2, k1, k2, k3⟩ := expL_alike h1 hs
      exact ⟨s2, by simp only [exp1, k1], k2, k3⟩
    · cases h
  · rename_i hne
    have hh : hsOf a = hsOf0 a := by cases a <;> first | rfl | exact absurd rfl (hne _)
    obtain ⟨s2, k1, k2, k3⟩ := exp0_alike h (hh ▸ hs)
    refine ⟨s2, ?_, k2, k3⟩
    cases a <;> first | exact absurd rfl (hne _) | simpa only [exp1] using k1

theorem expA_alike : ∀ {l m : List AV} {st st1 st2 : St}, expA st l = some (m, st1) → Alike st st2 (l.flatMap hsOf) → ∃ s2, expA st2 l = some (m, s2) ∧ (∀ b, cellsAt st1 b = cellsAt st b) ∧ ∀ b, cellsAt s2 b = cellsAt st2 b
  | [], m, st, st1, st2, h, _ => by
    simp only [expA, Option.some.injEq, Prod.mk.injEq] at h
    obtain ⟨rfl, rfl⟩ := h
    exact ⟨st2, rfl, fun _ => rfl, fun _ => rfl⟩
  | a :: r, m, st, st1, st2, h, hs => by
    simp only [expA] at h
    split at h
    · rename_i x s1 h1
      split at h
      · rename_i l s2 h2
        cases h
        obtain ⟨t1, k1, k2, k3⟩ := exp1_alike h1 (fun b hb => hs b (by rw [List.flatMap_cons]; exact List.mem_append_left _ hb))
        obtain ⟨t2, k4, k5, k6⟩ := expA_alike h2 (Alike.next (fun b hb => hs b (by rw [List.flatMap_cons]; exact List.mem_append_right _ hb)) k2 k3)
        exact ⟨t2, by simp only [expA, k1, k4], fun b => (k5 b).trans (k2 b), fun b => (k6 b).trans (k3 b)⟩
      · cases h
    · cases h

/-- A callee that is given a memory of its own leaves the caller's variables; a pure one leaves the state, and asks for nothing but what its arguments hold. -/
structure Mild (kd : FuncId → Kind) (C : CallF) : Prop where
  le : ∀ (f : FuncId) (args : List AV) (st : St) (r : Res) (st1 : St), kd f ≠ .whole → C f args st = some (r, st1) → stLe st st1
  pure : ∀ (f : FuncId) (args : List AV) (st : St) (r : Res) (st1 : St), kd f = .pure → C f args st = some (r, st1) → st1 = st ∧ ∀ st2, Alike st st2 (args.flatMap hsOf) → C f args st2 = some (r, st2)

theorem append_le {st st1 : St} {sz bytes : Nat} {s x r : AV} (h : opAppend st sz bytes s x = some (r, st1)) : stLe st st1 := by
  unfold opAppend at h
  split at h
  · cases h
  · split at h
    · split at h
      · split at h
        · cases h; exact stLe.refl _
        · split at h
          · cases h; exact stLe_F _ _
          · cases h
      · split at h
        · cases h; exact stLe.refl _
        · split at h
          · split at h
            · cases h; exact stLe_F _ _
            · split at h
              · cases h; exact stLe_F _ _
              · cases h
            · cases h
          · cases h
      · split at h
        · cases h; exact stLe.refl _
        · split at h
          · rename_i hb hH
            split at h
            · split at h
              · cases h; exact fun c y hc => stLe_freeze hH c y hc
              · cases h
            · cases h
          · cases h
      · cases h
    · cases h

theorem class1 {kd : FuncId → Kind} {C : CallF} (hM : Mild kd C) {fr : Fr} {st st1 : St} {op : SOp} {r : ORes} (hc : opClass kd op = 1) (h : evOp C fr st op = some (r, st1)) :
    st1 = st ∧ ((∃ k x, op = .load k x) ∨ ∃ f l as, op = .call (.c (.fn f [])) l ∧ evXs fr l = some as ∧ kd f = .pure ∧ ∀ st2, Alike st st2 (as.flatMap hsOf) → evOp C fr st2 op = some (r, st2)) := by
  cases op <;> simp only [opClass] at hc <;> (try (exact absurd hc (by decide)))
  · simp only [evOp] at h
    split at h
    · rw [Option.map_eq_some_iff] at h
      obtain ⟨_, _, h⟩ := h
      cases h; exact ⟨rfl, .inl ⟨_, _, rfl⟩⟩
    · cases h
  · rename_i f args
    unfold callClass at hc
    split at hc
    · rename_i g
      split at hc
      · exact absurd hc (by decide)
      · split at hc
        · rename_i hk
          simp only [evOp, evX] at h ⊢
          split at h
          · rename_i g' caps l h1 h2
            simp only [Option.some.injEq, AV.fn.injEq] at h1
            obtain ⟨rfl, rfl⟩ := h1
            rw [List.append_nil] at h
            split at h
            · rename_i a s1 hcall
              cases h
              obtain ⟨k1, k2⟩ := hM.pure _ _ _ _ _ hk hcall
              exact ⟨k1, .inr ⟨g, args, l, rfl, h2, hk, fun st2 hal => by simp only [h2, List.append_nil, k2 st2 hal]⟩⟩
            · rename_i a s1 hcall
              cases h
              obtain ⟨k1, k2⟩ := hM.pure _ _ _ _ _ hk hcall
              exact ⟨k1, .inr ⟨g, args, l, rfl, h2, hk, fun st2 hal => by simp only [h2, List.append_nil, k2 st2 hal]⟩⟩
            · cases h
          · cases h
        · exact absurd hc (by decide)
    · exact absurd hc (by decide)

theorem class2 {kd : FuncId → Kind} {C : CallF} (hM : Mild kd C) {fr : Fr} {st st1 : St} {op : SOp} {r : ORes} (hc : opClass kd op = 2) (h : evOp C fr st op = some (r, st1)) : stLe st st1 := by
  cases op <;> simp only [opClass] at hc <;> (try (exact absurd hc (by decide))) <;> simp only [evOp] at h
  · cases h; exact stLe_append _ _ _
  · split at h
    · split at h
      · cases h; exact stLe_append _ _ _
      · cases h
    · cases h
  · split at h
    · cases h
    · split at h
      · rename_i hx; cases h; exact expL_le hx
      · cases h; exact stLe.refl _
  · split at h
    · split at h
      · cases h; exact stLe_append _ _ _
      · cases h
    · cases h
  · rename_i f args
    unfold callClass at hc
    split at hc
    · rename_i g
      split at hc
      · exact absurd hc (by decide)
      · rename_i hk
        split at h
        · rename_i g' caps l h1 h2
          simp only [evX, Option.some.injEq, AV.fn.injEq] at h1
          obtain ⟨rfl, rfl⟩ := h1
          split at h
          · rename_i a s1 hcall; cases h; exact hM.le _ _ _ _ _ hk hcall
          · rename_i a s1 hcall; cases h; exact hM.le _ _ _ _ _ hk hcall
          · cases h
        · cases h
    · exact absurd hc (by decide)
  · split at h
    · rw [Option.map_eq_some_iff] at h
      obtain ⟨p, hp, h⟩ := h
      cases h
      exact append_le (r := p.1) (st1 := p.2) hp
    · cases h

theorem class0 {kd : FuncId → Kind} {C : CallF} {fr : Fr} {st st1 : St} {op : SOp} {r : ORes} (hc : opClass kd op = 0) (h : evOp C fr st op = some (r, st1)) : st1 = st ∧ ∀ st2, evOp C fr st2 op = some (r, st2) := by
  cases op <;> simp only [opClass] at hc <;> (try (exact absurd hc (by decide))) <;> (try (unfold callClass at hc; split at hc <;> (try (split at hc)) <;> (try (split at hc)) <;> exact absurd hc (by decide))) <;> simp only [evOp] at h ⊢
  all_goals
    repeat' (first
      | (cases h; done)
      | (cases h; exact ⟨rfl, fun _ => rfl⟩)
      | (cases h; exact ⟨rfl, fun _ => if_pos (by assumption)⟩)
      | (rw [Option.map_eq_some_iff] at h; obtain ⟨x, hx, h⟩ := h; cases h; exact ⟨rfl, fun _ => by rw [hx]; rfl⟩)
      | (rw [Option.map_eq_some_iff] at h; obtain ⟨x, hx, h⟩ := h; cases h; exact ⟨rfl, fun _ => by rw [if_pos (by assumption), hx]; rfl⟩)
      | (cases h; exact ⟨rfl, fun _ => by rw [if_neg (by assumption), if_pos (by assumption)]⟩)
      | (split at h))

end VS
end Go.Proofs.Ytkhekmmldnjenaa
/- The theorem on lists of operations whose order is left open. -/
namespace Go.Proofs.Ytkhekmmldnjenaa
namespace VS

def Agree (fr fr' : Fr) (l : List Nat) : Prop := ∀ s ∈ l, look fr.s s = look fr'.s s

theorem Agree.left {fr fr' : Fr} {a b : List Nat} (h : Agree fr fr' (a ++ b)) : Agree fr fr' a := fun s hs => h s (List.mem_append_left _ hs)
theorem Agree.right {fr fr' : Fr} {a b : List Nat} (h : Agree fr fr' (a ++ b)) : Agree fr fr' b := fun s hs => h s (List.mem_append_right _ hs)

theorem evX_congr {fr fr' : Fr} {x : SX} (h : Agree fr fr' (xSlots x)) : evX fr x = evX fr' x := by
  cases x with
  | t i => exact h i (by simp [xSlots])
  | c a => rfl

theorem evXs_congr {fr fr' : Fr} : ∀ {l : List SX}, Agree fr fr' (l.flatMap xSlots) → evXs fr l = evXs fr' l
  | [], _ => rfl
  | x :: r, h => by
    rw [List.flatMap_cons] at h
    simp only [evXs, evX_congr h.left, evXs_congr h.right]

theorem fillP_congr {fr fr' : Fr} : ∀ {l : List (Nat × Nat × SX)} {cs : List AV}, Agree fr fr' (l.flatMap fun p => xSlots p.2.2) → fillP fr cs l = fillP fr' cs l
  | [], _, _ => rfl
  | (off, size, x) :: r, cs, h => by
    rw [List.flatMap_cons] at h
    simp only [fillP]
    rw [evX_congr h.left]
    cases evX fr' x with
    | none => rfl
    | some a => simp only; split <;> first | exact fillP_congr h.right | rfl

theorem bnd_congr {fr fr' : Fr} {o : Option SX} {d n : Nat} (h : Agree fr fr' (oSlots o)) : bnd fr d o n = bnd fr' d o n := by
  cases o with
  | none => rfl
  | some x => simp only [bnd, evX_congr (show Agree fr fr' (xSlots x) from h)]

theorem evOp_congr {C : CallF} {fr fr' : Fr} {st : St} {op : SOp} (h : Agree fr fr' (opSlots op)) : evOp C fr st op = evOp C fr' st op := by
  cases op <;> simp only [opSlots] at h <;> simp only [evOp]
  case mv x => rw [evX_congr h]
  case pick c a b => rw [evX_congr h.left.left, evX_congr h.left.right, evX_congr h.right]
  case box x => rw [evX_congr h]
  case build z ps => rw [fillP_congr h]
  case bslice z n ps => rw [fillP_congr h]
  case load k a => rw [evX_congr h]
  case store k a x => rw [evX_congr h.left, evX_congr h.right]
  case nilck x => rw [evX_congr h]
  case bin op q x y => rw [evX_congr h.left, evX_congr h.right]
  case un op x => rw [evX_congr h]
  case conv k x => rw [evX_congr h]
  case tostr x => rw [evX_congr h]
  case s2ap n x => rw [evX_congr h]
  case mkifc t x => rw [evX_congr h]
  case mkfn f l => rw [evXs_congr h]
  case mkslice z b x y => rw [evX_congr h.left, evX_congr h.right]
  case slice sz x lo hi =>
    rw [evX_congr h.left.left]
    cases evX fr' x with
    | none => rfl
    | some a =>
      have e1 := fun d n => bnd_congr (d := d) (n := n) h.left.right
      have e2 := fun d n => bnd_congr (d := d) (n := n) h.right
      simp only [opSlice, e1, e2]
  case arrslice n sz x lo hi =>
    have e1 := fun d n => bnd_congr (d := d) (n := n) h.left.right
    have e2 := fun d n => bnd_congr (d := d) (n := n) h.right
    simp only [evX_congr h.left.left, e1, e2]
  case faddr off x => rw [evX_congr h]
  case field off k x => rw [evX_congr h]
  case iaddr sz arr x i => rw [evX_congr h.left, evX_congr h.right]
  case index n sz k x i => rw [evX_congr h.left, evX_congr h.right]
  case extract x i => rw [evX_congr h]
  case call f l => rw [evX_congr h.left, evXs_congr h.right]
  case append sz b x y => rw [evX_congr h.left, evX_congr h.right]
  case len x => rw [evX_congr h]
  case minmax m x y => rw [evX_congr h.left, evX_congr h.right]
  case tassert t ok z x => rw [evX_congr h]
  case panic x => rw [evX_congr h]
  case defer f => rw [evX_congr h]
  case callF f l => rw [evX_congr h.left, evXs_congr h.right]

theorem wants_congr {fr fr' : Fr} {g : Option (Nat × Bool)} (h : Agree fr fr' (match g with | some (s, _) => [s] | none => [])) : wants fr g = wants fr' g := by
  cases g with
  | none => rfl
  | some p =>
    obtain ⟨s, w⟩ := p
    simp only [wants, h s (by simp)]

theorem mem_ins {k i : Nat} : ∀ {l : List Nat}, k ∈ ins i l → k = i ∨ k ∈ l
  | [], h => by simpa [ins] using h
  | j :: r, h => by
    simp only [ins] at h
    split at h
    · simpa using h
    · split at h
      · exact .inr h
      · rcases List.mem_cons.1 h with h | h
        · exact .inr (by simp [h])
        · exact (mem_ins h).imp id (fun h => List.mem_cons_of_mem _ h)

theorem mem_uni {k : Nat} : ∀ {a l : List Nat}, k ∈ uni a l → k ∈ a ∨ k ∈ l
  | [], _, h => .inr h
  | i :: r, l, h => by
    simp only [uni] at h
    rcases mem_uni h with h | h
    · exact .inl (List.mem_cons_of_mem _ h)
    · exact (mem_ins h).imp (fun h => by simp [h]) id

theorem mem_ancOf {acc : List (List Nat)} {k : Nat} : ∀ {es : List Edge}, k ∈ ancOf acc es → ∃ e ∈ es, Region.binds .any e = true ∧ (k = e.on ∨ k ∈ acc.getD e.on [])
  | [], h => by simp [ancOf] at h
  | e :: r, h => by
    simp only [ancOf] at h
    split at h
    · rename_i hb
      rcases mem_ins h with h | h
      · exact ⟨e, List.mem_cons_self .., hb, .inl h⟩
      · rcases mem_uni h with h | h
        · exact ⟨e, List.mem_cons_self .., hb, .inr h⟩
        · obtain ⟨x, h1, h2⟩ := mem_ancOf h
          exact ⟨x, List.mem_cons_of_mem _ h1, h2⟩
    · obtain ⟨x, h1, h2⟩ := mem_ancOf h
      exact ⟨x, List.mem_cons_of_mem _ h1, h2⟩

/-- What the edges say of who comes before whom. -/
theorem ancs_get (l : List Oper) : ∀ (acc : List (List Nat)), (l.foldl (fun acc o => acc ++ [ancOf acc o.after.toList]) acc).length = acc.length + l.length ∧
    ∀ j, j < acc.length → (l.foldl (fun acc o => acc ++ [ancOf acc o.after.toList]) acc)[j]? = acc[j]? := by
  induction l with
  | nil => intro acc; exact ⟨by simp, fun _ _ => rfl⟩
  | cons o r ih =>
    intro acc
    obtain ⟨h1, h2⟩ := ih (acc ++ [ancOf acc o.after.toList])
    refine ⟨by rw [List.foldl_cons, h1]; simp; omega, fun j hj => ?_⟩
    rw [List.foldl_cons, h2 j (by simp; omega), List.getElem?_append_left hj]

theorem ancs_mem {l : List Oper} {j k : Nat} {o : Oper} (ho : l[j]? = some o) (hlt : ∀ (i : Nat) (p : Oper), l[i]? = some p → ∀ e ∈ p.after, Region.binds .any e = true → e.on < i) (hk : k ∈ (ancs l).getD j []) :
    ∃ e ∈ o.after, Region.binds .any e = true ∧ (k = e.on ∨ k ∈ (ancs l).getD e.on []) := by
  have key : ∀ n, n ≤ l.length → (∀ (j : Nat) (o : Oper), j < n → l[j]? = some o → ∀ k ∈ (ancs (l.take n)).getD j [], ∃ e ∈ o.after, Region.binds .any e = true ∧ (k = e.on ∨ k ∈ (ancs (l.take n)).getD e.on [])) := by
    intro n
    induction n with
    | zero => intro _ j o hj; omega
    | succ n ih =>
      intro hn j o' hj hjo k hk
      have hln : l[n]? = some l[n] := by simp
      have htk : l.take (n + 1) = l.take n ++ [l[n]] := by rw [List.take_succ_eq_append_getElem (by omega)]
      generalize hp : l[n] = p at htk hln
      have ha1 : ancs (l.take n ++ [p]) = ancs (l.take n) ++ [ancOf (ancs (l.take n)) p.after.toList] := by simp [ancs, List.foldl_append]
      have hlen : (ancs (l.take n)).length = n := by have := (ancs_get (l.take n) []).1; simp [ancs] at this ⊢; omega
      rw [htk, ha1] at hk ⊢
      have lift : ∀ i, i < n → (ancs (l.take n) ++ [ancOf (ancs (l.take n)) p.after.toList]).getD i [] = (ancs (l.take n)).getD i [] := by
        intro i hi
        simp only [List.getD_eq_getElem?_getD]
        rw [List.getElem?_append_left (by omega)]
      rcases Nat.lt_or_ge j n with h | h
      · rw [lift j h] at hk
        obtain ⟨e, he, hb, hor⟩ := ih (by omega) j o' h hjo k hk
        have hej := hlt j o' hjo e he hb
        refine ⟨e, he, hb, hor.imp id fun hm => ?_⟩
        rw [lift e.on (by omega)]; exact hm
      · have hje : j = n := by omega
        subst hje
        rw [hln] at hjo
        obtain rfl : p = o' := by simpa using hjo
        simp only [List.getD_eq_getElem?_getD] at hk
        rw [List.getElem?_append_right (by omega), hlen] at hk
        simp only [Nat.sub_self, List.getElem?_cons_zero, Option.getD_some] at hk
        obtain ⟨e, he, hb, hor⟩ := mem_ancOf hk
        have hem : e ∈ p.after := by simpa using he
        have hej := hlt _ p hln e hem hb
        refine ⟨e, hem, hb, ?_⟩
        rw [lift e.on hej]
        exact hor
  have := key l.length (Nat.le_refl _) j o (List.getElem?_eq_some_iff.1 ho).1 ho k
  rw [List.take_length] at this
  exact this hk

theorem ancs_lt {l : List Oper} (hlt : ∀ (i : Nat) (p : Oper), l[i]? = some p → ∀ e ∈ p.after, Region.binds .any e = true → e.on < i) : ∀ (j : Nat), ∀ k ∈ (ancs l).getD j [], j < l.length → k < j := by
  intro j
  induction j using Nat.strongRecOn with
  | _ j ih =>
    intro k hk hj
    have ho : l[j]? = some l[j] := by simp [hj]
    obtain ⟨e, he, hb, hor⟩ := ancs_mem ho hlt hk
    have h1 := hlt j _ ho e he hb
    rcases hor with rfl | hm
    · exact h1
    · have := ih e.on h1 k hm (by omega); omega

theorem ancs_closed {l : List Oper} (hlt : ∀ (i : Nat) (p : Oper), l[i]? = some p → ∀ e ∈ p.after, Region.binds .any e = true → e.on < i) {D : Nat → Bool} (hD : ∀ (i : Nat) (p : Oper), l[i]? = some p → D i = true → ∀ e ∈ p.after, Region.binds .any e = true → D e.on = true) :
    ∀ (j : Nat), j < l.length → D j = true → ∀ k ∈ (ancs l).getD j [], D k = true := by
  intro j
  induction j using Nat.strongRecOn with
  | _ j ih =>
    intro hj hDj k hk
    have ho : l[j]? = some l[j] := by simp [hj]
    obtain ⟨e, he, hb, hor⟩ := ancs_mem ho hlt hk
    have h1 := hlt j _ ho e he hb
    have h2 := hD j _ ho hDj e he hb
    rcases hor with rfl | hm
    · exact h2
    · exact ih e.on h1 (by omega) h2 k hm

end VS
end Go.Proofs.Ytkhekmmldnjenaa
/- A region that draws its order: sound. -/
namespace Go.Proofs.Ytkhekmmldnjenaa
namespace VS

section
variable {P : Program} {C : CallF} {N : Nat} {ops : Array Oper} {kd : FuncId → Kind}

theorem stripOps_get : ∀ {l : List Oper} {so : List SO}, stripOps P N ops l = some so → so.length = l.length ∧ ∀ (i : Nat) (o : Oper), l[i]? = some o → ∃ s, so[i]? = some s ∧ stripOne P N ops o = some s
  | [], so, h => by simp only [stripOps, Option.some.injEq] at h; subst h; exact ⟨rfl, fun i o h => by simp at h⟩
  | o :: r, so, h => by
    simp only [stripOps] at h
    split at h
    · rename_i s l h1 h2
      cases h
      obtain ⟨k1, k2⟩ := stripOps_get h2
      refine ⟨by simp [k1], fun i p hp => ?_⟩
      cases i with
      | zero => simp at hp; subst hp; exact ⟨s, rfl, h1⟩
      | succ i => exact k2 i p (by simpa using hp)
    · cases h

theorem strip_load {P : Program} {o : Oper} {k : Option Nat} {c : AV} (h : stripOp P o = some (.load k (.c c))) : ∃ q, stripX q = some (.c c) := by
  unfold stripOp at h
  split at h
  all_goals (try unfold stripCall at h)
  all_goals (try unfold stripB at h)
  all_goals
    first
    | (exfalso
       repeat' (first
        | (cases h; done)
        | (rw [Option.map_eq_some_iff] at h; obtain ⟨_, _, h⟩ := h; cases h; done)
        | (split at h))
       done)
    | (split at h
       · cases h; exact ⟨_, by assumption⟩
       · cases h)

theorem strip_call {P : Program} {o : Oper} {f : SX} {l : List SX} (h : stripOp P o = some (.call f l)) : ∃ q, stripXs q = some l := by
  unfold stripOp at h
  split at h
  all_goals (try unfold stripCall at h)
  all_goals (try unfold stripB at h)
  all_goals
    first
    | (exfalso
       repeat' (first
        | (cases h; done)
        | (rw [Option.map_eq_some_iff] at h; obtain ⟨_, _, h⟩ := h; cases h; done)
        | (split at h))
       done)
    | (repeat' (first
        | (cases h; exact ⟨_, by assumption⟩)
        | (cases h; done)
        | (split at h))
       done)

theorem RepL.alike {S : Sim} (I : Inv S) {st : St} (hk : ∀ (b : Nat) (hb hb' : HB), S.st.H[b]? = some hb → st.H[b]? = some hb' → hb'.cells = hb.cells) {l : List AV} {ys : List Value} (hl : RepL S l ys) : Alike st S.st (l.flatMap hsOf) := by
  have one : ∀ (b q n z : Nat) (y : Value), Rep S (.hs b q n z) y → cellsAt st b ≠ none → cellsAt S.st b = cellsAt st b := by
    intro b q n z y hr hn
    cases hr with
    | hs k1 =>
      obtain ⟨_, x, c, ty, hx, _⟩ := I.blk b _ k1
      unfold cellsAt at hn ⊢
      cases hH : st.H[b]? with
      | none => rw [hH] at hn; exact absurd rfl hn
      | some hb' => rw [hx, Option.map_some, Option.map_some, hk b x hb' hx hH]
  have one0 : ∀ (c : AV) (y : Value), Rep S c y → ∀ b ∈ hsOf0 c, cellsAt st b ≠ none → cellsAt S.st b = cellsAt st b := by
    intro c y hr b hb hn
    cases c <;> simp only [hsOf0, List.mem_singleton, List.not_mem_nil] at hb
    subst hb
    exact one _ _ _ _ y hr hn
  intro b hb hn
  rw [List.mem_flatMap] at hb
  obtain ⟨a, ha, hb⟩ := hb
  obtain ⟨j, hj⟩ := List.mem_iff_getElem?.1 ha
  obtain ⟨y, _, hr⟩ := hl.get j a hj
  by_cases hag : ∃ cs, a = .agg cs
  · obtain ⟨cs, rfl⟩ := hag
    simp only [hsOf, List.mem_flatMap] at hb
    obtain ⟨c, hc, hb⟩ := hb
    cases hr with
    | agg hl2 _ =>
      obtain ⟨j2, hj2⟩ := List.mem_iff_getElem?.1 hc
      obtain ⟨y2, _, hr2⟩ := hl2.get j2 c hj2
      exact one0 c y2 hr2 b hb hn
  · have : hsOf a = hsOf0 a := by cases a <;> first | rfl | exact absurd ⟨_, rfl⟩ hag
    rw [this] at hb
    exact one0 a y hr b hb hn

/-- What 'drawOk' gives. -/
structure DrawFacts (free : Bool) (kd : FuncId → Kind) (l : List Oper) (so : List SO) : Prop where
  lt : ∀ (i : Nat) (p : Oper), l[i]? = some p → ∀ e ∈ p.after, Region.binds .any e = true → e.on < i
  pair : ∀ (i j : Nat) (a b : SO), i ≠ j → so[i]? = some a → so[j]? = some b → i ∈ (ancs l).getD j [] ∨ j ∈ (ancs l).getD i [] ∨
    ((clash (opClass kd a.op) (opClass kd b.op) = false ∨ (free = true ∧ loadStore a.op b.op = true)) ∧ (∀ d, a.dst = some d → d ∉ soSlots b ∧ b.dst ≠ some d) ∧ ∀ d, b.dst = some d → d ∉ soSlots a)
  nodef : so.all (fun o => match o.op with | .defer _ => false | _ => true) = true

theorem drawOk_facts {free : Bool} {l : List Oper} {so : List SO} (hlen : so.length = l.length) (h : drawOk free kd l so = true) : DrawFacts free kd l so := by
  simp only [drawOk, Bool.and_eq_true, List.all_eq_true, List.mem_range] at h
  obtain ⟨hnd, hp⟩ := h
  refine ⟨fun i p hi e he hbe => ?_, fun i j a b hne ha hb' => ?_, List.all_eq_true.2 hnd⟩
  · have hil := (List.getElem?_eq_some_iff.1 hi).1
    have := (hp i (by omega)).1
    have e1 : l.getD i default = p := by simp [List.getD_eq_getElem?_getD, hi]
    rw [e1] at this
    have h1 := this e (by simpa using he)
    rw [hbe] at h1
    simpa using h1
  · have hil := (List.getElem?_eq_some_iff.1 ha).1
    have hjl := (List.getElem?_eq_some_iff.1 hb').1
    have := (hp j hjl).2 i hil
    simp only [before, Bool.or_eq_true, beq_iff_eq, hne, false_or, List.contains_iff_mem, ha, hb', Bool.and_eq_true, Bool.not_eq_true'] at this
    rcases this with (h1 | h1) | ⟨⟨h1, h2⟩, h3⟩
    · exact .inl h1
    · exact .inr (.inl h1)
    · refine .inr (.inr ⟨h1, fun d hd => ?_, fun d hd => ?_⟩)
      · rw [hd] at h2
        simp at h2
        exact ⟨h2.1, h2.2⟩
      · rw [hd] at h3
        simpa using h3

/-- In a set of operations that is closed under the edges: who is in it and meets operation 'i', stands before it. -/
theorem ordered {free : Bool} {l : List Oper} {so : List SO} (F : DrawFacts free kd l so) {D : Nat → Bool} (hD : ∀ (i : Nat) (p : Oper), l[i]? = some p → D i = true → ∀ e ∈ p.after, Region.binds .any e = true → D e.on = true)
    {i : Nat} (hi : i < l.length) (hDi : D i = false) (hready : ∀ k ∈ (ancs l).getD i [], D k = true) {k : Nat} (hk : k < l.length) (hor : k ∈ (ancs l).getD i [] ∨ i ∈ (ancs l).getD k []) : D k = decide (k < i) := by
  rcases hor with h | h
  · have := ancs_lt F.lt i k h hi
    rw [hready k h]; simp [this]
  · have h1 := ancs_lt F.lt k i h hk
    have h2 : D k = false := by
      cases hdk : D k with
      | false => rfl
      | true => have := ancs_closed F.lt hD k hk hdk i h; rw [hDi] at this; cases this
    rw [h2]; simp; omega

theorem ls_class {a b : SOp} (h : loadStore a b = true) : (opClass kd a = 1 ∧ opClass kd b = 3) ∨ (opClass kd a = 3 ∧ opClass kd b = 1) := by
  unfold loadStore at h
  split at h
  · exact .inl ⟨rfl, rfl⟩
  · exact .inr ⟨rfl, rfl⟩
  · cases h

theorem free_ne {l : List (Bool × Nat)} (h : freeOk l = true) {b c : Nat} (hb : (true, b) ∈ l) (hc : (false, c) ∈ l) : b ≠ c := by
  unfold freeOk at h
  rw [List.all_eq_true] at h
  have h1 := h _ hb
  simp only [Bool.not_true, Bool.false_or, List.all_eq_true] at h1
  have h2 := h1 _ hc
  simpa using h2

theorem draw_sound {free : Bool} (hC : CallOk P C) (hM : Mild kd C) (hmix : P.follows .mixedOrders = true) {so : List SO} {fr fr' : Fr} {st' : St} {S0 : Sim} {a0 : Act} {id : Nat} (hs : stripOps P N ops ops.toList = some so) (hdr : drawOk free kd ops.toList so = true) (hfree : free = true → freeOk (touched C so fr S0.st) = true)
    (he : evOps C so fr S0.st = some (.nx, fr', st')) (I0 : Inv S0) (hN0 : a0.tmps.size = N) (hf0 : FrOk S0 fr a0) : (Code.region id ops true).wp P (Post S0 N (.nx, fr', st')) a0 S0.w := by
  obtain ⟨hlen, hget⟩ := stripOps_get hs
  have F := drawOk_facts hlen hdr
  obtain ⟨t, T⟩ := tr_of F.nodef he
  have n_eq : ops.toList.length = ops.size := by simp
  -- the start
  have hk0 : Keeps S0.w S0.w.drew := Keeps.drew _
  have hst0 : Step S0 (S0.at S0.w.drew) := ⟨Ext.keeps hk0, Inv.keeps I0 hk0, (RowKit.Below.refl _ _).drew⟩
  refine wp_region_any hmix ?_
  let dst : Nat → Option Nat := fun i => (so[i]?).bind (·.dst)
  let cls : Nat → Nat := fun i => match so[i]? with | some o => opClass kd o.op | none => 0
  let av := avAt t
  let ST := stAt t st'
  let FR := frAt t fr'
  have hcat : ∀ (k : Nat) (o : SO), so[k]? = some o → cls k = opClass kd o.op := fun k o h => by simp only [cls, h]
  have hstep : ∀ i o, so[i]? = some o → stepS C o (FR i) (ST i) = some (av i, ST (i + 1)) ∧ FR (i + 1) = (FR i).put o.dst (av i) := fun i o ho => T.step i o ho
  have hzero : FR 0 = fr ∧ ST 0 = S0.st := T.zero
  have hlast : FR so.length = fr' ∧ ST so.length = st' := T.last
  -- the frames of the text's order
  have hFR : ∀ m, m ≤ so.length → ∀ s, look (FR m).s s = expS dst av fr.s (fun _ => true) s m := by
    intro m
    induction m with
    | zero => intro _ s; rw [hzero.1]; rfl
    | succ m ih =>
      intro hm s
      have ho : so[m]? = some so[m] := by simp
      rw [(hstep m _ ho).2]
      simp only [expS, dst, ho, Option.bind_some, Bool.true_and]
      cases hd : so[m].dst with
      | none => simp only [Fr.put]; exact ih (by omega) s
      | some d =>
        simp only [Fr.put, look_put]
        by_cases hds : d = s
        · simp [hds]
        · rw [if_neg hds, ih (by omega) s, if_neg (by simpa using hds)]
  -- operations that do not write leave the state
  have hsame : ∀ m, m < so.length → cls m < 2 → ST (m + 1) = ST m := by
    intro m hm hc
    have ho : so[m]? = some so[m] := by simp
    have h1 := (hstep m _ ho).1
    simp only [cls, ho] at hc
    simp only [stepS] at h1
    split at h1
    · cases h1
    · simp only [Option.some.injEq, Prod.mk.injEq] at h1; exact h1.2.symm
    · split at h1
      · rename_i x s1 hev
        simp only [Option.some.injEq, Prod.mk.injEq] at h1
        rw [← h1.2]
        have hcc : opClass kd so[m].op = 0 ∨ opClass kd so[m].op = 1 := by omega
        rcases hcc with h0 | h0
        · exact (class0 h0 hev).1
        · exact (class1 hM h0 hev).1
      · cases h1
  have hmild : ∀ m, m < so.length → cls m ≠ 3 → stLe (ST m) (ST (m + 1)) := by
    intro m hm hc
    by_cases h2 : cls m < 2
    · rw [hsame m hm h2]; exact stLe.refl _
    · have ho : so[m]? = some so[m] := by simp
      have hle3 : ∀ op, opClass kd op ≤ 3 := by
        intro op
        cases op <;> simp only [opClass] <;> first | decide | (unfold callClass; split <;> (try split) <;> (try split) <;> decide)
      have h1 := (hstep m _ ho).1
      have hc2 : opClass kd so[m].op = 2 := by simp only [cls, ho] at hc h2; have := hle3 so[m].op; omega
      simp only [stepS] at h1
      split at h1
      · cases h1
      · simp only [Option.some.injEq, Prod.mk.injEq] at h1; rw [← h1.2]; exact stLe.refl _
      · split at h1
        · rename_i x s1 hev
          simp only [Option.some.injEq, Prod.mk.injEq] at h1
          rw [← h1.2]
          exact class2 hM hc2 hev
        · cases h1
  have hrange : ∀ p q, p ≤ q → q ≤ so.length → (∀ k, p ≤ k → k < q → cls k ≠ 3) → stLe (ST p) (ST q) := by
    intro p q hpq
    induction q with
    | zero => intro _ _; have : p = 0 := by omega
              subst this; exact stLe.refl _
    | succ q ih =>
      intro hq hk
      by_cases he : p = q + 1
      · subst he; exact stLe.refl _
      · exact (ih (by omega) (by omega) (fun k h1 h2 => hk k h1 (by omega))).trans (hmild q (by omega) (hk q (by omega) (by omega)))
  have hrange0 : ∀ p q, p ≤ q → q ≤ so.length → (∀ k, p ≤ k → k < q → cls k < 2) → ST p = ST q := by
    intro p q hpq
    induction q with
    | zero => intro _ _; have : p = 0 := by omega
              subst this; rfl
    | succ q ih =>
      intro hq hk
      by_cases he : p = q + 1
      · subst he; rfl
      · rw [ih (by omega) (by omega) (fun k h1 h2 => hk k h1 (by omega)), hsame q (by omega) (hk q (by omega) (by omega))]
  -- the induction
  have main : ∀ (fuel : Nat) (listed : Array Bool) (S : Sim) (a : Act) (frD : Fr), listed.size = ops.size → (listed.toList.filter (fun b => !b)).length = fuel →
      (∀ (i : Nat) (p : Oper), ops.toList[i]? = some p → listed.getD i false = true → ∀ e ∈ p.after, Region.binds .any e = true → listed.getD e.on false = true) →
      S.B = S0.B → S.A = S0.A → Step S0 S → a.tmps.size = N → FrOk S frD a → (∀ s, look frD.s s = expS dst av fr.s (fun k => listed.getD k false) s so.length) → frD.d = fr'.d → S.st = ST (posE cls (fun k => listed.getD k false) so.length) →
      wpAny P .any ops (Post S0 N (.nx, fr', st')) fuel listed a S.w := by
    intro fuel
    induction fuel with
    | zero =>
      intro listed S a frD hsz hcount hclosed hB hA hst hN hf hlook hfd hS
      have hall : ∀ k, k < ops.size → listed.getD k false = true := by
        intro k hk
        have hk' : k < listed.size := by omega
        cases hb : listed[k] with
        | true => simp [Array.getD_eq_getD_getElem?, hk', hb]
        | false =>
          have : false ∈ listed.toList.filter (fun b => !b) := by
            rw [List.mem_filter]
            exact ⟨by rw [← hb]; simp, rfl⟩
          have := List.length_pos_of_mem this
          omega
      have hready : Region.ready .any ops listed = [] := by
        cases hr : Region.ready .any ops listed with
        | nil => rfl
        | cons x xs =>
          have hx : x ∈ Region.ready .any ops listed := by rw [hr]; simp
          obtain ⟨h1, o, h2, _⟩ := mem_ready.1 hx
          have hxl : x < ops.size := (Array.getElem?_eq_some_iff.1 h2).1
          have := hall x hxl
          have hx' : x < listed.size := by omega
          simp [Array.getD_eq_getD_getElem?, hx'] at h1 this
          rw [h1] at this; cases this
      have e1 : ∀ s, look frD.s s = look fr'.s s := by
        intro s
        rw [hlook s, ← hlast.1, hFR so.length (Nat.le_refl _) s]
        refine expS_congr _ fun k hk _ => ?_
        rw [hall k (by omega)]
      have e2 : S.st = st' := by
        rw [hS, ← hlast.2]
        refine hrange0 _ _ (posE_inv _).1 (Nat.le_refl _) fun k h1 h2 => ?_
        rcases Nat.lt_or_ge (cls k) 2 with h | h
        · exact h
        · have := (posE_inv (cls := cls) (D := fun k => listed.getD k false) so.length).2.1 k h2 (hall k (by omega)) h
          omega
      exact ⟨hready, S, rfl, e2, hB, hA, hst, hN, ⟨fun i x hx => hf.s i x (by rw [e1]; exact hx), hfd ▸ hf.d⟩, trivial⟩
    | succ fuel ih =>
      intro listed S a frD hsz hcount hclosed hB hA hst hN hf hlook hfd hS
      refine ⟨fun hr => ?_, fun i hi => ?_⟩
      · -- some operation is ready
        exfalso
        have hne : listed.toList.filter (fun b => !b) ≠ [] := by intro h; rw [h] at hcount; simp at hcount
        have hex : ∃ k, k < ops.size ∧ listed.getD k true = false := by
          obtain ⟨b, hb⟩ := List.exists_mem_of_ne_nil _ hne
          rw [List.mem_filter] at hb
          obtain ⟨k, hk⟩ := List.mem_iff_getElem?.1 hb.1
          have hkl := (List.getElem?_eq_some_iff.1 hk).1
          have hb2 : b = false := by simpa using hb.2
          subst hb2
          refine ⟨k, by simp at hkl; omega, ?_⟩
          simp only [Array.getElem?_toList] at hk
          simp [Array.getD_eq_getD_getElem?, hk]
        obtain ⟨k, hk1, hk2⟩ := hex
        have hmin : ∀ m, m < ops.size → listed.getD m true = false → False := by
          intro m
          induction m using Nat.strongRecOn with
          | _ m ihm =>
            intro hm hlm
            have ho : ops[m]? = some ops[m] := by simp [hm]
            have hol : ops.toList[m]? = some ops[m] := by simp [hm]
            have : m ∈ Region.ready .any ops listed := mem_ready.2 ⟨hlm, ops[m], ho, fun e he hbe => by
              have h1 := F.lt m _ hol e he hbe
              have h2 : e.on < listed.size := by omega
              cases hle : listed[e.on] with
              | true => simp [Array.getD_eq_getD_getElem?, h2, hle]
              | false => exact (ihm e.on h1 (by omega) (by simp [Array.getD_eq_getD_getElem?, h2, hle])).elim⟩
            rw [hr] at this; cases this
        exact hmin k hk1 hk2
      · obtain ⟨hun, o, hoi, hedges⟩ := mem_ready.1 hi
        have hil : i < ops.size := (Array.getElem?_eq_some_iff.1 hoi).1
        have hils : i < listed.size := by omega
        have hol : ops.toList[i]? = some o := by simpa using hoi
        obtain ⟨s, hsi, hone⟩ := hget i o hol
        obtain ⟨hd, hop, hg, hdst⟩ := stripOne_inv hone
        have hd' : o.dst.all (fun d => decide (d < a.tmps.size)) = true := by rw [hN]; exact hd
        let D : Nat → Bool := fun k => listed.getD k false
        have hDi : D i = false := by simp [Array.getD_eq_getD_getElem?, hils] at hun ⊢; simpa [D, Array.getD_eq_getD_getElem?, hils] using hun
        have hready : ∀ k ∈ (ancs ops.toList).getD i [], D k = true := by
          intro k hk
          obtain ⟨e, he, hb, hor⟩ := ancs_mem hol F.lt hk
          have h1 := hedges e he hb
          rcases hor with rfl | hm
          · exact h1
          · exact ancs_closed F.lt hclosed e.on (by have := F.lt i o hol e he hb; omega) h1 k hm
        have hord : ∀ k, k < so.length → k ∈ (ancs ops.toList).getD i [] ∨ i ∈ (ancs ops.toList).getD k [] → D k = decide (k < i) := fun k hk hor =>
          ordered F hclosed (by omega) hDi hready (by omega) hor
        have hisl : i < so.length := by omega
        -- slots
        have hslots : ∀ x ∈ soSlots s, look frD.s x = look (FR i).s x := by
          intro x hx
          rw [hlook x, hFR i (by omega) x, ← expS_lt so.length (by omega)]
          refine expS_congr _ fun k hk hkd => ?_
          by_cases hki : k = i
          · subst hki; rw [show listed.getD k false = false from hDi]; simp
          · have hok : so[k]? = some so[k] := by simp
            simp only [dst, hok, Option.bind_some] at hkd
            rcases F.pair k i so[k] s hki hok hsi with h | h | ⟨_, h, _⟩
            · exact hord k hk (.inl h)
            · exact hord k hk (.inr h)
            · exact absurd hx (h x hkd).1
        -- the state
        have hpos := posE_inv (cls := cls) (D := D) so.length
        have hclash : ∀ k, k < so.length → k ≠ i → clash (cls k) (cls i) = true → (∀ o, so[k]? = some o → ¬ (free = true ∧ loadStore o.op s.op = true)) → D k = decide (k < i) := by
          intro k hk hki hcl hnf
          have hok : so[k]? = some so[k] := by simp
          simp only [cls, hok, hsi] at hcl
          rcases F.pair k i so[k] s hki hok hsi with h | h | ⟨h, _, _⟩
          · exact hord k hk (.inl h)
          · exact hord k hk (.inr h)
          · rcases h with h | h
            · rw [hcl] at h; cases h
            · exact absurd h (hnf _ hok)
        have hcls_i : cls i = opClass kd s.op := by simp only [cls, hsi]
        have hS2 : 2 ≤ cls i → S.st = ST i ∧ posE cls D so.length ≤ i := by
          intro hc
          have hlt : ∀ k, k < so.length → 2 ≤ cls k → k ≠ i → D k = decide (k < i) := fun k hk hck hki => hclash k hk hki (by simp [clash]; left; omega) fun o ho hh => by
            have h1 := hcat k o ho
            have h2 := ls_class (kd := kd) hh.2
            omega
          have hple : posE cls D so.length ≤ i := by
            rcases Nat.eq_zero_or_pos (posE cls D so.length) with h0 | h0
            · omega
            · obtain ⟨h1, h2⟩ := hpos.2.2 h0
              have hne : posE cls D so.length - 1 ≠ i := by intro h; rw [h] at h1; rw [hDi] at h1; cases h1
              have := hlt _ (by omega) h2 hne
              rw [h1] at this
              have := of_decide_eq_true this.symm
              omega
          refine ⟨?_, hple⟩
          rw [hS]
          refine hrange0 _ _ hple (by omega) fun k h1 h2 => ?_
          rcases Nat.lt_or_ge (cls k) 2 with h | h
          · exact h
          · have h3 := hlt k (by omega) h (by omega)
            rw [decide_eq_true h2] at h3
            have h4 := hpos.2.1 k (by omega) h3 h
            exact absurd (Nat.lt_of_lt_of_le h4 h1) (Nat.lt_irrefl _)
        have hS1 : cls i = 1 → ∀ (b : Nat) (hb hb' : HB), (∀ k o, so[k]? = some o → free = true → loadStore o.op s.op = true → ∀ x, (ST k).H[b]? = some x → ∃ x', (ST (k + 1)).H[b]? = some x' ∧ x'.cells = x.cells) →
            S.st.H[b]? = some hb → (ST i).H[b]? = some hb' → hb'.cells = hb.cells := by
          intro hc b hb hb' hkeep h1 h2
          have h3cls : ∀ k, k < so.length → cls k = 3 → ¬ (free = true ∧ ∀ o, so[k]? = some o → loadStore o.op s.op = true) → D k = decide (k < i) := fun k hk hck hnf => hclash k hk (by intro h; rw [h] at hck; omega) (by simp [clash]; right; omega) fun o ho hh => hnf ⟨hh.1, fun o' ho' => by rw [ho] at ho'; cases ho'; exact hh.2⟩
          have hrangeB : ∀ p q, p ≤ q → q ≤ so.length → (∀ k, p ≤ k → k < q → cls k = 3 → free = true ∧ ∀ o, so[k]? = some o → loadStore o.op s.op = true) → ∀ x, (ST p).H[b]? = some x → ∃ x', (ST q).H[b]? = some x' ∧ x'.cells = x.cells := by
            intro p q hpq
            induction q with
            | zero => intro _ _ x hx; have : p = 0 := by omega
                      subst this; exact ⟨x, hx, rfl⟩
            | succ q ihq =>
              intro hq hk x hx
              by_cases he : p = q + 1
              · subst he; exact ⟨x, hx, rfl⟩
              · obtain ⟨x1, hx1, hx2⟩ := ihq (by omega) (by omega) (fun k h1 h2 => hk k h1 (by omega)) x hx
                have hoq : so[q]? = some so[q] := by simp
                by_cases h3 : cls q = 3
                · obtain ⟨k1, k2⟩ := hk q (by omega) (by omega) h3
                  obtain ⟨x2, hx3, hx4⟩ := hkeep q _ hoq k1 (k2 _ hoq) x1 hx1
                  exact ⟨x2, hx3, hx4.trans hx2⟩
                · obtain ⟨x2, hx3, hx4⟩ := hmild q (by omega) h3 b x1 hx1
                  exact ⟨x2, hx3, hx4.trans hx2⟩
          rw [hS] at h1
          rcases Nat.le_total (posE cls D so.length) i with hle | hle
          · have := hrangeB _ _ hle (by omega) fun k g1 g2 hk3 => Classical.byContradiction fun hnf => by
              have h4 := h3cls k (by omega) hk3 hnf
              rw [decide_eq_true g2] at h4
              have := hpos.2.1 k (by omega) h4 (by omega)
              omega
            obtain ⟨x, hx1, hx2⟩ := this hb h1
            rw [h2] at hx1; cases hx1; exact hx2
          · have := hrangeB _ _ hle hpos.1 fun k g1 g2 hk3 => Classical.byContradiction fun hnf => by
              have hki : k ≠ i := by intro h; rw [h] at hk3; omega
              have h4 := h3cls k (by omega) hk3 hnf
              have h5 : D k = false := by rw [h4]; simp; omega
              obtain ⟨p1, p2⟩ := hpos.2.2 (by omega)
              by_cases hkm : k = posE cls D so.length - 1
              · rw [← hkm] at p1; rw [h5] at p1; cases p1
              · have hok : so[k]? = some so[k] := by simp
                have hom : so[posE cls D so.length - 1]? = some so[posE cls D so.length - 1] := by simp
                have hcl : clash (opClass kd so[k].op) (opClass kd so[posE cls D so.length - 1].op) = true := by
                  rw [hcat k _ hok] at hk3
                  rw [hcat _ _ hom] at p2
                  simp [clash]; left; omega
                rcases F.pair k _ so[k] so[posE cls D so.length - 1] hkm hok hom with h | h | ⟨h, _, _⟩
                · have := ancs_closed F.lt hclosed _ (by omega) p1 k h
                  rw [show listed.getD k false = false from h5] at this; cases this
                · have := ancs_lt F.lt k _ h (by omega)
                  omega
                · rcases h with h | h
                  · rw [hcl] at h; cases h
                  · have h7 := hcat k _ hok
                    have h8 := hcat _ _ hom
                    have h9 := ls_class (kd := kd) h.2
                    omega
            obtain ⟨x, hx1, hx2⟩ := this hb' h2
            rw [h1] at hx1; cases hx1; exact hx2.symm
        -- the next set
        have hcount' : ((listed.setIfInBounds i true).toList.filter (fun b => !b)).length = fuel := by
          have hli : listed[i] = false := by simpa [Array.getD_eq_getD_getElem?, hils] using hun
          have := List.countP_set (p := fun b : Bool => !b) (l := listed.toList) (i := i) (a := true) (by simpa using hils)
          simp only [List.countP_eq_length_filter] at this
          simp only [Array.toList_setIfInBounds]
          rw [this, hcount]
          simp [hli]
        have hclosed' : ∀ (k : Nat) (p : Oper), ops.toList[k]? = some p → (listed.setIfInBounds i true).getD k false = true → ∀ e ∈ p.after, Region.binds .any e = true → (listed.setIfInBounds i true).getD e.on false = true := by
          intro k p hp hk e he hb
          by_cases hki : i = k
          · subst hki
            rw [hol] at hp; cases hp
            exact getD_set_true (hedges e he hb)
          · rw [getD_set_ne false hki] at hk
            exact getD_set_true (hclosed k p hp hk e he hb)
        have hD' : ∀ k, (listed.setIfInBounds i true).getD k false = (D k || decide (k = i)) := by
          intro k
          by_cases hki : i = k
          · subst hki; simp [Array.getD_eq_getD_getElem?, hils]
          · rw [getD_set_ne false hki]
            have : ¬ k = i := fun h => hki h.symm
            simp [D, this]
        have hlook' : ∀ (x : Nat), look (frD.put s.dst (av i)).s x = expS dst av fr.s (fun k => (listed.setIfInBounds i true).getD k false) x so.length := by
          intro x
          have hdi : dst i = s.dst := by simp only [dst, hsi, Option.bind_some]
          by_cases hx : s.dst = some x
          · -- 'i' is the last that writes x
            have hothers : ∀ k, k < so.length → k ≠ i → dst k = some x → D k = decide (k < i) := by
              intro k hk hki hkd
              have hok : so[k]? = some so[k] := by simp
              simp only [dst, hok, Option.bind_some] at hkd
              rcases F.pair k i so[k] s hki hok hsi with h | h | ⟨_, h, _⟩
              · exact hord k hk (.inl h)
              · exact hord k hk (.inr h)
              · exact absurd hx (h x hkd).2
            have e1 : expS dst av fr.s (fun k => (listed.setIfInBounds i true).getD k false) x so.length = expS dst av fr.s (fun k => decide (k < i + 1)) x so.length := by
              refine expS_congr _ fun k hk hkd => ?_
              rw [hD' k]
              by_cases hki : k = i
              · subst hki; simp
              · rw [hothers k hk hki hkd]
                simp [hki]; omega
            rw [e1, expS_lt so.length (by omega)]
            simp only [expS, hdi, hx, Bool.true_and, beq_self_eq_true, if_true]
            simp [Fr.put, look_put]
          · have e1 : look (frD.put s.dst (av i)).s x = look frD.s x := by
              cases hsd : s.dst with
              | none => rfl
              | some d =>
                simp only [Fr.put, look_put]
                rw [if_neg (fun h => hx (by rw [hsd, h]))]
            rw [e1, hlook x]
            refine expS_congr _ fun k hk hkd => ?_
            rw [hD' k]
            have : k ≠ i := by intro h; subst h; rw [hdi] at hkd; exact hx hkd
            simp [D, this]
        have hst' : (2 ≤ cls i → ST (i + 1) = ST (posE cls (fun k => (listed.setIfInBounds i true).getD k false) so.length)) ∧ (cls i < 2 → posE cls (fun k => (listed.setIfInBounds i true).getD k false) so.length = posE cls D so.length) := by
          have hpos' := posE_inv (cls := cls) (D := fun k => (listed.setIfInBounds i true).getD k false) so.length
          constructor
          · intro hc
            have h1 := hpos'.2.1 i hisl (by show (listed.setIfInBounds i true).getD i false = true; rw [hD' i]; simp) hc
            have h2 : posE cls (fun k => (listed.setIfInBounds i true).getD k false) so.length = i + 1 := by
              have hp := hpos'.2.2 (by omega)
              rcases Nat.lt_or_ge i (posE cls (fun k => (listed.setIfInBounds i true).getD k false) so.length - 1) with h | h
              · exfalso
                have hp1 : D (posE cls (fun k => (listed.setIfInBounds i true).getD k false) so.length - 1) = true := by
                  have h5 : (listed.setIfInBounds i true).getD (posE cls (fun k => (listed.setIfInBounds i true).getD k false) so.length - 1) false = true := hp.1
                  rw [hD' (posE cls (fun k => (listed.setIfInBounds i true).getD k false) so.length - 1), decide_eq_false (by omega), Bool.or_false] at h5
                  exact h5
                have := hpos.2.1 _ (by omega) hp1 hp.2
                have := (hS2 hc).2
                omega
              · omega
            rw [h2]
          · intro hc
            have gen : ∀ m, posE cls (fun k => (listed.setIfInBounds i true).getD k false) m = posE cls D m := by
              intro m
              induction m with
              | zero => rfl
              | succ m ihm =>
                simp only [posE, ihm, hD' m]
                by_cases hmi : m = i
                · subst hmi
                  have : ¬ 2 ≤ cls m := by omega
                  simp [this]
                · simp [hmi]
            exact gen _
        -- what the operation does
        have hstepi := (hstep i s hsi).1
        have hA1 : Agree frD (FR i) (match s.g with | some (x, _) => [x] | none => []) := fun x hx => hslots x (by simp only [soSlots]; exact List.mem_append_left _ hx)
        have hA2 : Agree frD (FR i) (opSlots s.op) := fun x hx => hslots x (by simp only [soSlots]; exact List.mem_append_right _ hx)
        unfold wpOp
        rw [hoi]
        simp only
        simp only [stepS] at hstepi
        split at hstepi
        · cases hstepi
        · rename_i hw
          rw [← wants_congr hA1] at hw
          rw [wanted_ok hf hg hw]
          simp only [Bool.false_eq_true, if_false]
          simp only [Option.some.injEq, Prod.mk.injEq] at hstepi
          have hav : av i = und := hstepi.1.symm
          have hstEq : S.st = ST (posE cls (fun k => (listed.setIfInBounds i true).getD k false) so.length) := by
            rcases Nat.lt_or_ge (cls i) 2 with h | h
            · rw [hst'.2 h]; exact hS
            · rw [← hst'.1 h, ← hstepi.2]; exact (hS2 h).1
          have hput := hf.put (x := und) (y := undef) (dst := o.dst) (.tup .nil) hd'
          refine ih (listed.setIfInBounds i true) S _ (frD.put s.dst (av i)) (by simp [hsz]) hcount' hclosed' hB hA hst (by rw [put_size, hN]) ?_ hlook' ?_ hstEq
          · rw [hdst, hav]; exact hput
          · cases s.dst <;> exact hfd
        · rename_i hw
          rw [← wants_congr hA1] at hw
          rw [wanted_ok hf hg hw]
          simp only [if_true]
          split at hstepi
          · rename_i x s1 hev
            simp only [Option.some.injEq, Prod.mk.injEq] at hstepi
            obtain ⟨rfl, hs1⟩ := hstepi
            -- the same, in the state that stands
            have hev' : ∃ s2, evOp C frD S.st s.op = some (.ret (av i), s2) ∧ s2 = ST (posE cls (fun k => (listed.setIfInBounds i true).getD k false) so.length) := by
              rw [evOp_congr hA2]
              rcases Nat.lt_or_ge (cls i) 2 with h | h
              · have hcc : cls i = 0 ∨ cls i = 1 := by omega
                rcases hcc with h0 | h0
                · rw [hcls_i] at h0
                  exact ⟨S.st, (class0 h0 hev).2 S.st, by rw [hst'.2 h]; exact hS⟩
                · rcases (class1 hM (by rw [hcls_i] at h0; exact h0) hev).2 with ⟨k, z, hopl⟩ | ⟨g, l, as, hopl, has, hpure, hall⟩
                  rotate_left
                  · refine ⟨S.st, ?_, by rw [hst'.2 h]; exact hS⟩
                    rw [hopl] at hop
                    obtain ⟨q, hq⟩ := strip_call hop
                    have has' : evXs frD l = some as := by
                      rw [hopl] at hA2
                      rw [← has]
                      exact evXs_congr (fun x hx => hA2 x (by simp only [opSlots, xSlots, List.nil_append]; exact hx))
                    have hrl := stripXs_rep hf hq has'
                    refine hall S.st (hrl.alike hst.inv fun b hb hb' h1 h2 => hS1 h0 b hb hb' (fun m o ho hfr hls => ?_) h1 h2)
                    rw [hopl] at hls
                    cases hom : o.op <;> rw [hom] at hls <;> simp [loadStore] at hls
                  rw [hopl] at hev ⊢
                  simp only [evOp] at hev ⊢
                  split at hev
                  · rename_i p hp
                    rw [Option.map_eq_some_iff] at hev
                    obtain ⟨v, hv, hev⟩ := hev
                    simp only [Prod.mk.injEq, ORes.ret.injEq] at hev
                    obtain ⟨rfl, _⟩ := hev
                    refine ⟨S.st, ?_, by rw [hst'.2 h]; exact hS⟩
                    -- the pointer is known in the state that stands
                    have hpr : ∃ y, Rep S p y := by
                      cases z with
                      | t j =>
                        simp only [evX] at hp
                        rw [hopl] at hA2
                        rw [← hA2 j (by simp [opSlots, xSlots])] at hp
                        obtain ⟨y, _, hy⟩ := hf.s j p hp
                        exact ⟨y, hy⟩
                      | c cst =>
                        simp only [evX, Option.some.injEq] at hp
                        subst hp
                        rw [hopl] at hop
                        obtain ⟨q, hq⟩ := strip_load hop
                        exact ⟨_, stripX_rep hf hq rfl⟩
                    obtain ⟨y, hy⟩ := hpr
                    have : opLoad S.st k p = some (av i) := by
                      cases hy with
                      | ptr hb =>
                        rename_i b off g
                        simp only [opLoad] at hv ⊢
                        split at hv
                        · rename_i hb' hH
                          obtain ⟨_, _, c, ty, hH2, _⟩ := hst.inv.blk b g hb
                          rw [hH2]
                          simp only
                          rw [← hS1 h0 b _ hb' (fun m o ho hfr hls x hx => by
                            have hne := hfree hfr
                            have hto : (true, b) ∈ touched C so fr S0.st := T.touched i s hsi _ (by
                              have hwi : wants (FR i) s.g = some true := by rw [← wants_congr hA1]; exact hw
                              show (true, b) ∈ touch s (FR i)
                              simp [touch, hwi, hopl, hp])
                            have h5 := (hstep m o ho).1
                            simp only [stepS] at h5
                            split at h5
                            · cases h5
                            · simp only [Option.some.injEq, Prod.mk.injEq] at h5; rw [← h5.2]; exact ⟨x, hx, rfl⟩
                            · rename_i hwm
                              rw [hopl] at hls
                              cases hom : o.op <;> rw [hom] at hls <;> simp only [loadStore] at hls <;> first | (cases hls; done) | skip
                              rename_i k2 z2 y2
                              rw [hom] at h5
                              simp only [evOp] at h5
                              split at h5
                              · rename_i a1 st1 hev5
                                simp only [Option.some.injEq, Prod.mk.injEq] at h5
                                split at hev5
                                · rename_i p2 y3 hp2 hy3
                                  rw [Option.map_eq_some_iff] at hev5
                                  obtain ⟨st3, hst3, hev5⟩ := hev5
                                  cases hev5
                                  rw [← h5.2]
                                  unfold opStore at hst3
                                  split at hst3
                                  · rename_i c2 off2
                                    have hts : (false, c2) ∈ touched C so fr S0.st := T.touched m o ho _ (by
                                      show (false, c2) ∈ touch o (FR m)
                                      simp [touch, hwm, hom, hp2])
                                    have hbc := free_ne hne hto hts
                                    split at hst3
                                    · split at hst3
                                      · cases hst3
                                        refine ⟨x, ?_, rfl⟩
                                        show ((ST m).H.set c2 _)[b]? = some x
                                        rw [List.getElem?_set_ne (Ne.symm hbc)]; exact hx
                                      · cases hst3
                                    · cases hst3
                                  · cases hst3
                                · cases hev5
                              · cases h5) hH2 hH]; exact hv
                        · cases hv
                      | ep _ _ _ _ => exact hv
                      | _ => simp [opLoad] at hv
                    rw [this]; rfl
                  · cases hev
              · have := hS2 h
                rw [this.1]
                exact ⟨s1, hev, by rw [hs1]; exact hst'.1 h⟩
            obtain ⟨s2, hev2, hs2⟩ := hev'
            refine .inl ?_
            have hgo := op_sound hC hst.inv hf hop hev2
            refine hgo _ _ fun S' y e1 e2 e3 e4 e5 => ?_
            refine ih (listed.setIfInBounds i true) S' _ (frD.put s.dst (av i)) (by simp [hsz]) hcount' hclosed' (e2.trans hB) (e3.trans hA) (hst.trans e4) (by rw [put_size, hN]) ?_ hlook' ?_ (by rw [e1, hs2])
            · rw [hdst]; exact (hf.ext e4.ext).put e5 hd'
            · cases s.dst <;> exact hfd
          · cases hstepi
  -- the beginning
  have h0 : ∀ k, (Array.replicate ops.size false).getD k false = false := by
    intro k
    simp [Array.getD_eq_getD_getElem?, Array.getElem?_replicate]
    split <;> rfl
  have hfd : fr.d = fr'.d := by
    have : ∀ m, m ≤ so.length → (FR m).d = fr.d := by
      intro m
      induction m with
      | zero => intro _; rw [hzero.1]
      | succ m ihm =>
        intro hm
        have ho : so[m]? = some so[m] := by simp
        rw [(hstep m _ ho).2]
        cases so[m].dst <;> exact ihm (by omega)
    rw [← hlast.1]; exact (this so.length (Nat.le_refl _)).symm
  refine main ops.size (Array.replicate ops.size false) (S0.at S0.w.drew) a0 fr (by simp) (by simp) (fun i p _ h => by rw [h0] at h; cases h) rfl rfl hst0 hN0 (hf0.ext hst0.ext) (fun s => ?_) hfd ?_
  · have : ∀ m, expS dst av fr.s (fun k => (Array.replicate ops.size false).getD k false) s m = look fr.s s := by
      intro m
      induction m with
      | zero => rfl
      | succ m ihm => simp only [h0] at ihm; simp only [expS, h0, Bool.false_and, Bool.false_eq_true, if_false]; exact ihm
    exact (this _).symm
  · have : ∀ m, posE cls (fun k => (Array.replicate ops.size false).getD k false) m = 0 := by
      intro m
      induction m with
      | zero => rfl
      | succ m ihm => simp only [h0] at ihm; simp only [posE, h0, Bool.false_and, Bool.false_eq_true, if_false]; exact ihm
    rw [this]; exact hzero.2.symm

end

end VS
end Go.Proofs.Ytkhekmmldnjenaa
/- Code: what the evaluator answers, the model's code comes to. -/
namespace Go.Proofs.Ytkhekmmldnjenaa
namespace VS

theorem look_only : ∀ {l : List (Nat × AV)} {ks : List Nat} {i : Nat} {x : AV}, look (onlyL l ks) i = some x → look l i = some x
  | l, [], i, x, h => by simp [onlyL, look] at h
  | l, k :: r, i, x, h => by
    simp only [onlyL] at h
    split at h
    · rename_i a ha
      simp only [look_put] at h
      split at h
      · rename_i hk; subst hk; cases h; exact ha
      · exact look_only h
    · exact look_only h

theorem FrOk.only {S : Sim} {fr : Fr} {a : Act} (h : FrOk S fr a) (ks : List Nat) : FrOk S (fr.only ks) a := ⟨fun i x hx => h.s i x (look_only hx), h.d⟩

theorem rounds_mono {P : Program} {c : Code} {Q Q' : Exit → Act → World → Prop} (hq : ∀ e a w, Q e a w → Q' e a w) : ∀ n a w, Code.rounds P c Q n a w → Code.rounds P c Q' n a w
  | 0, _, _, h => h
  | n + 1, a, w, h => wp_mono h fun e a w hh => by
    cases e with
    | normal => exact rounds_mono hq n a w hh
    | _ => exact hq _ _ _ hh

section
variable {P : Program} {T : FuncId → Option SFn} {kd : FuncId → Kind} {N : Nat}

/-- The state in which code begins. -/
structure Beg (S : Sim) (N : Nat) (fr : Fr) (a : Act) : Prop where
  inv : Inv S
  size : a.tmps.size = N
  fr : FrOk S fr a

def CodeOk (P : Program) (T : FuncId → Option SFn) (kd : FuncId → Kind) (n : Nat) : Prop :=
  ∀ (N : Nat) (c : Code) (b sc : SCode) (fr : Fr) (S : Sim) (a : Act) (out : Out), strip P kd N c = some b → erase sc = erase b → run T n sc fr S.st = some out → Beg S N fr a → c.wp P (Post S N out) a S.w

def LoopOk (P : Program) (T : FuncId → Option SFn) (kd : FuncId → Kind) (n : Nat) : Prop :=
  ∀ (N : Nat) (ks : List Nat) (c : Code) (b sc : SCode) (fr : Fr) (S : Sim) (a : Act) (out : Out), strip P kd N c = some b → erase sc = erase b → run T n (.loop ks sc) fr S.st = some out → Beg S N fr a → Code.rounds P c (Post S N out) n a S.w

theorem Beg.only {S : Sim} {N : Nat} {fr : Fr} {a : Act} (h : Beg S N fr a) (ks : List Nat) : Beg S N (fr.only ks) a := ⟨h.inv, h.size, h.fr.only ks⟩

/-- The way on from where code ended normally; or the end, as it is. -/
theorem Post.cases {S : Sim} {o : Out} {e : Exit} {a : Act} {w : World} (h : Post S N o e a w) :
    (∃ fr1 st1 S', o = (.nx, fr1, st1) ∧ e = .normal ∧ S'.w = w ∧ S'.st = st1 ∧ S'.B = S.B ∧ S'.A = S.A ∧ Step S S' ∧ Beg S' N fr1 a) ∨ (e ≠ .normal ∧ o.1 ≠ .nx) := by
  obtain ⟨S', h1, h2, h3, h4, h5, h6, h7, h8⟩ := h
  obtain ⟨ex, fr1, st1⟩ := o
  cases ex with
  | nx =>
    cases e with
    | normal => exact .inl ⟨fr1, st1, S', rfl, rfl, h1, h2, h3, h4, h5, h5.inv, h6, h7⟩
    | _ => simp [ExOk] at h8
  | ex i => cases e <;> first | (simp [ExOk] at h8; done) | (exact .inr ⟨by simp, by simp⟩)
  | rt => cases e <;> first | (simp [ExOk] at h8; done) | (exact .inr ⟨by simp, by simp⟩)
  | pn x => cases e <;> first | (simp [ExOk] at h8; done) | (exact .inr ⟨by simp, by simp⟩)

theorem code_step {n : Nat} (hmix : P.follows .mixedOrders = true) (hC : CallOk P (callOf T (run T n))) (hM : Mild kd (callOf T (run T n))) (ih : CodeOk P T kd n) (ihl : LoopOk P T kd n) : CodeOk P T kd (n + 1) ∧ LoopOk P T kd (n + 1) := by
  have loop : LoopOk P T kd (n + 1) := by
    intro N ks c b sc fr S a out hs hsc he hb
    simp only [run] at he
    split at he
    · rename_i fr1 st1 h1
      refine wp_mono (ih N c b sc _ S a _ hs hsc h1 (hb.only ks)) fun e a' w' hp => ?_
      rcases hp.cases with ⟨f, s, S', ho, rfl, rfl, hst, hB, hA, hstep, hb'⟩ | ⟨_, h⟩
      · cases ho
        exact rounds_mono (fun e a w h => Post.step hB hA hstep h) n a' S'.w (ihl N ks c b sc _ S' a' out hs hsc (by rw [hst]; exact he) hb')
      · exact absurd rfl h
    · rename_i o hno
      refine wp_mono (ih N c b sc _ S a _ hs hsc he (hb.only ks)) fun e a' w' hp => ?_
      rcases hp.cases with ⟨f, s, S', ho, _⟩ | ⟨h, _⟩
      · rw [ho] at he; exact absurd he (hno f s)
      · cases e with
        | normal => exact absurd rfl h
        | _ => exact hp
  refine ⟨?_, loop⟩
  intro N c b sc fr S a out hs hsc he hb
  cases c with
  | skip =>
    simp only [strip, Option.some.injEq] at hs; subst hs
    cases sc <;> simp only [erase] at hsc <;> first | (cases hsc; done) | skip
    simp only [run, Option.some.injEq] at he; subst he
    exact wp_skip ⟨S, rfl, rfl, rfl, rfl, Step.refl hb.inv, hb.size, hb.fr, trivial⟩
  | region id ops draw =>
    simp only [strip] at hs
    split at hs
    · rename_i l hl
      split at hs
      · rename_i hd
        subst hd
        split at hs
        · rename_i hok
          cases hs
          cases sc <;> simp only [erase] at hsc <;> first | (cases hsc; done) | skip
          simp only [SCode.region.injEq] at hsc
          obtain ⟨hsc, rfl⟩ := hsc
          have hsc : _ = l := hsc
          subst hsc
          simp only [run] at he
          split at he
          · rename_i fr1 st1 h1
            cases he
            exact draw_sound hC hM hmix hl hok (fun h => by cases h) h1 hb.inv hb.size hb.fr
          · simp at he
        · split at hs
          · rename_i hok
            cases hs
            cases sc <;> simp only [erase] at hsc <;> first | (cases hsc; done) | skip
            cases hsc
            simp only [run] at he
            split at he
            · rename_i fr1 st1 h1
              split at he
              · rename_i hfr
                cases he
                exact draw_sound hC hM hmix hl hok (fun _ => hfr) h1 hb.inv hb.size hb.fr
              · cases he
            · cases he
          · cases hs
      · rename_i hd
        have : draw = false := by simpa using hd
        subst this
        cases hs
        cases sc <;> simp only [erase] at hsc <;> first | (cases hsc; done) | skip
        rename_i l' d'
        simp only [SCode.region.injEq] at hsc
        obtain ⟨hsc, rfl⟩ := hsc
        simp only [run] at he
        have he' : evOps (callOf T (run T n)) l' fr S.st = some out := by
          split at he
          · rename_i h1; rw [h1]; exact he
          · simpa using he
        exact wp_region_list (ops_sound hC ops.toList l l' fr S a hl hsc he' rfl rfl (Step.refl hb.inv) hb.size hb.fr)
    · cases hs
  | seq x y =>
    simp only [strip] at hs
    split at hs
    · rename_i sx sy hx hy
      cases hs
      cases sc <;> simp only [erase] at hsc <;> first | (cases hsc; done) | skip
      rename_i ks ca cb
      simp only [SCode.seq.injEq, true_and] at hsc
      simp only [run] at he
      split at he
      · rename_i fr1 st1 h1
        refine wp_seq (wp_mono (ih N x sx ca fr S a _ hx hsc.1 h1 hb) fun e a' w' hp => ?_)
        rcases hp.cases with ⟨f, s, S', ho, rfl, rfl, hst, hB, hA, hstep, hb'⟩ | ⟨_, h⟩
        · cases ho
          exact wp_mono (ih N y sy cb _ S' a' out hy hsc.2 (by rw [hst]; exact he) (hb'.only ks)) fun e a w h => Post.step hB hA hstep h
        · exact absurd rfl h
      · rename_i o hno
        refine wp_seq (wp_mono (ih N x sx ca fr S a _ hx hsc.1 he hb) fun e a' w' hp => ?_)
        rcases hp.cases with ⟨f, s, S', ho, _⟩ | ⟨h, _⟩
        · rw [ho] at he; exact absurd he (hno f s)
        · cases e with
          | normal => exact absurd rfl h
          | _ => exact hp
    · cases hs
  | cond q x y =>
    simp only [strip] at hs
    split at hs
    · rename_i sq sx sy hq hx hy
      cases hs
      cases sc <;> simp only [erase] at hsc <;> first | (cases hsc; done) | skip
      rename_i cq ca cb
      simp only [SCode.cond.injEq] at hsc
      obtain ⟨rfl, hsa, hsb⟩ := hsc
      simp only [run] at he
      split at he
      · rename_i h1
        have hr := (stripX_rep hb.fr hq h1).bool_inv
        exact wp_cond_true hr (ih N x sx ca fr S a out hx hsa he hb)
      · rename_i h1
        have hr := (stripX_rep hb.fr hq h1).bool_inv
        exact wp_cond_false hr (ih N y sy cb fr S a out hy hsb he hb)
      · cases he
    · cases hs
  | block id c =>
    simp only [strip] at hs
    rw [Option.map_eq_some_iff] at hs
    obtain ⟨sc', hc, rfl⟩ := hs
    cases sc <;> simp only [erase] at hsc <;> first | (cases hsc; done) | skip
    rename_i id' cc
    simp only [SCode.block.injEq] at hsc
    obtain ⟨rfl, hsc⟩ := hsc
    simp only [run] at he
    split at he
    · rename_i i fr1 st1 h1
      refine wp_block (wp_mono (ih N c sc' cc fr S a _ hc hsc h1 hb) fun e a' w' hp => ?_)
      obtain ⟨S', p1, p2, p3, p4, p5, p6, p7, p8⟩ := hp
      cases e with
      | exit j =>
        simp only [ExOk] at p8; subst p8
        simp only [Exit.inBlock]
        split at he
        · rename_i hi; subst hi
          cases he
          simp only [if_true]
          exact ⟨S', p1, p2, p3, p4, p5, p6, p7, trivial⟩
        · rename_i hi
          cases he
          rw [if_neg hi]
          exact ⟨S', p1, p2, p3, p4, p5, p6, p7, rfl⟩
      | _ => simp [ExOk] at p8
    · rename_i o hno
      refine wp_block (wp_mono (ih N c sc' cc fr S a _ hc hsc he hb) fun e a' w' hp => ?_)
      cases e with
      | exit j =>
        obtain ⟨S', p1, p2, p3, p4, p5, p6, p7, p8⟩ := hp
        obtain ⟨ex, fr1, st1⟩ := out
        cases ex with
        | ex i => exact absurd he (hno i fr1 st1)
        | _ => simp [ExOk] at p8
      | _ => exact hp
  | loop c =>
    simp only [strip] at hs
    rw [Option.map_eq_some_iff] at hs
    obtain ⟨sc', hc, rfl⟩ := hs
    cases sc <;> simp only [erase] at hsc <;> first | (cases hsc; done) | skip
    rename_i ks cc
    simp only [SCode.loop.injEq, true_and] at hsc
    exact wp_loop_rounds (n + 1) (loop N ks c sc' cc fr S a out hc hsc he hb)
  | exit id =>
    simp only [strip, Option.some.injEq] at hs; subst hs
    cases sc <;> simp only [erase] at hsc <;> first | (cases hsc; done) | skip
    cases hsc
    simp only [run, Option.some.injEq] at he; subst he
    exact wp_exit ⟨S, rfl, rfl, rfl, rfl, Step.refl hb.inv, hb.size, hb.fr, rfl⟩
  | ret =>
    simp only [strip, Option.some.injEq] at hs; subst hs
    cases sc <;> simp only [erase] at hsc <;> first | (cases hsc; done) | skip
    simp only [run, Option.some.injEq] at he; subst he
    exact wp_ret ⟨S, rfl, rfl, rfl, rfl, Step.refl hb.inv, hb.size, hb.fr, trivial⟩
  | _ => simp [strip] at hs

end

end VS
end Go.Proofs.Ytkhekmmldnjenaa
/- Functions: their arguments, their memory, their results. -/
namespace Go.Proofs.Ytkhekmmldnjenaa
namespace VS

/-- A value that carries no room and no address of one's own. -/
def AV.Clean (x : AV) : Prop := clean1 x = some x ∨ ∃ cs, x = .agg cs ∧ ∀ c ∈ cs, clean1 c = some c

mutual
/-- A clean value in another memory that reads alike. -/
theorem Rep.move {S S' : Sim} (hs : ∀ g lo k, S.safe g lo k → S'.safe g lo k) (hc : ∀ g lo k, S.safe g lo k → ∀ i, i < k → S'.w.cell? ⟨g, lo + i, none⟩ = S.w.cell? ⟨g, lo + i, none⟩) :
    ∀ {a : AV} {y : Value}, Rep S a y → clean1 a = some a → Rep S' a y
  | _, _, .v h, _ => .v h
  | _, _, @Rep.sl _ cs n t g off cap ys h1 h2 h3 hl h5 ho hk ht, hcl => by
      have hne : t ≠ .ptrs := by intro h; subst h; simp [clean1] at hcl
      have hro : t = .ro := by simp only [clean1, if_neg hne, Option.some.injEq, AV.sl.injEq, true_and] at hcl; exact hcl.symm
      subst hro
      exact .sl h1 h2 (hs _ _ _ h3) (RepL.move hs hc hl (hk hne)) (fun i y hy => (hc _ _ _ h3 i (by rw [← hl.length]; exact (List.getElem?_eq_some_iff.1 hy).1)).trans (h5 i y hy)) ho hk trivial
  | _, _, .agg _ _, hcl => by simp [clean1] at hcl
  | _, _, .tup _, hcl => by simp [clean1] at hcl
  | _, _, .ptr _, hcl => by simp [clean1] at hcl
  | _, _, .ep _ _ _ _, hcl => by simp [clean1] at hcl
  | _, _, .hs _ _ _ _ _, hcl => by simp [clean1] at hcl
  | _, _, @Rep.fn _ f caps ys hl, hcl => by
      cases hl with
      | nil => exact .fn .nil
      | cons => simp [clean1] at hcl
  | _, _, .ifc _, hcl => by simp [clean1] at hcl
theorem RepL.move {S S' : Sim} (hs : ∀ g lo k, S.safe g lo k → S'.safe g lo k) (hc : ∀ g lo k, S.safe g lo k → ∀ i, i < k → S'.w.cell? ⟨g, lo + i, none⟩ = S.w.cell? ⟨g, lo + i, none⟩) :
    ∀ {l : List AV} {m : List Value}, RepL S l m → (∀ c ∈ l, clean1 c = some c) → RepL S' l m
  | _, _, .nil, _ => .nil
  | _, _, .cons h1 h2, h => .cons (Rep.move hs hc h1 (h _ (List.mem_cons_self ..))) (RepL.move hs hc h2 fun c hc' => h c (List.mem_cons_of_mem _ hc'))
end

theorem Rep.moveC {S S' : Sim} (hs : ∀ g lo k, S.safe g lo k → S'.safe g lo k) (hc : ∀ g lo k, S.safe g lo k → ∀ i, i < k → S'.w.cell? ⟨g, lo + i, none⟩ = S.w.cell? ⟨g, lo + i, none⟩)
    {a : AV} {y : Value} (h : Rep S a y) (hcl : a.Clean) : Rep S' a y := by
  rcases hcl with hcl | ⟨cs, rfl, hcl⟩
  · exact h.move hs hc hcl
  · cases h with
    | agg hl ho => exact .agg (hl.move hs hc hcl) ho

theorem RepL.moveC {S S' : Sim} (hs : ∀ g lo k, S.safe g lo k → S'.safe g lo k) (hc : ∀ g lo k, S.safe g lo k → ∀ i, i < k → S'.w.cell? ⟨g, lo + i, none⟩ = S.w.cell? ⟨g, lo + i, none⟩) :
    ∀ {l : List AV} {m : List Value}, RepL S l m → (∀ c ∈ l, c.Clean) → RepL S' l m
  | _, _, .nil, _ => .nil
  | _, _, .cons h1 h2, h => .cons (h1.moveC hs hc (h _ (List.mem_cons_self ..))) (RepL.moveC hs hc h2 fun c hc' => h c (List.mem_cons_of_mem _ hc'))

theorem exp1_rep {S : Sim} (I : Inv S) {a x : AV} {y : Value} {st1 : St} (h : exp1 S.st a = some (x, st1)) (hr : Rep S a y) : ∃ S1, Frz S S1 st1 ∧ Rep S1 x y ∧ x.Clean := by
  unfold exp1 at h
  split at h
  · split at h
    · rename_i l s1 h1
      cases h
      cases hr with
      | agg hl ho =>
        obtain ⟨S1, f1, r1, c1⟩ := expL_rep I h1 hl
        exact ⟨S1, f1, .agg r1 (clean_one c1), .inr ⟨_, rfl, c1⟩⟩
    · cases h
  · obtain ⟨S1, f1, r1, c1⟩ := exp0_rep I h hr
    exact ⟨S1, f1, r1, .inl c1⟩

theorem expA_rep : ∀ {l m : List AV} {S : Sim} {ys : List Value} {st1 : St}, Inv S → expA S.st l = some (m, st1) → RepL S l ys → ∃ S1, Frz S S1 st1 ∧ RepL S1 m ys ∧ ∀ c ∈ m, c.Clean
  | [], m, S, _, st1, I, h, .nil => by
    simp only [expA, Option.some.injEq, Prod.mk.injEq] at h
    obtain ⟨rfl, rfl⟩ := h
    exact ⟨S, Frz.refl I, .nil, by simp⟩
  | a :: r, m, S, _, st1, I, h, .cons hr hl => by
    simp only [expA] at h
    split at h
    · rename_i x s1 h1
      split at h
      · rename_i l s2 h2
        cases h
        obtain ⟨S1, f1, r1, c1⟩ := exp1_rep I h1 hr
        obtain ⟨S2, f2, r2, c2⟩ := expA_rep (S := S1) f1.inv (by rw [f1.st]; exact h2) (hl.ext f1.ext)
        exact ⟨S2, f1.trans f2, .cons (r1.ext f2.ext) r2, by simpa using ⟨c1, c2⟩⟩
      · cases h
    · cases h

/-- A result, carried out of a callee's memory. -/
theorem expR_rep {S S2 : Sim} (I : Inv S) {a x : AV} {y : Value} (h : expR S.st a = some x) (hr : Rep S a y)
    (hs : ∀ S1 st1, Frz S S1 st1 → ∀ g lo k, S1.safe g lo k → S2.safe g lo k) (hw : S2.w = S.w) : Rep S2 x y := by
  have hc : ∀ S1 st1, Frz S S1 st1 → ∀ g lo k, S1.safe g lo k → ∀ i, i < k → S2.w.cell? ⟨g, lo + i, none⟩ = S1.w.cell? ⟨g, lo + i, none⟩ := fun S1 st1 f g lo k _ i _ => by rw [hw, f.w]
  unfold expR at h
  split at h
  · rw [Option.map_eq_some_iff] at h
    obtain ⟨p, hp, rfl⟩ := h
    cases hr with
    | tup hl =>
      obtain ⟨S1, f, r, c⟩ := expA_rep (m := p.1) (st1 := p.2) I hp hl
      exact .tup (r.moveC (hs _ _ f) (hc _ _ f) c)
  · rw [Option.map_eq_some_iff] at h
    obtain ⟨p, hp, rfl⟩ := h
    cases hr with
    | ifc hx =>
      obtain ⟨S1, f, r, c⟩ := exp1_rep (x := p.1) (st1 := p.2) I hp hx
      exact .ifc (r.moveC (hs _ _ f) (hc _ _ f) c)
  · rw [Option.map_eq_some_iff] at h
    obtain ⟨p, hp, rfl⟩ := h
    obtain ⟨S1, f, r, c⟩ := exp1_rep (x := p.1) (st1 := p.2) I hp hr
    exact r.moveC (hs _ _ f) (hc _ _ f) c

section
variable {P : Program}

def resOf (tmps : Array Value) (r : ResultVar) : Sem Value := match r with
  | .tmp t => pure (tmps.getD t undef)
  | .cell a t => do loadVar t (← asAddr (tmps.getD a undef))

theorem takeRes_run {S : Sim} (I : Inv S) {l : List (Nat × AV)} {tmps : Array Value} (hl : ∀ (i : Nat) (x : AV), look l i = some x → ∃ y, tmps[i]? = some y ∧ Rep S x y) {r : ResultVar} {sr : SRes} {rs : List SRes}
    (hs : stripRes P [r] = some (sr :: rs)) {x : AV} (h : takeRes l S.st.H sr = some x) :
    ∃ y, (resOf tmps r).run P S.w = .ok y S.w ∧ Rep S x y := by
  cases r with
  | tmp t =>
    simp only [stripRes, Option.map_some, Option.some.injEq, List.cons.injEq] at hs
    obtain ⟨rfl, rfl⟩ := hs
    simp only [takeRes] at h
    obtain ⟨y, h1, h2⟩ := hl _ _ h
    exact ⟨y, by simp [resOf, Array.getD_eq_getD_getElem?, h1], h2⟩
  | cell a t =>
    simp only [stripRes] at hs
    split at hs
    · rename_i k l' hk hl'
      cases hl'
      cases hs
      simp only [takeRes] at h
      split at h
      · rename_i b off hla
        split at h
        · rename_i hb hH
          obtain ⟨y, h1, h2⟩ := hl _ _ hla
          cases h2 with
          | ptr hg =>
            obtain ⟨g', ys, hg', hrl, hone, hcell⟩ := block_cells I hH
            rw [hg] at hg'; cases hg'
            have hp : partOf hb.cells off k = some x := by
              cases k with
              | none => exact h
              | some n => exact h
            obtain ⟨z, hz, hr⟩ := load_part hk hrl hone hcell hp
            refine ⟨z, ?_, hr⟩
            simp only [Nat.zero_add] at hz
            simp [resOf, Array.getD_eq_getD_getElem?, h1, asAddr, hz]
        · cases h
      · cases h
    · cases hs

theorem takeRess_run {S : Sim} (I : Inv S) {l : List (Nat × AV)} {tmps : Array Value} (hl : ∀ (i : Nat) (x : AV), look l i = some x → ∃ y, tmps[i]? = some y ∧ Rep S x y) : ∀ {rv : List ResultVar} {sr : List SRes} {xs : List AV},
    stripRes P rv = some sr → takeRess l S.st.H sr = some xs →
    ∃ ys, (rv.mapM (resOf tmps)).run P S.w = .ok ys S.w ∧ RepL S xs ys
  | [], sr, xs, hs, h => by
    simp only [stripRes, Option.some.injEq] at hs; subst hs
    simp only [takeRess, Option.some.injEq] at h; subst h
    exact ⟨[], by simp, .nil⟩
  | r :: rv, sr, xs, hs, h => by
    have : ∃ a rs, sr = a :: rs ∧ stripRes P [r] = some [a] ∧ stripRes P rv = some rs := by
      cases r with
      | tmp t =>
        simp only [stripRes] at hs
        rw [Option.map_eq_some_iff] at hs
        obtain ⟨rs, h1, rfl⟩ := hs
        exact ⟨_, rs, rfl, rfl, h1⟩
      | cell a t =>
        simp only [stripRes] at hs
        split at hs
        · rename_i k l' hk hl'
          cases hs
          exact ⟨_, l', rfl, by simp only [stripRes, hk], hl'⟩
        · cases hs
    obtain ⟨a, rs, rfl, h1, h2⟩ := this
    simp only [takeRess] at h
    split at h
    · rename_i x xs' hx hxs
      cases h
      obtain ⟨y, hy, hry⟩ := takeRes_run I hl h1 hx
      obtain ⟨ys, hys, hrys⟩ := takeRess_run I hl h2 hxs
      refine ⟨y :: ys, ?_, .cons hry hrys⟩
      simp only [List.mapM_cons, Sem.run_bind, hy, Result.andThen_ok, hys, Sem.run_pure]
    · cases h

theorem results_run {S : Sim} (I : Inv S) {fn : Func} {l : List (Nat × AV)} {tmps : Array Value} (hl : ∀ (i : Nat) (x : AV), look l i = some x → ∃ y, tmps[i]? = some y ∧ Rep S x y) {sr : List SRes} {xs : List AV}
    (hs : stripRes P fn.results.toList = some sr) (h : takeRess l S.st.H sr = some xs) : ∃ v, (results fn tmps).run P S.w = .ok v S.w ∧ Rep S (pack xs) v := by
  obtain ⟨ys, h1, h2⟩ := takeRess_run I hl hs h
  have e : results fn tmps = (do let vs ← fn.results.mapM (resOf tmps); pure (if h : vs.size = 1 then vs[0] else .tuple vs)) := rfl
  rw [e, Array.mapM_eq_mapM_toList]
  simp only [Sem.run_bind, map_eq_pure_bind, h1, Result.andThen_ok, Sem.run_pure]
  cases h2 with
  | nil => exact ⟨_, by simp, .tup .nil⟩
  | cons hr hl =>
    cases hl with
    | nil => exact ⟨_, by simp, hr⟩
    | cons hr2 hl2 => exact ⟨_, by simp, .tup (.cons hr (.cons hr2 hl2))⟩

end

end VS
end Go.Proofs.Ytkhekmmldnjenaa
/- Calls of functions: sound, for every amount of fuel. -/
namespace Go.Proofs.Ytkhekmmldnjenaa
namespace VS

theorem look_init : ∀ {args : List AV} {k i : Nat} {x : AV}, look (initFr k args) i = some x → k ≤ i ∧ args[i - k]? = some x
  | [], k, i, x, h => by simp [initFr, look] at h
  | a :: r, k, i, x, h => by
    simp only [initFr, look_put] at h
    split at h
    · rename_i hk; subst hk; cases h; exact ⟨Nat.le_refl _, by simp⟩
    · obtain ⟨h1, h2⟩ := look_init h
      refine ⟨by omega, ?_⟩
      have : i - k = (i - (k + 1)) + 1 := by omega
      rw [this]; simpa using h2

theorem begin_ok {S : Sim} (I : Inv S) {args : List AV} {ys : List Value} (h : RepL S args ys) {n : Nat} (hn : args.length ≤ n) :
    Beg S n { s := initFr 0 args, d := [] } { tmps := ys.toArray ++ Array.replicate (n - ys.toArray.size) undef, defers := [] } := by
  have hl := h.length
  refine ⟨I, by simp; omega, fun i x hx => ?_, .nil⟩
  obtain ⟨_, h2⟩ := look_init hx
  simp only [Nat.sub_zero] at h2
  obtain ⟨y, hy, hr⟩ := h.get i x h2
  have hi := (List.getElem?_eq_some_iff.1 hy).1
  exact ⟨y, by rw [Array.getElem?_append_left (by simpa using hi)]; simpa using hy, hr⟩

theorem DRep.nil_inv {S : Sim} {m : List Deferred} (h : DRep S [] m) : m = [] := by cases h; rfl

section
variable {P : Program} {T : FuncId → Option SFn} {kd : FuncId → Kind}

theorem stripFn_inv {f : FuncId} {fn : Func} {s : SFn} (h : stripFn P kd f fn = some s) :
    ∃ c0 c, fn.body = some c0 ∧ bodyOf (kd f) fn.ntmps c0 = some c ∧ fn.name ≠ "runtime.NumGoroutine" ∧ (s.np ≤ fn.ntmps ∧ s.np < 1000) ∧ (∃ b, strip P kd fn.ntmps c = some b ∧ erase s.body = erase b) ∧ stripRes P fn.results.toList = some s.res ∧ s.kind = kd f ∧ (kd f = .grow → mildC kd s.body = true) := by
  unfold stripFn at h
  split at h
  · cases h
  · rename_i hn
    split at h
    · rename_i c0 hc0
      split at h
      · rename_i c hc
        split at h
        · rename_i hle
          split at h
          · rename_i b r hb hr
            split at h
            · cases h
            · rename_i hm
              cases h
              exact ⟨c0, c, hc0, hc, hn, hle, ⟨_, hb, (erase_mark _ _ _ _).trans (erase_thawIf _ _ _)⟩, hr, rfl, fun hk => by simpa [hk] using hm⟩
          · cases h
        · cases h
      · cases h
    · cases h

theorem bodyOf_eq {k : Kind} {N : Nat} {c0 c : Code} (hk : ∀ r x, k ≠ .catch r x) (h : bodyOf k N c0 = some c) : c0 = c := by
  cases k <;> first | exact absurd rfl (hk _ _) | (simpa [bodyOf] using h)

theorem callable_of {f : FuncId} {fn : Func} {c : Code} (hf : P.funcs[f]? = some fn) (hb : fn.body = some c) (hn : fn.name ≠ "runtime.NumGoroutine") : Callable P f := by
  intro args w
  simp [callFunc, hf, hb, hn]

/-- Where a function ends. -/
def CallsTo (P : Program) (S : Sim) (f : FuncId) (ys : List Value) (r : Res) (st : St) : Prop :=
  Calls P f ys.toArray S.w fun e w' => ∃ S', S'.w = w' ∧ S'.st = st ∧ S'.B = S.B ∧ S'.A = S.A ∧ Step S S' ∧ EndOk S' r e

theorem inner_ok {n : Nat} (hcode : CodeOk P T kd n) {f : FuncId} {fn : Func} {s : SFn} (hf : P.funcs[f]? = some fn) (hs : stripFn P kd f fn = some s) (hnc : ∀ r x, s.kind ≠ .catch r x) {args : List AV} {st st' : St} {r : Res}
    (hi : inner (run T n) s args st = some (r, st')) (hlen : args.length = s.np) {S : Sim} {ys : List Value} (hst : S.st = st) (I : Inv S) (hr : RepL S args ys) : CallsTo P S f ys r st' := by
  obtain ⟨c0, c, hb, hbo, hn, ⟨hle, _⟩, ⟨b, hstrip, her⟩, hres, hkd, _⟩ := stripFn_inv hs
  rw [hkd] at hnc
  have := bodyOf_eq hnc hbo
  subst this
  subst hst
  have hbeg := begin_ok I hr (n := fn.ntmps) (by omega)
  have fin : ∀ (S' : Sim) (fr : Fr) (a : Act) (xs : List AV), Inv S' → FrOk S' fr a → fr.d = [] → takeRess fr.s S'.st.H s.res = some xs → a.defers = [] ∧ ∃ v, (results fn a.tmps).run P S'.w = .ok v S'.w ∧ Rep S' (pack xs) v := by
    intro S' fr a xs I' hfr hd hx
    refine ⟨?_, results_run I' hfr.s hres hx⟩
    have := hfr.d
    rw [hd] at this
    exact this.nil_inv
  unfold inner at hi
  split at hi
  · rename_i fr st1 he
    split at hi
    · rename_i hd
      split at hi
      · rename_i xs hx
        cases hi
        refine calls_of_wp hf hb (wp_mono (hcode _ c0 b _ _ S _ _ hstrip her he hbeg) fun e a w hp => ?_)
        obtain ⟨S', rfl, p2, p3, p4, p5, p6, p7, p8⟩ := hp
        cases e with
        | normal =>
          obtain ⟨h1, v, h2, h3⟩ := fin S' fr a xs p5.inv p7 hd (by rw [p2]; exact hx)
          exact ⟨h1, v, h2, S', rfl, p2, p3, p4, p5, h3⟩
        | _ => simp [ExOk] at p8
      · cases hi
    · cases hi
  · rename_i fr st1 he
    split at hi
    · rename_i hd
      split at hi
      · rename_i xs hx
        cases hi
        refine calls_of_wp hf hb (wp_mono (hcode _ c0 b _ _ S _ _ hstrip her he hbeg) fun e a w hp => ?_)
        obtain ⟨S', rfl, p2, p3, p4, p5, p6, p7, p8⟩ := hp
        cases e with
        | ret =>
          obtain ⟨h1, v, h2, h3⟩ := fin S' fr a xs p5.inv p7 hd (by rw [p2]; exact hx)
          exact ⟨h1, v, h2, S', rfl, p2, p3, p4, p5, h3⟩
        | _ => simp [ExOk] at p8
      · cases hi
    · cases hi
  · rename_i x fr st1 he
    split at hi
    · rename_i hd
      cases hi
      refine calls_of_wp hf hb (wp_mono (hcode _ c0 b _ _ S _ _ hstrip her he hbeg) fun e a w hp => ?_)
      obtain ⟨S', rfl, p2, p3, p4, p5, p6, p7, p8⟩ := hp
      have hd2 : a.defers = [] := by
        have := p7.d
        change DRep S' fr.d a.defers at this
        rw [hd] at this
        exact this.nil_inv
      cases e with
      | panic ch =>
        cases ch with
        | nil => simp [ExOk] at p8
        | cons q l =>
          cases l with
          | nil => exact ⟨hd2, S', rfl, p2, p3, p4, p5, p8⟩
          | cons => simp [ExOk] at p8
      | _ => simp [ExOk] at p8
    · cases hi
  · cases hi

/-- The memory of a callee: empty; what may be read outside is what is safe. -/
def Sim.inside (S : Sim) : Sim := { w := S.w, hm := [], rm := [], st := .mt, B := S.w.heap.size, A := S.safe }

theorem inside_inv {S : Sim} (I : Inv S) : Inv S.inside :=
  ⟨Nat.le_refl _, rfl, rfl, fun b g h => by simp [Sim.inside] at h, fun b g fl h => by simp [Sim.inside] at h, fun b b' g h => by simp [Sim.inside] at h, fun b b' g fl fl' h => by simp [Sim.inside] at h,
    fun b r g fl h => by simp [Sim.inside] at h, fun _ _ _ _ _ h h1 h2 => Sim.safe.sub I h h1 h2⟩

theorem inside_safe {S : Sim} {g lo k : Nat} (h : S.safe g lo k) : S.inside.safe g lo k :=
  ⟨fun _ => h, h.2.1, fun b hb => by simp [Sim.inside] at hb, fun r fl hr => by simp [Sim.inside] at hr⟩

theorem inner_in {n : Nat} (hcode : CodeOk P T kd n) {f : FuncId} {fn : Func} {s : SFn} (hf : P.funcs[f]? = some fn) (hs : stripFn P kd f fn = some s) (hnc : ∀ r x, s.kind ≠ .catch r x) {args : List AV} {st' : St} {r : Res}
    (hi : inner (run T n) s args .mt = some (r, st')) (hlen : args.length = s.np) {S0 : Sim} {w : World} {ys : List Value} (hw : S0.w = w) (I : Inv S0) (hr : RepL S0.inside args ys) :
    Calls P f ys.toArray w fun e w' => ∃ S1, S1.w = w' ∧ S1.st = st' ∧ S1.B = S0.inside.B ∧ S1.A = S0.inside.A ∧ Step S0.inside S1 ∧ EndOk S1 r e := by
  subst hw
  exact inner_ok hcode hf hs hnc hi hlen (S := S0.inside) rfl (inside_inv I) hr

theorem keeps_of {S S1 : Sim} (h : Step S.inside S1) : Keeps S.w S1.w := ⟨h.below.size, fun k hk => h.below.block k hk⟩

/-- What is safe behind a callee, is safe in the caller's memory. -/
theorem outside_safe {S S1 S2 : Sim} (I : Inv S) (hB : S1.B = S.w.heap.size) (hA : S1.A = S.safe) (hw : S2.w = S1.w) {g lo k : Nat} (h : S1.safe g lo k)
    (h2B : S2.B = S.B) (h2A : S2.A = S.A) (hhm : S2.hm = S.hm) (hH : S2.st.H = S.st.H) (hrm : ∀ (r fl : Nat), S2.rm[r]? = some (g, fl) → g < S.w.heap.size → S.rm[r]? = some (g, fl))
    (hrm2 : ∀ (r fl : Nat), S2.rm[r]? = some (g, fl) → S.w.heap.size ≤ g → lo + k ≤ fl) : S2.safe g lo k := by
  obtain ⟨h1, h2, h3, h4⟩ := h
  rcases Nat.lt_or_ge g S.w.heap.size with hg | hg
  · have hs : S.safe g lo k := by
      have := h1 (by rw [hB]; exact hg)
      rw [hA] at this; exact this
    refine ⟨by rw [h2B, h2A]; exact hs.1, by rw [hw]; exact h2, by rw [hhm, hH]; exact hs.2.2.1, fun r fl hr => hs.2.2.2 r fl (hrm r fl hr hg)⟩
  · refine ⟨fun hb => ?_, by rw [hw]; exact h2, fun b hb => ?_, fun r fl hr => hrm2 r fl hr hg⟩
    · have := I.hB
      rw [h2B] at hb; omega
    · rw [hhm] at hb
      obtain ⟨_, _, c, ty, _, hc, _⟩ := I.blk b g hb
      have := heap_lt hc; omega

theorem frz_out {S S1 S2 : Sim} (I : Inv S) (h : Step S.inside S1) (f1 : S1.B = S.w.heap.size) (f2 : S1.A = S.safe) (hw : S2.w = S1.w) (h2B : S2.B = S.B) (h2A : S2.A = S.A) (hhm : S2.hm = S.hm) (hH : S2.st.H = S.st.H) (hrm : S2.rm = S.rm) :
    ∀ S' st', Frz S1 S' st' → ∀ g lo k, S'.safe g lo k → S2.safe g lo k := fun S' st' f g lo k hs =>
  outside_safe I (f.B.trans f1) (f.A.trans f2) (hw.trans f.w.symm) hs h2B h2A hhm hH (fun r fl hr _ => by rw [← hrm]; exact hr) (fun r fl hr hg => by
    rw [hrm] at hr
    obtain ⟨_, c, ty, hc, _⟩ := I.rowb r g fl hr
    have := heap_lt hc
    have := h.below.size
    omega)

theorem class_le {C : CallF} (hM : Mild kd C) {fr : Fr} {st st1 : St} {op : SOp} {r : ORes} (hc : opClass kd op ≤ 2) (h : evOp C fr st op = some (r, st1)) : stLe st st1 := by
  rcases Nat.lt_or_ge (opClass kd op) 2 with h2 | h2
  · rcases Nat.lt_or_ge (opClass kd op) 1 with h1 | h1
    · rw [(class0 (kd := kd) (by omega) h).1]; exact stLe.refl _
    · rw [(class1 hM (by omega) h).1]; exact stLe.refl _
  · exact class2 hM (by omega) h

theorem ops_mild {C : CallF} (hM : Mild kd C) : ∀ {ops : List SO} {fr : Fr} {st : St} {out : Out}, ops.all (fun o => decide (opClass kd o.op ≤ 2)) = true → evOps C ops fr st = some out → stLe st out.2.2
  | [], fr, st, out, _, h => by simp only [evOps, Option.some.injEq] at h; subst h; exact stLe.refl _
  | o :: r, fr, st, out, hc, h => by
    simp only [List.all_cons, Bool.and_eq_true, decide_eq_true_eq] at hc
    simp only [evOps] at h
    split at h
    · cases h
    · exact ops_mild hM hc.2 h
    · split at h
      · cases h
      · rename_i hev; exact (class_le hM hc.1 hev).trans (ops_mild hM hc.2 h)
      · rename_i hev; cases h; exact class_le hM hc.1 hev
      · rename_i hev; exact (class_le hM hc.1 hev).trans (ops_mild hM hc.2 h)

def MildC (T : FuncId → Option SFn) (kd : FuncId → Kind) (n : Nat) : Prop :=
  ∀ (c : SCode) (fr : Fr) (st : St) (out : Out), mildC kd c = true → run T n c fr st = some out → stLe st out.2.2

theorem code_mild {n : Nat} (hM : Mild kd (callOf T (run T n))) (ih : MildC T kd n) : MildC T kd (n + 1) := by
  intro c fr st out hc h
  cases c with
  | skip => simp only [run, Option.some.injEq] at h; subst h; exact stLe.refl _
  | region ops draw =>
    simp only [run] at h
    split at h
    · rename_i he; cases h; exact ops_mild hM hc he
    · split at h
      · cases h
      · exact ops_mild hM hc h
  | regionF ops =>
    simp only [run] at h
    split at h
    · rename_i he
      split at h
      · cases h; exact ops_mild hM hc he
      · cases h
    · cases h
  | seq ks a b =>
    simp only [mildC, Bool.and_eq_true] at hc
    simp only [run] at h
    split at h
    · rename_i he; exact (ih _ _ _ _ hc.1 he).trans (ih _ _ _ _ hc.2 h)
    · exact ih _ _ _ _ hc.1 h
  | cond x a b =>
    simp only [mildC, Bool.and_eq_true] at hc
    simp only [run] at h
    split at h
    · exact ih _ _ _ _ hc.1 h
    · exact ih _ _ _ _ hc.2 h
    · cases h
  | block id c =>
    simp only [mildC] at hc
    simp only [run] at h
    split at h
    · rename_i he
      have := ih _ _ _ _ hc he
      split at h <;> (cases h; exact this)
    · exact ih _ _ _ _ hc h
  | loop ks c =>
    have hc' : mildC kd c = true := by simpa only [mildC] using hc
    simp only [run] at h
    split at h
    · rename_i he; exact (ih _ _ _ _ hc' he).trans (ih _ _ _ _ hc h)
    · exact ih _ _ _ _ hc' h
  | exit id => simp only [run, Option.some.injEq] at h; subst h; exact stLe.refl _
  | ret => simp only [run, Option.some.injEq] at h; subst h; exact stLe.refl _

theorem inner_mild {n : Nat} (ih : MildC T kd n) {s : SFn} {args : List AV} {st : St} {r : Res × St} (hc : mildC kd s.body = true) (h : inner (run T n) s args st = some r) : stLe st r.2 := by
  unfold inner at h
  split at h
  · rename_i he
    have := ih _ _ _ _ hc he
    split at h
    · split at h
      · cases h; exact this
      · cases h
    · cases h
  · rename_i he
    have := ih _ _ _ _ hc he
    split at h
    · split at h
      · cases h; exact this
      · cases h
    · cases h
  · rename_i he
    have := ih _ _ _ _ hc he
    split at h
    · cases h; exact this
    · cases h
  · cases h

theorem fresh_le {R : SCode → Fr → St → Option Out} {s : SFn} {args : List AV} {st st1 : St} {r : Res} (h : freshOf R s args st = some (r, st1)) : stLe st st1 := by
  unfold freshOf at h
  split at h
  · cases h
  · rename_i args1 st0 hx
    split at h
    · split at h
      · split at h
        · cases h
          exact (expA_le hx).trans (stLe_append _ _ _)
        · cases h
      · cases h
    · cases h; exact expA_le hx
    · rw [Option.map_eq_some_iff] at h; obtain ⟨_, _, h⟩ := h; cases h; exact expA_le hx
    · rw [Option.map_eq_some_iff] at h; obtain ⟨_, _, h⟩ := h; cases h; exact expA_le hx
    · cases h

theorem mild_le (hT : ∀ f s, T f = some s → s.kind = kd f ∧ (kd f = .grow → mildC kd s.body = true)) {n : Nat} (ih : MildC T kd n) (f : FuncId) (args : List AV) (st : St) (r : Res) (st1 : St) (hk : kd f ≠ .whole) (h : callOf T (run T n) f args st = some (r, st1)) : stLe st st1 := by
  unfold callOf at h
  split at h
  · cases h
  · rename_i s hs
    obtain ⟨hks, hgr⟩ := hT f s hs
    split at h
    · split at h
      · rename_i hw; rw [hks] at hw; exact absurd hw hk
      · rename_i hw; rw [hks] at hw; exact inner_mild ih (hgr hw) h
      · cases h
      · split at h
        · cases h
        · rename_i args1 st0 hx
          split at h
          · rw [Option.map_eq_some_iff] at h; obtain ⟨_, _, h⟩ := h; cases h; exact expA_le hx
          · cases h
      · split at h
        · cases h
        · rename_i args1 st0 hx
          split at h
          · rw [Option.map_eq_some_iff] at h; obtain ⟨_, _, h⟩ := h; cases h; exact expA_le hx
          · rw [Option.map_eq_some_iff] at h; obtain ⟨_, _, h⟩ := h; cases h; exact expA_le hx
          · cases h
      · split at h
        · cases h
        · rename_i args1 st0 hx
          split at h
          · split at h
            · split at h
              · cases h
                have := expA_le hx
                intro b hb hH
                obtain ⟨hb', h1, h2⟩ := this b hb hH
                exact ⟨hb', h1, h2⟩
              · cases h
            · cases h
          · cases h; exact expA_le hx
          · rw [Option.map_eq_some_iff] at h; obtain ⟨_, _, h⟩ := h; cases h; exact expA_le hx
          · rw [Option.map_eq_some_iff] at h; obtain ⟨_, _, h⟩ := h; cases h; exact expA_le hx
          · cases h
      · exact fresh_le h
      · split at h
        · cases h
        · split at h
          · split at h
            · split at h
              · cases h; exact stLe.refl _
              · cases h
            · cases h
          · cases h
    · split at h
      · exact fresh_le h
      · cases h

theorem mild_step (hT : ∀ f s, T f = some s → s.kind = kd f ∧ (kd f = .grow → mildC kd s.body = true)) {n : Nat} (ih : MildC T kd n) : Mild kd (callOf T (run T n)) := by
  refine ⟨mild_le hT ih, fun f args st r st1 hk h => ?_⟩
  unfold callOf at h
  split at h
  · cases h
  · rename_i s hs
    have hkp : s.kind = .pure := (hT f s hs).1.trans hk
    simp only [hkp] at h
    split at h
    · rename_i hl
      split at h
      · cases h
      · rename_i args1 st0 hx
        split at h
        · rename_i a st2 hi
          split at h
          · rename_i x hx'
            split at h
            · rename_i hsc
              cases h
              refine ⟨rfl, fun st3 hal => ?_⟩
              obtain ⟨s2, k1, _⟩ := expA_alike hx hal
              unfold callOf
              rw [hs]
              simp only [hkp, hl, if_true, k1, hi, hx']
              rw [if_pos hsc]
            · cases h
          · cases h
        · cases h
    · split at h
      · rename_i hh; cases hh.2.1
      · cases h

theorem mild_of (hT : ∀ f s, T f = some s → s.kind = kd f ∧ (kd f = .grow → mildC kd s.body = true)) (n : Nat) : MildC T kd n ∧ Mild kd (callOf T (run T n)) := by
  induction n with
  | zero =>
    have h0 : MildC T kd 0 := fun _ _ _ _ _ h => by simp [run] at h
    exact ⟨h0, mild_step hT h0⟩
  | succ n ih =>
    have h1 := code_mild ih.2 ih.1
    exact ⟨h1, mild_step hT h1⟩

/-- The end of a callee whose memory is dropped. -/
theorem drop_ok {S0 S1 : Sim} {st1 : St} {r : Res} {e : Ending} (I0 : Inv S0) (k2 : S1.st = st1) (k3 : S1.B = S0.inside.B) (k4 : S1.A = S0.inside.A) (k5 : Step S0.inside S1) {a x : AV} (hx : expR st1 a = some x)
    (hr : (r = .ret x ∧ EndOk S1 (.ret a) e) ∨ (r = .pan x ∧ EndOk S1 (.pan a) e)) : Step S0 (S0.at S1.w) ∧ EndOk (S0.at S1.w) r e := by
  have hk := keeps_of k5
  have hstep : Step S0 (S0.at S1.w) := ⟨Ext.keeps hk, Inv.keeps I0 hk, ⟨k5.below.os, k5.below.tape, k5.below.output, k5.below.size, fun k h => k5.below.block k (Nat.lt_of_lt_of_le h I0.hB)⟩⟩
  refine ⟨hstep, ?_⟩
  have key : ∀ y, Rep S1 a y → Rep (S0.at S1.w) x y := fun y hy =>
    expR_rep k5.inv (by rw [k2]; exact hx) hy (frz_out I0 k5 k3 k4 rfl rfl rfl rfl rfl rfl) rfl
  rcases hr with ⟨rfl, h⟩ | ⟨rfl, h⟩
  · cases e with
    | returned y => exact key y h
    | panicked ch => simp [EndOk] at h
    | outgrown => simp [EndOk] at h
  · cases e with
    | returned y => simp [EndOk] at h
    | panicked ch =>
      cases ch with
      | nil => simp [EndOk] at h
      | cons q l =>
        cases l with
        | nil => obtain ⟨y, rfl, hy⟩ := h; exact ⟨y, rfl, key y hy⟩
        | cons => simp [EndOk] at h
    | outgrown => simp [EndOk] at h

/-- The end of a callee that hands on a slice behind which there is no room. -/
theorem full_ok {S0 S1 : Sim} (I0 : Inv S0) (k3 : S1.B = S0.inside.B) (k4 : S1.A = S0.inside.A) (k5 : Step S0.inside S1) {cs : List AV} {n : Nat} {y : Value} (hr : Rep S1 (.sl cs n .full) y) :
    Step S0 (S0.at S1.w) ∧ Rep (S0.at S1.w) (.sl cs n .full) y := by
  have hk := keeps_of k5
  refine ⟨⟨Ext.keeps hk, Inv.keeps I0 hk, ⟨k5.below.os, k5.below.tape, k5.below.output, k5.below.size, fun k h => k5.below.block k (Nat.lt_of_lt_of_le h I0.hB)⟩⟩, ?_⟩
  have hsafe : ∀ g lo k, S1.safe g lo k → (S0.at S1.w).safe g lo k := frz_out (S2 := S0.at S1.w) I0 k5 k3 k4 rfl rfl rfl rfl rfl rfl S1 S1.st (Frz.refl k5.inv)
  cases hr with
  | sl h1 h2 h3 hl h5 ho hcl ht => exact .sl h1 h2 (hsafe _ _ _ h3) (hl.move hsafe (fun _ _ _ _ _ _ => rfl) (hcl (by simp))) h5 ho (fun _ => hcl (by simp)) ht

/-- The end of a callee that hands on a row to which may be appended. -/
theorem keep_ok {S0 S1 : Sim} {st1 : St} (I0 : Inv S0) (k2 : S1.st = st1) (k3 : S1.B = S0.inside.B) (k4 : S1.A = S0.inside.A) (k5 : Step S0.inside S1) {cs : List AV} {n r e sz : Nat} {y : Value} (hF : st1.F[r]? = some (e, sz)) (hr : Rep S1 (.sl cs n (.own r e)) y) :
    ∃ S2 : Sim, S2.w = S1.w ∧ S2.st = { S0.st with F := S0.st.F ++ [(e, sz)] } ∧ S2.B = S0.B ∧ S2.A = S0.A ∧ Step S0 S2 ∧ Rep S2 (.sl cs n (.own S0.st.F.length e)) y := by
  subst k2
  have hk := keeps_of k5
  have hrl : r < S1.rm.length := by rw [k5.inv.rl]; exact (List.getElem?_eq_some_iff.1 hF).1
  have hrm : S1.rm[r]? = some (S1.rm[r].1, S1.rm[r].2) := by simp [hrl]
  obtain ⟨hge, c, ty, hc, hfl⟩ := k5.inv.rowb r _ _ hrm
  rw [k3] at hge
  obtain ⟨E, J⟩ := new_row I0 hk (e, sz) hge hc hfl
  let S2 : Sim := { S0 with w := S1.w, hm := S0.hm ++ [], rm := S0.rm ++ [(S1.rm[r].1, S1.rm[r].2)], st := { H := S0.st.H ++ [], F := S0.st.F ++ [(e, sz)] } }
  have hstep : Step S0 S2 := ⟨E, J, ⟨k5.below.os, k5.below.tape, k5.below.output, k5.below.size, fun k h => k5.below.block k (Nat.lt_of_lt_of_le h I0.hB)⟩⟩
  refine ⟨S2, rfl, by simp [S2], rfl, rfl, hstep, ?_⟩
  have hrow2 : S2.rm[S0.st.F.length]? = some (S1.rm[r].1, S1.rm[r].2) := by
    show (S0.rm ++ [(S1.rm[r].1, S1.rm[r].2)])[S0.st.F.length]? = _
    rw [← I0.rl]; simp
  have hF2 : S2.st.F[S0.st.F.length]? = some (e, sz) := by
    show (S0.st.F ++ [(e, sz)])[S0.st.F.length]? = _
    simp
  have hsafe : ∀ g lo k, S1.safe g lo k → S2.safe g lo k := fun g lo k hs =>
    outside_safe (S2 := S2) I0 k3 k4 rfl hs rfl rfl (by simp [S2]) (by simp [S2]) (fun r' fl hr' hg => by
        change (S0.rm ++ [(S1.rm[r].1, S1.rm[r].2)])[r']? = _ at hr'
        rcases Nat.lt_or_ge r' S0.rm.length with h | h
        · rw [List.getElem?_append_left h] at hr'; exact hr'
        · rw [List.getElem?_append_right h] at hr'
          have h1 := List.mem_of_getElem? hr'
          simp only [List.mem_singleton, Prod.mk.injEq] at h1
          have h2 : S0.w.heap.size ≤ S1.rm[r].1 := hge
          rw [← h1.1] at h2; omega)
      (fun r' fl hr' hg => by
        change (S0.rm ++ [(S1.rm[r].1, S1.rm[r].2)])[r']? = _ at hr'
        rcases Nat.lt_or_ge r' S0.rm.length with h | h
        · rw [List.getElem?_append_left h] at hr'
          obtain ⟨_, c, ty, hc', _⟩ := I0.rowb r' g fl hr'
          have := heap_lt hc'; omega
        · rw [List.getElem?_append_right h] at hr'
          have h1 := List.mem_of_getElem? hr'
          simp only [List.mem_singleton, Prod.mk.injEq] at h1
          exact hs.2.2.2 r fl (by rw [hrm, h1.1, h1.2]))
  cases hr with
  | sl h1 h2 h3 hl h5 ho hcl ht =>
    refine .sl h1 h2 (hsafe _ _ _ h3) (hl.move hsafe (fun _ _ _ _ _ _ => rfl) (hcl (by simp))) h5 ho (fun _ => hcl (by simp)) ?_
    obtain ⟨e1, sz1, hF1, hle, hx⟩ := ht
    rw [hF] at hF1; cases hF1
    refine ⟨e, sz, hF2, Nat.le_refl _, fun _ => ?_⟩
    obtain ⟨hx1, hx2⟩ := hx rfl
    refine ⟨hx1, hx2.imp id ?_⟩
    rintro ⟨hx3, hx4⟩
    refine ⟨?_, hx4⟩
    rw [hrow2, ← hx3, hrm]

theorem isV_rep {S S' : Sim} : ∀ {cs : List AV} {ys : List Value}, cs.all AV.isV = true → RepL S cs ys → RepL S' cs ys
  | _, _, _, .nil => .nil
  | _, _, hv, .cons h1 h2 => by
    simp only [List.all_cons, Bool.and_eq_true] at hv
    refine .cons ?_ (isV_rep hv.2 h2)
    cases h1 <;> first | (exact .v (by assumption)) | (simp [AV.isV] at hv; done)

theorem scal1_rep {S S' : Sim} {x : AV} {y : Value} (hs : scal1 x = true) (h : Rep S x y) : Rep S' x y := by
  cases h <;> simp only [scal1, Bool.false_eq_true] at hs
  · exact .v (by assumption)
  · exact .agg (isV_rep hs (by assumption)) (by assumption)

theorem scalL_rep {S S' : Sim} : ∀ {cs : List AV} {ys : List Value}, cs.all scal1 = true → RepL S cs ys → RepL S' cs ys
  | _, _, _, .nil => .nil
  | _, _, hv, .cons h1 h2 => by
    simp only [List.all_cons, Bool.and_eq_true] at hv
    exact .cons (scal1_rep hv.1 h1) (scalL_rep hv.2 h2)

theorem scalR_rep {S S' : Sim} {x : AV} {y : Value} (hs : scalR x = true) (h : Rep S x y) : Rep S' x y := by
  by_cases ht : ∃ vs, x = .tup vs
  · obtain ⟨vs, rfl⟩ := ht
    cases h with
    | tup hl => exact .tup (scalL_rep hs hl)
  · have : scal1 x = true := by cases x <;> first | exact hs | exact absurd ⟨_, rfl⟩ ht
    exact scal1_rep this h

theorem exp0_still {st st1 : St} {a x : AV} (hs : hsOf0 a = []) (h : exp0 st a = some (x, st1)) : st1 = st := by
  unfold exp0 at h
  split at h
  · simp [hsOf0] at hs
  · split at h
    · cases h; rfl
    · cases h

theorem expL_still : ∀ {l m : List AV} {st st1 : St}, l.flatMap hsOf0 = [] → expL st l = some (m, st1) → st1 = st
  | [], m, st, st1, _, h => by simp only [expL, Option.some.injEq, Prod.mk.injEq] at h; exact h.2.symm
  | a :: r, m, st, st1, hs, h => by
    rw [List.flatMap_cons, List.append_eq_nil_iff] at hs
    simp only [expL] at h
    split at h
    · rename_i x s1 h1
      split at h
      · rename_i l s2 h2
        cases h
        rw [expL_still hs.2 h2, exp0_still hs.1 h1]
      · cases h
    · cases h

theorem exp1_still {st st1 : St} {a x : AV} (hs : hsOf a = []) (h : exp1 st a = some (x, st1)) : st1 = st := by
  unfold exp1 at h
  split at h
  · split at h
    · rename_i h1; cases h; exact expL_still hs h1
    · cases h
  · rename_i hne
    have hh : hsOf a = hsOf0 a := by cases a <;> first | rfl | exact absurd rfl (hne _)
    exact exp0_still (hh ▸ hs) h

theorem expA_still : ∀ {l m : List AV} {st st1 : St}, l.flatMap hsOf = [] → expA st l = some (m, st1) → st1 = st
  | [], m, st, st1, _, h => by simp only [expA, Option.some.injEq, Prod.mk.injEq] at h; exact h.2.symm
  | a :: r, m, st, st1, hs, h => by
    rw [List.flatMap_cons, List.append_eq_nil_iff] at hs
    simp only [expA] at h
    split at h
    · rename_i x s1 h1
      split at h
      · rename_i l s2 h2
        cases h
        rw [expA_still hs.2 h2, exp1_still hs.1 h1]
      · cases h
    · cases h

/-- A memory of which nothing more was frozen is the same. -/
theorem still_rep {S S0 : Sim} {st0 : St} (f0 : Frz S S0 st0) (hst : st0 = S.st) {w : World} {x : AV} {y : Value} (h : Rep (S0.at w) x y) : Rep (S.at w) x y := by
  have : S0 = S := by
    have h1 := f0.st
    have h2 := f0.w
    have h3 := f0.B
    have h4 := f0.A
    have h5 := f0.hm
    have h6 := f0.rm
    cases S
    cases S0
    simp only at h1 h2 h3 h4 h5 h6 hst
    subst h2 h3 h4 h5 h6
    rw [h1, hst]
  rw [← this]; exact h

/-- The end of a callee that hands on a new row, which becomes a block of one's own. -/
theorem fresh_ok {S0 S1 : Sim} {st1 : St} (I0 : Inv S0) (k2 : S1.st = st1) (k3 : S1.B = S0.inside.B) (k5 : Step S0.inside S1) {cs : List AV} {n r e sz : Nat} {y : Value} (hF : st1.F[r]? = some (e, sz)) (hlen : cs.length = e) (he0 : 0 < e) (hv : cs.all AV.isV = true) (hr : Rep S1 (.sl cs n (.own r e)) y) :
    ∃ S2 : Sim, S2.w = S1.w ∧ S2.st = { S0.st with H := S0.st.H ++ [{ cells := cs, fz := false }] } ∧ S2.B = S0.B ∧ S2.A = S0.A ∧ Step S0 S2 ∧ Rep S2 (.hs S0.st.H.length 0 n sz) y := by
  subst k2
  have hk := keeps_of k5
  cases hr with
  | sl h1 h2 h3 hl h5 ho hcl ht =>
    rename_i g off cap ys
    obtain ⟨e1, sz1, hF1, hle, hx⟩ := ht
    rw [hF] at hF1; cases hF1
    obtain ⟨⟨hx1, _, hx2⟩, hx3⟩ := hx rfl
    have hoff : off = 0 := hx2 hlen
    subst hoff
    rcases hx3 with hx3 | ⟨hrm, c, ty, hc, hfit⟩
    · exfalso
      have : n = 0 := by omega
      subst this
      omega
    · have hge : S0.w.heap.size ≤ g := by
        have := (k5.inv.rowb r g _ hrm).1
        rw [k3] at this; exact this
      let S2 : Sim := { S0 with w := S1.w, hm := S0.hm ++ [g], rm := S0.rm ++ [], st := { H := S0.st.H ++ [{ cells := cs, fz := false }], F := S0.st.F ++ [] } }
      have E : Ext S0 S2 := Ext.grow hk (by simpa using hge) (by simp)
      have hks : n * sz ≤ cap * sz := Nat.mul_le_mul_right _ h1
      have hys : c.toList.take cs.length = ys := by
        apply List.ext_getElem?
        intro i
        rw [List.getElem?_take]
        split
        · rename_i hi
          have hi' : i < ys.length := by rw [hl.length]; exact hi
          have := h5 i ys[i] (by simp [hi'])
          rw [Nat.zero_add, cell_of_row S1.w g i c ty (0, 0) hc] at this
          rw [Array.getElem?_toList, this]
          simp [hi']
        · rename_i hi
          rw [List.getElem?_eq_none (by rw [hl.length]; omega)]
      have J : Inv S2 := by
        refine Inv.grow I0 hk (by simpa using hge) (by simp) rfl rfl (by simp) (by simp) (by simp) ?_ (by simp)
        intro j g' hj
        have : j = 0 ∧ g' = g := by
          cases j with
          | zero => simp at hj; exact ⟨rfl, hj.symm⟩
          | succ j => simp at hj
        obtain ⟨rfl, rfl⟩ := this
        exact ⟨{ cells := cs, fz := false }, c, ty, rfl, hc, by show cs.length ≤ c.size; omega, by rw [hys]; exact isV_rep hv hl, ho⟩
      refine ⟨S2, rfl, by simp [S2], rfl, rfl, ⟨E, J, ⟨k5.below.os, k5.below.tape, k5.below.output, k5.below.size, fun k h => k5.below.block k (Nat.lt_of_lt_of_le h I0.hB)⟩⟩, ?_⟩
      refine .hs ?_ h1 h2 hc (.inl ⟨rfl, hfit⟩)
      show (S0.hm ++ [g])[S0.st.H.length]? = _
      rw [← I0.hl]; simp

theorem headOff_inv {N r x : Nat} {c0 c : Code} (h : headOff N r x c0 = some c) : ∃ id ops o0 o1 ci, c0 = .seq (.region id ops false) c ∧ ops.toList = [o0, o1] ∧ o0.op = .call ci ∧ ci.callee = .builtin .recover ∧ ci.args = #[] ∧ o1.op = .assign (.tmp r) ∧
    o0.dst = some r ∧ o0.guard = none ∧ o1.dst = some x ∧ o1.guard = none ∧ r < N ∧ x < N ∧ r ≠ x := by
  unfold headOff at h
  split at h
  · rename_i id ops c1
    split at h
    · rename_i o0 o1 hops
      split at h
      · rename_i ci t h0 h1
        split at h
        · rename_i hc ha
          split at h
          · rename_i hh
            obtain ⟨k1, k2, k3, k4, k5, k6, k7, k8⟩ := hh
            subst k3
            cases h
            exact ⟨id, ops, o0, o1, ci, rfl, hops, h0, hc, by simpa using ha, h1, k1, k2, k4, k5, k6, k7, k8⟩
          · cases h
        · cases h
      · cases h
    · cases h
  · cases h

theorem wanted_free {o : Oper} (h : o.guard = none) (y : Nat → Option Bool) : Region.wanted o y = true := by
  simp [Region.wanted, h]

/-- A closure that recovers. -/
theorem catch_ok {n : Nat} (hcode : CodeOk P T kd n) (hT : ∀ f s, T f = some s → ∃ fn, P.funcs[f]? = some fn ∧ stripFn P kd f fn = some s) {g : FuncId} {caps : List AV} {v : AV} {st st2 : St} (h : catchR T (run T n) g caps v st = some st2)
    {S : Sim} {ys : List Value} (hst : S.st = st) (I : Inv S) (hr : RepL S caps ys) {u : FrameMode} {y : Value} (hv : Rep S v y) (hu : (u = .returning ∧ y = .nilIface) ∨ u = .panicking [{ v := y, recovered := false }]) :
    CallsD P g ys.toArray u S.w fun e u' w' => settle u' = .returning ∧ (∃ z, e = .returned z) ∧ ∃ S', S'.w = w' ∧ S'.st = st2 ∧ S'.B = S.B ∧ S'.A = S.A ∧ Step S S' := by
  subst hst
  unfold catchR at h
  split at h
  · rename_i s hs
    split at h
    · rename_i r x hk
      split at h
      · rename_i hlen
        split at h
        · rename_i out hrun
          obtain ⟨fn, hf, hstrip⟩ := hT g s hs
          obtain ⟨c0, c, hb, hbo, hn, ⟨hle, _⟩, ⟨b, hsb, her⟩, hres, hkd, _⟩ := stripFn_inv hstrip
          rw [← hkd, hk] at hbo
          obtain ⟨id, ops, o0, o1, ci, rfl, hops, h0, hc, ha, h1, d0, g0, d1, g1, hrN, hxN, hrx⟩ := headOff_inv hbo
          have hsz : ops.size = 2 := by rw [← Array.length_toList, hops]; rfl
          have e0 : ops[0]? = some o0 := by rw [← Array.getElem?_toList, hops]; rfl
          have e1 : ops[1]? = some o1 := by rw [← Array.getElem?_toList, hops]; rfl
          refine callsD_of_wpS hf hb fun cf cs hu' => ?_
          have hbeg := begin_ok I hr (n := fn.ntmps) (by omega)
          generalize ha0 : ({ tmps := ys.toArray ++ Array.replicate (fn.ntmps - ys.toArray.size) undef, defers := [] } : Act) = a0 at *
          have hsz0 : a0.tmps.size = fn.ntmps := hbeg.size
          have hf1 : FrOk S (Fr.put { s := initFr 0 caps, d := [] } (some r) v) (a0.put (some r) y) := hbeg.fr.put hv (by simp; omega)
          have hsz1 : (a0.put (some r) y).tmps.size = fn.ntmps := by simp [Act.put, hsz0]
          have hf2 := hf1.put (dst := some x) hv (by simp [hsz1]; omega)
          have hsz2 : ((a0.put (some r) y).put (some x) y).tmps.size = fn.ntmps := by simp [Act.put, hsz0]
          have hbeg2 : Beg S fn.ntmps { s := (x, v) :: (r, v) :: initFr 0 caps, d := [] } ((a0.put (some r) y).put (some x) y) := ⟨I, hsz2, hf2⟩
          have hev : (a0.put (some r) y).eval (.tmp r) = y := by simp [Act.eval, Act.put, hsz0, hrN]
          have x0 : (execOp a0.eval o0).run P S.w = .ok .recover S.w := by simp [execOp, h0, resolve, hc, ha, invoke, builtin]
          have x1 : (execOp (a0.put (some r) y).eval o1).run P S.w = .ok (.value y) S.w := by simp [execOp, h1, hev]
          have hwp := wp_mono (hcode fn.ntmps c b s.body _ S _ out hsb her hrun hbeg2) (fun e a w hp => hp)
          apply wpS_seq
          apply wpS_region
          have fin : ∀ cs2 u2, cs2 = { cf with mode := u2 } :: cs → settle u2 = .returning →
              c.wpS P (bodyPostS P fn cf cs fun e u' w' => settle u' = .returning ∧ (∃ z, e = .returned z) ∧ ∃ S', S'.w = w' ∧ S'.st = st2 ∧ S'.B = S.B ∧ S'.A = S.A ∧ Step S S') ((a0.put (some r) y).put (some x) y) cs2 S.w := by
            intro cs2 u2 hcs2 hset
            refine wpS_of_wp (wp_mono hwp fun e a w hp => ?_)
            obtain ⟨S', rfl, p2, p3, p4, p5, p6, p7, p8⟩ := hp
            have done : (∃ xs, out.2.1.d = [] ∧ takeRess out.2.1.s out.2.2.H s.res = some xs ∧ out.2.2 = st2) → a.defers = [] ∧ ∃ u', cs2 = { cf with mode := u' } :: cs ∧ ∃ z, (results fn a.tmps).run P S'.w = .ok z S'.w ∧ settle u' = .returning ∧ (∃ z', Ending.returned z = .returned z') ∧ ∃ S'', S''.w = S'.w ∧ S''.st = st2 ∧ S''.B = S.B ∧ S''.A = S.A ∧ Step S S'' := by
              rintro ⟨xs, q1, q2, q3⟩
              have hd := p7.d
              rw [q1] at hd
              obtain ⟨z, hz, _⟩ := results_run p5.inv p7.s hres (by rw [p2]; exact q2)
              exact ⟨hd.nil_inv, u2, hcs2, z, hz, hset, ⟨z, rfl⟩, S', rfl, p2.trans q3, p3, p4, p5⟩
            obtain ⟨ex, frX, stX⟩ := out
            cases ex with
            | nx =>
              cases e with
              | normal =>
                refine done ?_
                simp only [endC] at h
                split at h
                · rename_i hd
                  split at h
                  · rename_i xs hx; cases h; exact ⟨xs, hd, hx, rfl⟩
                  · cases h
                · cases h
              | _ => simp [ExOk] at p8
            | rt =>
              cases e with
              | ret =>
                refine done ?_
                simp only [endC] at h
                split at h
                · rename_i hd
                  split at h
                  · rename_i xs hx; cases h; exact ⟨xs, hd, hx, rfl⟩
                  · cases h
                · cases h
              | _ => simp [ExOk] at p8
            | ex i => simp [endC] at h
            | pn a => simp [endC] at h
          rw [hsz]
          rcases hu with ⟨rfl, rfl⟩ | rfl
          · have hrec : recoverD (cf :: cs) = none := by simp [recoverD, hu']
            simp only [List.range_succ, List.range_zero, List.nil_append, List.cons_append, wpOpsS, e0, e1, wanted_free g0, wanted_free g1, if_true, x0, hrec, d0, d1, x1, Oper.upon]
            exact fin _ .returning (by rw [← hu']) rfl
          · have hrec : recoverD (cf :: cs) = some (y, { cf with mode := .panicking [{ v := y, recovered := true }] } :: cs) := by simp [recoverD, hu']
            simp only [List.range_succ, List.range_zero, List.nil_append, List.cons_append, wpOpsS, e0, e1, wanted_free g0, wanted_free g1, if_true, x0, hrec, d0, d1, x1, Oper.upon]
            exact fin _ _ rfl (by simp [settle])
        · cases h
      · cases h
    · cases h
  · cases h

/-- A function with one deferred closure that recovers. -/
theorem guard_ok {n : Nat} (hcode : CodeOk P T kd n) (hT : ∀ f s, T f = some s → ∃ fn, P.funcs[f]? = some fn ∧ stripFn P kd f fn = some s) {f : FuncId} {fn : Func} {s : SFn} (hf : P.funcs[f]? = some fn) (hs : stripFn P kd f fn = some s) (hnc : ∀ r x, s.kind ≠ .catch r x) {args : List AV} {st st' : St} {x : AV}
    (hi : innerG T (run T n) s args st = some (x, st')) (hlen : args.length = s.np) {S : Sim} {ys : List Value} (hst : S.st = st) (I : Inv S) (hr : RepL S args ys) : CallsTo P S f ys (.ret x) st' := by
  obtain ⟨c0, c, hb, hbo, hn, ⟨hle, _⟩, ⟨b, hstrip, her⟩, hres, hkd, _⟩ := stripFn_inv hs
  rw [hkd] at hnc
  have := bodyOf_eq hnc hbo
  subst this
  subst hst
  have hbeg := begin_ok I hr (n := fn.ntmps) (by omega)
  unfold innerG at hi
  split at hi
  · rename_i out hrun
    split at hi
    · rename_i l g caps v st1 ho
      split at hi
      · rename_i st2 hcat
        split at hi
        · rename_i xs hx
          cases hi
          refine calls_of_wp_defers hf hb (wp_mono (hcode _ c0 b _ _ S _ _ hstrip her hrun hbeg) fun e a w hp => ?_)
          obtain ⟨S', rfl, p2, p3, p4, p5, p6, p7, p8⟩ := hp
          have key : ∀ (u : FrameMode) (y : Value), out.2.1.s = l → out.2.1.d = [(g, caps)] → out.2.2 = st1 → Rep S' v y → ((u = .returning ∧ y = .nilIface) ∨ u = .panicking [{ v := y, recovered := false }]) → u ≠ .run →
              Leaves P fn a.tmps (fun e w' => ∃ S', S'.w = w' ∧ S'.st = st' ∧ S'.B = S.B ∧ S'.A = S.A ∧ Step S S' ∧ EndOk S' (.ret (pack xs)) e) a.defers u S'.w := by
            intro u y q1 q2 q3 hv hu hur
            have hd := p7.d
            rw [q2] at hd
            generalize a.defers = ds at hd ⊢
            cases hd with
            | @cons _ _ zs _ _ hz hd2 =>
              cases hd2
              obtain ⟨fng, hfg, hsg⟩ : ∃ fng, P.funcs[g]? = some fng ∧ ∃ sg, stripFn P kd g fng = some sg := by
                unfold catchR at hcat
                split at hcat
                · rename_i sg hsg
                  obtain ⟨fng, k1, k2⟩ := hT g sg hsg
                  exact ⟨fng, k1, sg, k2⟩
                · cases hcat
              obtain ⟨sg, hsg⟩ := hsg
              obtain ⟨cg, _, hbg, _, hng, _⟩ := stripFn_inv hsg
              have hcall := callable_of hfg hbg hng zs.toArray S'.w
              refine leaves_cons (f := g) (args := zs.toArray) hur (by simpa [invoke] using hcall) ?_
              refine CallsD.mono (catch_ok hcode hT hcat (p2.trans q3) p5.inv hz hv hu) fun e u' w' => ?_
              rintro ⟨h1, ⟨z, rfl⟩, S2, rfl, k2, k3, k4, k5⟩
              simp only
              rw [h1]
              obtain ⟨z, hz1, hz2⟩ := results_run (S := S2) k5.inv (fun i x hx => let ⟨y, h1, h2⟩ := p7.s i x (by rw [q1]; exact hx); ⟨y, h1, Rep.ext k5.ext h2⟩) hres (by rw [k2]; exact hx)
              exact ⟨z, hz1, S2, rfl, k2, k3.trans p3, k4.trans p4, p5.trans k5, hz2⟩
          obtain ⟨ex, frX, stX⟩ := out
          cases ex with
          | nx =>
            cases e with
            | normal =>
              simp only [openG] at ho
              split at ho
              · rename_i g' caps' hd
                cases ho
                exact key .returning .nilIface rfl hd rfl (.v rfl) (.inl ⟨rfl, rfl⟩) (by simp)
              · cases ho
            | _ => simp [ExOk] at p8
          | rt =>
            cases e with
            | ret =>
              simp only [openG] at ho
              split at ho
              · rename_i g' caps' hd
                cases ho
                exact key .returning .nilIface rfl hd rfl (.v rfl) (.inl ⟨rfl, rfl⟩) (by simp)
              · cases ho
            | _ => simp [ExOk] at p8
          | pn v' =>
            cases e with
            | panic ch =>
              cases ch with
              | nil => simp [ExOk] at p8
              | cons q t =>
                cases t with
                | nil =>
                  obtain ⟨y, rfl, hy⟩ := p8
                  simp only [openG] at ho
                  split at ho
                  · rename_i g' caps' hd
                    cases ho
                    exact key _ y rfl hd rfl hy (.inr rfl) (by simp)
                  · cases ho
                | cons => simp [ExOk] at p8
            | _ => simp [ExOk] at p8
          | ex i => simp [openG] at ho
        · cases hi
      · cases hi
    · cases hi
  · cases hi

theorem freshCall_ok {n : Nat} (hcode : CodeOk P T kd n) {f : FuncId} {fn : Func} {s : SFn} (hf : P.funcs[f]? = some fn) (hstrip : stripFn P kd f fn = some s) (hnc : ∀ r x, s.kind ≠ .catch r x) {args : List AV} {st st' : St} {r : Res} (hlen : args.length = s.np) {S : Sim} {ys : List Value} (hst : S.st = st) (I : Inv S) (hr : RepL S args ys)
    (h : freshOf (run T n) s args st = some (r, st')) : CallsTo P S f ys r st' := by
  unfold freshOf at h
  split at h
  · cases h
  · rename_i args1 st0 hx
    subst hst
    obtain ⟨S0, f0, r0, c0⟩ := expA_rep I hx hr
    have r1 : RepL S0.inside args1 ys := r0.moveC (fun _ _ _ => inside_safe) (fun _ _ _ _ _ _ => rfl) c0
    have hlen1 : args1.length = s.np := by rw [← hlen, ← hr.length, ← r0.length]
    have fin : ∀ (r' : Res) (st1 : St) (a x : AV), inner (run T n) s args1 .mt = some (r', st1) → expR st1 a = some x → (r' = .ret a ∧ r = .ret x ∨ r' = .pan a ∧ r = .pan x) → st' = st0 → CallsTo P S f ys r st' := by
      intro r' st1 a x hi hx' hor hst'
      subst hst'
      refine Calls.mono (inner_in hcode hf hstrip hnc hi hlen1 f0.w f0.inv r1) fun e w' => ?_
      rintro ⟨S1, rfl, k2, k3, k4, k5, k6⟩
      obtain ⟨d1, d2⟩ := drop_ok (r := r) (e := e) f0.inv k2 k3 k4 k5 hx' (hor.imp (fun hh => ⟨And.right hh, by rw [← And.left hh]; exact k6⟩) (fun hh => ⟨And.right hh, by rw [← And.left hh]; exact k6⟩))
      exact ⟨S0.at S1.w, rfl, f0.st, f0.B, f0.A, f0.step.trans d1, d2⟩
    split at h
    · rename_i cs m r' e' st1 hi
      split at h
      · rename_i e1 sz hF
        split at h
        · rename_i he
          obtain ⟨he, hlen2, he0, hv⟩ := he
          subst he
          cases h
          refine Calls.mono (inner_in hcode hf hstrip hnc hi hlen1 f0.w f0.inv r1) fun e w' => ?_
          rintro ⟨S1, rfl, k2, k3, k4, k5, k6⟩
          cases e with
          | returned y =>
            obtain ⟨S2, q1, q2, q3, q4, q5, q6⟩ := fresh_ok f0.inv k2 k3 k5 hF hlen2 he0 hv k6
            rw [f0.st] at q2 q6
            exact ⟨S2, q1, q2, q3.trans f0.B, q4.trans f0.A, f0.step.trans q5, q6⟩
          | panicked ch => simp [EndOk] at k6
          | outgrown => simp [EndOk] at k6
        · cases h
      · cases h
    · rename_i cs m st1 hi
      cases h
      refine Calls.mono (inner_in hcode hf hstrip hnc hi hlen1 f0.w f0.inv r1) fun e w' => ?_
      rintro ⟨S1, rfl, k2, k3, k4, k5, k6⟩
      cases e with
      | returned y =>
        obtain ⟨q1, q2⟩ := full_ok f0.inv k3 k4 k5 k6
        exact ⟨S0.at S1.w, rfl, f0.st, f0.B, f0.A, f0.step.trans q1, q2⟩
      | panicked ch => simp [EndOk] at k6
      | outgrown => simp [EndOk] at k6
    · rename_i a st1 _ _ hi
      rw [Option.map_eq_some_iff] at h; obtain ⟨x, hx', h⟩ := h; cases h
      exact fin _ st1 a x hi hx' (.inl ⟨rfl, rfl⟩) rfl
    · rename_i a st1 hi
      rw [Option.map_eq_some_iff] at h; obtain ⟨x, hx', h⟩ := h; cases h
      exact fin _ st1 a x hi hx' (.inr ⟨rfl, rfl⟩) rfl
    · cases h

theorem callOk_of {n : Nat} (hT : ∀ f s, T f = some s → ∃ fn, P.funcs[f]? = some fn ∧ stripFn P kd f fn = some s) (hcode : CodeOk P T kd n) : CallOk P (callOf T (run T n)) := by
  intro f args st r st' h
  unfold callOf at h
  split at h
  · cases h
  · rename_i s hs
    obtain ⟨fn, hf, hstrip⟩ := hT f s hs
    obtain ⟨c, c', hb, hbo, hn, ⟨hle, hnp⟩, hsc, hres, hkind, _⟩ := stripFn_inv hstrip
    refine ⟨callable_of hf hb hn, fun S ys args0 hor hst I hr => ?_⟩
    have nomk : ∀ {S : Sim} {l : List AV} {ys : List Value} {x : AV}, RepL S l ys → x ∈ l → x.isMk = true → False := by
      intro S l ys x h hx hm
      obtain ⟨j, hj⟩ := List.mem_iff_getElem?.1 hx
      obtain ⟨y, _, hy⟩ := h.get j x hj
      unfold AV.isMk at hm
      split at hm
      · cases hy with
        | agg _ h1 => have := h1 (.agg []) (by simp); cases this
      · cases hm
    have hmk : fmks.length = 1000 := List.length_replicate
    split at h
    · rename_i hlen
      have hargs : args = args0 := by
        rcases hor with rfl | rfl
        · rfl
        · rw [List.length_append, hmk] at hlen; omega
      subst hargs
      split at h
      · rename_i hk; exact inner_ok hcode hf hstrip (by rw [hk]; simp) h hlen hst I hr
      · rename_i hk; exact inner_ok hcode hf hstrip (by rw [hk]; simp) h hlen hst I hr
      · cases h
      · rename_i hk
        split at h
        · cases h
        · rename_i args1 st0 hx
          subst hst
          obtain ⟨S0, f0, r0, c0⟩ := expA_rep I hx hr
          have r1 : RepL S0.inside args1 ys := r0.moveC (fun _ _ _ => inside_safe) (fun _ _ _ _ _ _ => rfl) c0
          have hlen1 : args1.length = s.np := by rw [← hlen, ← hr.length, ← r0.length]
          split at h
          · rename_i a st1 hi
            rw [Option.map_eq_some_iff] at h; obtain ⟨x, hx', h⟩ := h; cases h
            have hg := guard_ok hcode hT hf hstrip (by rw [hk]; simp) hi hlen1 (S := S0.inside) rfl (inside_inv f0.inv) r1
            have hw : S0.inside.w = S.w := f0.w
            unfold CallsTo at hg
            rw [hw] at hg
            refine Calls.mono hg fun e w' => ?_
            rintro ⟨S1, rfl, k2, k3, k4, k5, k6⟩
            obtain ⟨d1, d2⟩ := drop_ok (r := .ret x) (e := e) f0.inv k2 k3 k4 k5 hx' (.inl ⟨rfl, k6⟩)
            exact ⟨S0.at S1.w, rfl, f0.st, f0.B, f0.A, f0.step.trans d1, d2⟩
          · cases h
      · rename_i hk
        have hnc : ∀ r x, s.kind ≠ .catch r x := by rw [hk]; simp
        split at h
        · cases h
        · rename_i args1 st0 hx
          subst hst
          obtain ⟨S0, f0, r0, c0⟩ := expA_rep I hx hr
          have r1 : RepL S0.inside args1 ys := r0.moveC (fun _ _ _ => inside_safe) (fun _ _ _ _ _ _ => rfl) c0
          have hlen1 : args1.length = s.np := by rw [← hlen, ← hr.length, ← r0.length]
          have fin : ∀ (r' : Res) (st1 : St) (a x : AV), inner (run T n) s args1 .mt = some (r', st1) → expR st1 a = some x → (r' = .ret a ∧ r = .ret x ∨ r' = .pan a ∧ r = .pan x) → st' = st0 → CallsTo P S f ys r st' := by
            intro r' st1 a x hi hx' hor hst'
            subst hst'
            refine Calls.mono (inner_in hcode hf hstrip hnc hi hlen1 f0.w f0.inv r1) fun e w' => ?_
            rintro ⟨S1, rfl, k2, k3, k4, k5, k6⟩
            obtain ⟨d1, d2⟩ := drop_ok (r := r) (e := e) f0.inv k2 k3 k4 k5 hx' (hor.imp (fun hh => ⟨And.right hh, by rw [← And.left hh]; exact k6⟩) (fun hh => ⟨And.right hh, by rw [← And.left hh]; exact k6⟩))
            exact ⟨S0.at S1.w, rfl, f0.st, f0.B, f0.A, f0.step.trans d1, d2⟩
          split at h
          · rename_i a st1 hi
            rw [Option.map_eq_some_iff] at h; obtain ⟨x, hx', h⟩ := h; cases h
            exact fin _ st1 a x hi hx' (.inl ⟨rfl, rfl⟩) rfl
          · rename_i a st1 hi
            rw [Option.map_eq_some_iff] at h; obtain ⟨x, hx', h⟩ := h; cases h
            exact fin _ st1 a x hi hx' (.inr ⟨rfl, rfl⟩) rfl
          · cases h
      · rename_i hk
        have hnc : ∀ r x, s.kind ≠ .catch r x := by rw [hk]; simp
        split at h
        · cases h
        · rename_i args1 st0 hx
          subst hst
          obtain ⟨S0, f0, r0, c0⟩ := expA_rep I hx hr
          have r1 : RepL S0.inside args1 ys := r0.moveC (fun _ _ _ => inside_safe) (fun _ _ _ _ _ _ => rfl) c0
          have hlen1 : args1.length = s.np := by rw [← hlen, ← hr.length, ← r0.length]
          have fin : ∀ (r' : Res) (st1 : St) (a x : AV), inner (run T n) s args1 .mt = some (r', st1) → expR st1 a = some x → (r' = .ret a ∧ r = .ret x ∨ r' = .pan a ∧ r = .pan x) → st' = st0 → CallsTo P S f ys r st' := by
            intro r' st1 a x hi hx' hor hst'
            subst hst'
            refine Calls.mono (inner_in hcode hf hstrip hnc hi hlen1 f0.w f0.inv r1) fun e w' => ?_
            rintro ⟨S1, rfl, k2, k3, k4, k5, k6⟩
            obtain ⟨d1, d2⟩ := drop_ok (r := r) (e := e) f0.inv k2 k3 k4 k5 hx' (hor.imp (fun hh => ⟨And.right hh, by rw [← And.left hh]; exact k6⟩) (fun hh => ⟨And.right hh, by rw [← And.left hh]; exact k6⟩))
            exact ⟨S0.at S1.w, rfl, f0.st, f0.B, f0.A, f0.step.trans d1, d2⟩
          split at h
          · rename_i cs m r' e' st1 hi
            split at h
            · rename_i e1 sz hF
              split at h
              · rename_i he
                subst he
                cases h
                refine Calls.mono (inner_in hcode hf hstrip hnc hi hlen1 f0.w f0.inv r1) fun e w' => ?_
                rintro ⟨S1, rfl, k2, k3, k4, k5, k6⟩
                cases e with
                | returned y =>
                  obtain ⟨S2, q1, q2, q3, q4, q5, q6⟩ := keep_ok f0.inv k2 k3 k4 k5 hF k6
                  rw [f0.st] at q2 q6
                  exact ⟨S2, q1, q2, q3.trans f0.B, q4.trans f0.A, f0.step.trans q5, q6⟩
                | panicked ch => simp [EndOk] at k6
                | outgrown => simp [EndOk] at k6
              · cases h
            · cases h
          · rename_i cs m st1 hi
            cases h
            refine Calls.mono (inner_in hcode hf hstrip hnc hi hlen1 f0.w f0.inv r1) fun e w' => ?_
            rintro ⟨S1, rfl, k2, k3, k4, k5, k6⟩
            cases e with
            | returned y =>
              obtain ⟨q1, q2⟩ := full_ok f0.inv k3 k4 k5 k6
              exact ⟨S0.at S1.w, rfl, f0.st, f0.B, f0.A, f0.step.trans q1, q2⟩
            | panicked ch => simp [EndOk] at k6
            | outgrown => simp [EndOk] at k6
          · rename_i a st1 _ _ hi
            rw [Option.map_eq_some_iff] at h; obtain ⟨x, hx', h⟩ := h; cases h
            exact fin _ st1 a x hi hx' (.inl ⟨rfl, rfl⟩) rfl
          · rename_i a st1 hi
            rw [Option.map_eq_some_iff] at h; obtain ⟨x, hx', h⟩ := h; cases h
            exact fin _ st1 a x hi hx' (.inr ⟨rfl, rfl⟩) rfl
          · cases h
      · rename_i hk
        exact freshCall_ok hcode hf hstrip (by rw [hk]; simp) hlen hst I hr h
      · rename_i hk
        have hnc : ∀ r x, s.kind ≠ .catch r x := by rw [hk]; simp
        split at h
        · cases h
        · rename_i args1 st0 hx
          subst hst
          obtain ⟨S0, f0, r0, c0⟩ := expA_rep I hx hr
          have r1 : RepL S0.inside args1 ys := r0.moveC (fun _ _ _ => inside_safe) (fun _ _ _ _ _ _ => rfl) c0
          have hlen1 : args1.length = s.np := by rw [← hlen, ← hr.length, ← r0.length]
          split at h
          · rename_i a st1 hi
            split at h
            · rename_i x hx'
              split at h
              · rename_i hsc
                cases h
                refine Calls.mono (inner_in hcode hf hstrip hnc hi hlen1 f0.w f0.inv r1) fun e w' => ?_
                rintro ⟨S1, rfl, k2, k3, k4, k5, k6⟩
                obtain ⟨d1, d2⟩ := drop_ok (r := .ret x) (e := e) f0.inv k2 k3 k4 k5 hx' (.inl ⟨rfl, k6⟩)
                have hk' : Keeps S.w S1.w := by rw [← f0.w]; exact keeps_of k5
                refine ⟨S.at S1.w, rfl, rfl, rfl, rfl, ⟨Ext.keeps hk', Inv.keeps I hk', ?_⟩, ?_⟩
                · have hb := (f0.step.trans d1).below
                  exact hb
                · cases e with
                  | returned y =>
                    rcases Bool.or_eq_true _ _ ▸ hsc with hsc | hsc
                    · exact scalR_rep hsc d2
                    · have hst0 : st0 = S.st := expA_still (by simpa using hsc) hx
                      exact still_rep f0 hst0 d2
                  | panicked ch => simp [EndOk] at d2
                  | outgrown => simp [EndOk] at d2
              · cases h
            · cases h
          · cases h
    · rename_i hlen
      split at h
      · rename_i hh
        obtain ⟨hh1, hh2, hh3⟩ := hh
        have hargs : args.take s.np = args0 := by
          rcases hor with rfl | rfl
          · exfalso
            have hlt : s.np < args.length := by omega
            exact nomk hr (List.getElem_mem hlt) (List.all_eq_true.1 hh3 _ (List.mem_iff_getElem?.2 ⟨0, by simp [hlt]⟩))
          · rw [List.length_append, hmk] at hh1
            rw [List.take_append_of_le_length (by omega), List.take_of_length_le (by omega)]
        rw [hargs] at h
        have hlen0 : args0.length = s.np := by rw [← hargs, List.length_take]; omega
        exact freshCall_ok hcode hf hstrip (by rw [hh2]; simp) hlen0 hst I hr h
      · cases h

theorem sound (hmix : P.follows .mixedOrders = true) (hT : ∀ f s, T f = some s → ∃ fn, P.funcs[f]? = some fn ∧ stripFn P kd f fn = some s) (n : Nat) : CodeOk P T kd n ∧ LoopOk P T kd n := by
  induction n with
  | zero => exact ⟨fun _ _ _ _ _ _ _ _ _ _ h => by simp [run] at h, fun _ _ _ _ _ _ _ _ _ _ _ h => by simp [run] at h⟩
  | succ n ih =>
    refine code_step hmix (callOk_of hT ih.1) (mild_of (fun f s h => ?_) n).2 ih.1 ih.2
    obtain ⟨fn, _, h2⟩ := hT f s h
    obtain ⟨_, _, _, _, _, _, _, _, _, h3⟩ := stripFn_inv h2
    exact ⟨by assumption, h3⟩

/-- What the evaluator answers, a call comes to. -/
theorem call_sound (hmix : P.follows .mixedOrders = true) (hT : ∀ f s, T f = some s → ∃ fn, P.funcs[f]? = some fn ∧ stripFn P kd f fn = some s) (n : Nat) : CallOk P (callOf T (run T n)) :=
  callOk_of hT (sound hmix hT n).1

end

end VS
end Go.Proofs.Ytkhekmmldnjenaa
/- The evaluator without fuel: its limit, and the equations by which code is read. -/
namespace Go.Proofs.Ytkhekmmldnjenaa
namespace VS

def CallF.le (C D : CallF) : Prop := ∀ (f : FuncId) (args : List AV) (st : St) (r : Res × St), C f args st = some r → D f args st = some r

theorem evOp_mono {C D : CallF} (h : C.le D) {fr : Fr} {st : St} {op : SOp} {r : ORes × St} (he : evOp C fr st op = some r) : evOp D fr st op = some r := by
  cases op
  case call f args =>
    simp only [evOp] at he ⊢
    split at he
    · split at he
      · rename_i hc; rw [h _ _ _ _ hc]; exact he
      · rename_i hc; rw [h _ _ _ _ hc]; exact he
      · cases he
    · cases he
  case callF f args =>
    simp only [evOp] at he ⊢
    split at he
    · split at he
      · rename_i hc; rw [h _ _ _ _ hc]; exact he
      · rename_i hc; rw [h _ _ _ _ hc]; exact he
      · cases he
    · cases he
  all_goals exact he

theorem evOps_mono {C D : CallF} (h : C.le D) : ∀ {ops : List SO} {fr : Fr} {st : St} {out : Out}, evOps C ops fr st = some out → evOps D ops fr st = some out
  | [], _, _, _, he => he
  | o :: r, fr, st, out, he => by
    simp only [evOps] at he ⊢
    split at he
    · cases he
    · exact evOps_mono h he
    · split at he
      · cases he
      · rename_i hev; rw [evOp_mono h hev]; exact evOps_mono h he
      · rename_i hev; rw [evOp_mono h hev]; exact he
      · rename_i hev; rw [evOp_mono h hev]; exact evOps_mono h he

theorem touched_mono {C D : CallF} (h : C.le D) : ∀ {ops : List SO} {fr fr' : Fr} {st st' : St}, evOps C ops fr st = some (.nx, fr', st') → touched D ops fr st = touched C ops fr st
  | [], _, _, _, _, _ => rfl
  | o :: r, fr, fr', st, st', he => by
    simp only [evOps] at he
    split at he
    · cases he
    · rename_i hw
      simp only [touched, stepS, hw, touched_mono h he]
    · rename_i hw
      split at he
      · cases he
      · rename_i hev
        simp only [touched, stepS, hw, hev, evOp_mono h hev, touched_mono h he]
      · cases he
      · rename_i hev
        simp only [touched, stepS, hw, hev, evOp_mono h hev]

abbrev RunF := SCode → Fr → St → Option Out
def RunF.le (R S : RunF) : Prop := ∀ (c : SCode) (fr : Fr) (st : St) (out : Out), R c fr st = some out → S c fr st = some out

theorem inner_mono {R S : RunF} (h : R.le S) {s : SFn} {args : List AV} {st : St} {r : Res × St} (he : inner R s args st = some r) : inner S s args st = some r := by
  unfold inner at he
  split at he
  · rename_i hc; simp only [inner, h _ _ _ _ hc]; exact he
  · rename_i hc; simp only [inner, h _ _ _ _ hc]; exact he
  · rename_i hc; simp only [inner, h _ _ _ _ hc]; exact he
  · cases he

theorem catchR_mono {T : FuncId → Option SFn} {R S : RunF} (h : R.le S) {g : FuncId} {caps : List AV} {v : AV} {st st2 : St} (he : catchR T R g caps v st = some st2) : catchR T S g caps v st = some st2 := by
  unfold catchR at he
  split at he
  · rename_i s hs
    split at he
    · rename_i r x hk
      split at he
      · rename_i hl
        split at he
        · rename_i out hr
          unfold catchR
          rw [hs]
          simp only [hk, hl, if_true, h _ _ _ _ hr]
          exact he
        · cases he
      · cases he
    · cases he
  · cases he

theorem innerG_mono {T : FuncId → Option SFn} {R S : RunF} (h : R.le S) {s : SFn} {args : List AV} {st : St} {r : AV × St} (he : innerG T R s args st = some r) : innerG T S s args st = some r := by
  unfold innerG at he
  split at he
  · rename_i out hr
    split at he
    · rename_i l g caps v st1 ho
      split at he
      · rename_i st2 hc
        unfold innerG
        rw [h _ _ _ _ hr]
        simp only [ho, catchR_mono h hc]
        exact he
      · cases he
    · cases he
  · cases he

theorem freshOf_mono {R S : RunF} (h : R.le S) {s : SFn} {args : List AV} {st : St} {r : Res × St} (he : freshOf R s args st = some r) : freshOf S s args st = some r := by
  unfold freshOf at he ⊢
  split at he
  · cases he
  · have he0 := he
    split at he
    · rename_i hi; rw [inner_mono h hi]; exact he
    · rename_i hi; rw [inner_mono h hi]; exact he
    · rename_i _ hne hi; rw [inner_mono h hi]; rw [hi] at he0; exact he0
    · rename_i hi; rw [inner_mono h hi]; exact he
    · cases he

theorem callOf_mono {T : FuncId → Option SFn} {R S : RunF} (h : R.le S) : (callOf T R).le (callOf T S) := by
  intro f args st r he
  unfold callOf at he
  split at he
  · cases he
  · rename_i s hs
    unfold callOf
    rw [hs]
    simp only
    split at he
    · rename_i hl
      rw [if_pos hl]
      split at he
      · exact inner_mono h he
      · exact inner_mono h he
      · cases he
      · split at he
        · cases he
        · split at he
          · rename_i hi; rw [innerG_mono h hi]; exact he
          · cases he
      · split at he
        · cases he
        · split at he
          · rename_i hi; rw [inner_mono h hi]; exact he
          · rename_i hi; rw [inner_mono h hi]; exact he
          · cases he
      · split at he
        · cases he
        · have he0 := he
          split at he
          · rename_i hi; rw [inner_mono h hi]; exact he
          · rename_i hi; rw [inner_mono h hi]; exact he
          · rename_i _ hne hi; rw [inner_mono h hi]; rw [hi] at he0; exact he0
          · rename_i hi; rw [inner_mono h hi]; exact he
          · cases he
      · exact freshOf_mono h he
      · split at he
        · cases he
        · split at he
          · rename_i hi; rw [inner_mono h hi]; exact he
          · cases he
    · rename_i hl
      rw [if_neg hl]
      split at he
      · rename_i hh
        rw [if_pos hh]
        exact freshOf_mono h he
      · cases he

theorem run_mono {T : FuncId → Option SFn} : ∀ (n : Nat), RunF.le (run T n) (run T (n + 1))
  | 0 => fun _ _ _ _ h => by simp [run] at h
  | n + 1 => fun c fr st out h => by
    have ih := run_mono (T := T) n
    rw [run.eq_def] at h ⊢
    simp only at h ⊢
    cases c with
    | skip => exact h
    | region ops draw =>
      simp only at h ⊢
      split at h
      · rename_i he; rw [evOps_mono (callOf_mono ih) he]; exact h
      · rename_i o hno
        split at h
        · cases h
        · rename_i hd
          rw [evOps_mono (callOf_mono ih) h]
          obtain ⟨ex, f1, s1⟩ := out
          cases ex <;> simp only [hd, Bool.false_eq_true, if_false]
    | regionF ops =>
      simp only at h ⊢
      split at h
      · rename_i he
        rw [evOps_mono (callOf_mono ih) he]
        simp only [touched_mono (callOf_mono ih) he]
        exact h
      · cases h
    | seq ks a b =>
      simp only at h ⊢
      split at h
      · rename_i he; rw [ih _ _ _ _ he]; exact ih _ _ _ _ h
      · rename_i hno
        rw [ih _ _ _ _ h]
        obtain ⟨ex, f1, s1⟩ := out
        cases ex <;> first | rfl | (exact absurd h (hno _ _))
    | cond x a b =>
      simp only at h ⊢
      split at h
      · exact ih _ _ _ _ h
      · exact ih _ _ _ _ h
      · cases h
    | block id c =>
      simp only at h ⊢
      split at h
      · rename_i he; rw [ih _ _ _ _ he]; exact h
      · rename_i hno
        rw [ih _ _ _ _ h]
        obtain ⟨ex, f1, s1⟩ := out
        cases ex <;> first | rfl | (exact absurd h (hno _ _ _))
    | loop ks c =>
      simp only at h ⊢
      split at h
      · rename_i he; rw [ih _ _ _ _ he]; exact ih _ _ _ _ h
      · rename_i hno
        rw [ih _ _ _ _ h]
        obtain ⟨ex, f1, s1⟩ := out
        cases ex <;> first | rfl | (exact absurd h (hno _ _))
    | exit id => exact h
    | ret => exact h

theorem run_le {T : FuncId → Option SFn} {n m : Nat} (h : n ≤ m) : RunF.le (run T n) (run T m) := by
  induction m with
  | zero => have : n = 0 := by omega
            subst this; exact fun _ _ _ _ h => h
  | succ m ih =>
    by_cases he : n = m + 1
    · subst he; exact fun _ _ _ _ h => h
    · exact fun c fr st out h' => run_mono m c fr st out (ih (by omega) c fr st out h')

open Classical in
/-- What a row of answers comes to. -/
noncomputable def lim {α : Type} (g : Nat → Option α) : Option α := if h : ∃ n a, g n = some a then g (Classical.choose h) else none

theorem lim_some {α : Type} {g : Nat → Option α} (hm : ∀ n m a, n ≤ m → g n = some a → g m = some a) {a : α} : lim g = some a ↔ ∃ n, g n = some a := by
  unfold lim
  constructor
  · intro h
    split at h
    · exact ⟨_, h⟩
    · cases h
  · rintro ⟨n, hn⟩
    have hex : ∃ n a, g n = some a := ⟨n, a, hn⟩
    rw [dif_pos hex]
    obtain ⟨b, hb⟩ := Classical.choose_spec hex
    rcases Nat.le_total n (Classical.choose hex) with h | h
    · exact hm _ _ _ h hn
    · have := hm _ _ _ h hb
      rw [hn] at this; cases this; exact hb

noncomputable def runL (T : FuncId → Option SFn) : RunF := fun c fr st => lim fun n => run T n c fr st
noncomputable def callL (T : FuncId → Option SFn) : CallF := fun f args st => lim fun n => callOf T (run T n) f args st

section
variable {T : FuncId → Option SFn}

theorem runL_some {c : SCode} {fr : Fr} {st : St} {out : Out} : runL T c fr st = some out ↔ ∃ n, run T n c fr st = some out :=
  lim_some fun _ _ _ h hn => run_le h _ _ _ _ hn

theorem callL_some {f : FuncId} {args : List AV} {st : St} {r : Res × St} : callL T f args st = some r ↔ ∃ n, callOf T (run T n) f args st = some r :=
  lim_some fun _ _ _ h hn => callOf_mono (run_le h) _ _ _ _ hn

theorem run_leL (n : Nat) : RunF.le (run T n) (runL T) := fun _ _ _ _ h => runL_some.2 ⟨n, h⟩
theorem call_leL (n : Nat) : (callOf T (run T n)).le (callL T) := fun _ _ _ _ h => callL_some.2 ⟨n, h⟩

theorem inner_lim {s : SFn} {args : List AV} {st : St} {r : Res × St} (he : inner (runL T) s args st = some r) : ∃ n, inner (run T n) s args st = some r := by
  unfold inner at he
  split at he
  · rename_i hc; obtain ⟨n, hn⟩ := runL_some.1 hc; exact ⟨n, by simp only [inner, hn]; exact he⟩
  · rename_i hc; obtain ⟨n, hn⟩ := runL_some.1 hc; exact ⟨n, by simp only [inner, hn]; exact he⟩
  · rename_i hc; obtain ⟨n, hn⟩ := runL_some.1 hc; exact ⟨n, by simp only [inner, hn]; exact he⟩
  · cases he

theorem innerG_lim {s : SFn} {args : List AV} {st : St} {r : AV × St} (he : innerG T (runL T) s args st = some r) : ∃ n, innerG T (run T n) s args st = some r := by
  unfold innerG at he
  split at he
  · rename_i out hr
    obtain ⟨n, hn⟩ := runL_some.1 hr
    split at he
    · rename_i l g caps v st1 ho
      split at he
      · rename_i st2 hc
        have hc0 : ∃ m, catchR T (run T m) g caps v st1 = some st2 := by
          unfold catchR at hc
          split at hc
          · rename_i sg hs
            split at hc
            · rename_i r x hk
              split at hc
              · rename_i hl
                split at hc
                · rename_i out2 hr2
                  obtain ⟨m, hm⟩ := runL_some.1 hr2
                  refine ⟨m, ?_⟩
                  unfold catchR
                  rw [hs]
                  simp only [hk, hl, if_true, hm]
                  exact hc
                · cases hc
              · cases hc
            · cases hc
          · cases hc
        obtain ⟨m, hm⟩ := hc0
        refine ⟨max n m, ?_⟩
        unfold innerG
        rw [run_le (Nat.le_max_left n m) _ _ _ _ hn]
        simp only [ho, catchR_mono (run_le (Nat.le_max_right n m)) hm]
        exact he
      · cases he
    · cases he
  · cases he

theorem freshOf_lim {s : SFn} {args : List AV} {st : St} {r : Res × St} (he : freshOf (runL T) s args st = some r) : ∃ n, freshOf (run T n) s args st = some r := by
  unfold freshOf at he
  split at he
  · cases he
  · rename_i hx
    split at he
    · rename_i hi; obtain ⟨n, hn⟩ := inner_lim hi; exact ⟨n, by simp only [freshOf, hx, hn]; exact he⟩
    · rename_i hi; obtain ⟨n, hn⟩ := inner_lim hi; exact ⟨n, by simp only [freshOf, hx, hn]; exact he⟩
    · rename_i _ hno hi; obtain ⟨n, hn⟩ := inner_lim hi
      refine ⟨n, ?_⟩
      simp only [freshOf, hx, hn]; exact he
    · rename_i hi; obtain ⟨n, hn⟩ := inner_lim hi; exact ⟨n, by simp only [freshOf, hx, hn]; exact he⟩
    · cases he

theorem callL_eq (f : FuncId) (args : List AV) (st : St) : callL T f args st = callOf T (runL T) f args st := by
  have key : ∀ r, callL T f args st = some r ↔ callOf T (runL T) f args st = some r := by
    intro r
    constructor
    · intro h
      obtain ⟨n, hn⟩ := callL_some.1 h
      exact callOf_mono (run_leL n) _ _ _ _ hn
    · intro he
      refine callL_some.2 ?_
      unfold callOf at he
      split at he
      · cases he
      · rename_i s hs
        split at he
        · rename_i hl
          split at he
          · rename_i hk
            obtain ⟨n, hn⟩ := inner_lim he
            exact ⟨n, by simp only [callOf, hs, hl, if_true, hk]; exact hn⟩
          · rename_i hk
            obtain ⟨n, hn⟩ := inner_lim he
            exact ⟨n, by simp only [callOf, hs, hl, if_true, hk]; exact hn⟩
          · cases he
          · rename_i hk
            split at he
            · cases he
            · rename_i hx
              split at he
              · rename_i hi; obtain ⟨n, hn⟩ := innerG_lim hi; exact ⟨n, by simp only [callOf, hs, hl, if_true, hk, hx, hn]; exact he⟩
              · cases he
          · rename_i hk
            split at he
            · cases he
            · rename_i hx
              split at he
              · rename_i hi; obtain ⟨n, hn⟩ := inner_lim hi; exact ⟨n, by simp only [callOf, hs, hl, if_true, hk, hx, hn]; exact he⟩
              · rename_i hi; obtain ⟨n, hn⟩ := inner_lim hi; exact ⟨n, by simp only [callOf, hs, hl, if_true, hk, hx, hn]; exact he⟩
              · cases he
          · rename_i hk
            split at he
            · cases he
            · rename_i hx
              split at he
              · rename_i hi; obtain ⟨n, hn⟩ := inner_lim hi; exact ⟨n, by simp only [callOf, hs, hl, if_true, hk, hx, hn]; exact he⟩
              · rename_i hi; obtain ⟨n, hn⟩ := inner_lim hi; exact ⟨n, by simp only [callOf, hs, hl, if_true, hk, hx, hn]; exact he⟩
              · rename_i _ hno hi; obtain ⟨n, hn⟩ := inner_lim hi
                refine ⟨n, ?_⟩
                simp only [callOf, hs, hl, if_true, hk, hx, hn]; exact he
              · rename_i hi; obtain ⟨n, hn⟩ := inner_lim hi; exact ⟨n, by simp only [callOf, hs, hl, if_true, hk, hx, hn]; exact he⟩
              · cases he
          · rename_i hk
            obtain ⟨n, hn⟩ := freshOf_lim he
            exact ⟨n, by simp only [callOf, hs, hl, if_true, hk]; exact hn⟩
          · rename_i hk
            split at he
            · cases he
            · rename_i hx
              split at he
              · rename_i hi; obtain ⟨n, hn⟩ := inner_lim hi; exact ⟨n, by simp only [callOf, hs, hl, if_true, hk, hx, hn]; exact he⟩
              · cases he
        · rename_i hl
          split at he
          · rename_i hh
            obtain ⟨n, hn⟩ := freshOf_lim he
            exact ⟨n, by simp only [callOf, hs, if_neg hl, if_pos hh]; exact hn⟩
          · cases he
  cases h : callL T f args st with
  | some r => exact ((key r).1 h).symm
  | none =>
    cases h2 : callOf T (runL T) f args st with
    | none => rfl
    | some r => rw [(key r).2 h2] at h; cases h

theorem evOps_lim : ∀ {ops : List SO} {fr : Fr} {st : St} {out : Out}, evOps (callL T) ops fr st = some out → ∃ n, evOps (callOf T (run T n)) ops fr st = some out
  | [], _, _, _, he => ⟨0, he⟩
  | o :: r, fr, st, out, he => by
    have hop : ∀ q, evOp (callL T) fr st o.op = some q → ∃ n, evOp (callOf T (run T n)) fr st o.op = some q := by
      intro q hq
      cases hop : o.op
      case call f args =>
        rw [hop] at hq
        simp only [evOp] at hq ⊢
        split at hq
        · rename_i h1 h2
          split at hq
          · rename_i hc; obtain ⟨n, hn⟩ := callL_some.1 hc; exact ⟨n, by rw [hn]; exact hq⟩
          · rename_i hc; obtain ⟨n, hn⟩ := callL_some.1 hc; exact ⟨n, by rw [hn]; exact hq⟩
          · cases hq
        · cases hq
      case callF f args =>
        rw [hop] at hq
        simp only [evOp] at hq ⊢
        split at hq
        · rename_i h1 h2
          split at hq
          · rename_i hc; obtain ⟨n, hn⟩ := callL_some.1 hc; exact ⟨n, by rw [hn]; exact hq⟩
          · rename_i hc; obtain ⟨n, hn⟩ := callL_some.1 hc; exact ⟨n, by rw [hn]; exact hq⟩
          · cases hq
        · cases hq
      all_goals (rw [hop] at hq; exact ⟨0, hq⟩)
    simp only [evOps] at he ⊢
    split at he
    · cases he
    · exact evOps_lim he
    · split at he
      · cases he
      · rename_i hev
        obtain ⟨n, hn⟩ := hop _ hev
        obtain ⟨m, hm⟩ := evOps_lim he
        refine ⟨max n m, ?_⟩
        rw [evOp_mono (callOf_mono (run_le (Nat.le_max_left n m))) hn]
        exact evOps_mono (callOf_mono (run_le (Nat.le_max_right n m))) hm
      · rename_i hev
        obtain ⟨n, hn⟩ := hop _ hev
        exact ⟨n, by rw [hn]; exact he⟩
      · rename_i hev
        obtain ⟨n, hn⟩ := hop _ hev
        obtain ⟨m, hm⟩ := evOps_lim he
        refine ⟨max n m, ?_⟩
        rw [evOp_mono (callOf_mono (run_le (Nat.le_max_left n m))) hn]
        exact evOps_mono (callOf_mono (run_le (Nat.le_max_right n m))) hm

theorem opt_eq {α : Type} {x y : Option α} (h : ∀ a, x = some a ↔ y = some a) : x = y := by
  cases hx : x with
  | some a => exact ((h a).1 hx).symm
  | none =>
    cases hy : y with
    | none => rfl
    | some a => rw [(h a).2 hy] at hx; cases hx

theorem runL_iff {c : SCode} {fr : Fr} {st : St} {out : Out} : runL T c fr st = some out ↔ ∃ n, run T (n + 1) c fr st = some out := by
  rw [runL_some]
  constructor
  · rintro ⟨n, hn⟩; exact ⟨n, run_mono n _ _ _ _ hn⟩
  · rintro ⟨n, hn⟩; exact ⟨n + 1, hn⟩

variable (fr : Fr) (st : St)

theorem runL_skip : runL T .skip fr st = some (.nx, fr, st) := runL_iff.2 ⟨0, rfl⟩
theorem runL_exit (id : Nat) : runL T (.exit id) fr st = some (.ex id, fr, st) := runL_iff.2 ⟨0, rfl⟩
theorem runL_ret : runL T .ret fr st = some (.rt, fr, st) := runL_iff.2 ⟨0, rfl⟩

theorem runL_region (ops : List SO) : runL T (.region ops false) fr st = evOps (callL T) ops fr st := by
  refine opt_eq fun out => runL_iff.trans ⟨?_, fun h => ?_⟩
  · rintro ⟨n, hn⟩
    simp only [run] at hn
    refine evOps_mono (call_leL n) ?_
    split at hn
    · rename_i he; rw [he]; exact hn
    · simpa using hn
  · obtain ⟨n, hn⟩ := evOps_lim h
    refine ⟨n, ?_⟩
    simp only [run, hn]
    obtain ⟨ex, f1, s1⟩ := out
    cases ex <;> rfl

/-- Only the way straight on is taken. -/
def onlyNx (o : Option Out) : Option Out := match o with
  | some (.nx, fr, st) => some (.nx, fr, st)
  | _ => none

theorem runL_draw (ops : List SO) : runL T (.region ops true) fr st = onlyNx (evOps (callL T) ops fr st) := by
  refine opt_eq fun out => runL_iff.trans ⟨?_, fun h => ?_⟩
  · rintro ⟨n, hn⟩
    simp only [run] at hn
    split at hn
    · rename_i he; rw [evOps_mono (call_leL n) he]; exact hn
    · simp at hn
  · unfold onlyNx at h
    split at h
    · rename_i he
      obtain ⟨n, hn⟩ := evOps_lim he
      exact ⟨n, by simp only [run, hn]; exact h⟩
    · cases h

/-- A drawn region with loads and stores that no edge orders. -/
def freeR (C : CallF) (ops : List SO) (fr : Fr) (st : St) : Option Out → Option Out
  | some (.nx, fr1, st1) => if freeOk (touched C ops fr st) then some (.nx, fr1, st1) else none
  | _ => none

theorem runL_regionF (ops : List SO) : runL T (.regionF ops) fr st = freeR (callL T) ops fr st (evOps (callL T) ops fr st) := by
  refine opt_eq fun out => runL_iff.trans ⟨?_, fun h => ?_⟩
  · rintro ⟨n, hn⟩
    simp only [run] at hn
    split at hn
    · rename_i he
      rw [evOps_mono (call_leL n) he]
      simp only [freeR, touched_mono (call_leL n) he]
      exact hn
    · cases hn
  · unfold freeR at h
    split at h
    · rename_i he
      obtain ⟨n, hn⟩ := evOps_lim he
      refine ⟨n, ?_⟩
      simp only [run, hn, ← touched_mono (call_leL n) hn]
      exact h
    · cases h

/-- What stands behind code, where it ends straight on. -/
def thenR (o : Option Out) (k : Fr → St → Option Out) : Option Out := match o with
  | some (.nx, fr, st) => k fr st
  | o => o

theorem runL_seq (ks : List Nat) (a b : SCode) : runL T (.seq ks a b) fr st = thenR (runL T a fr st) fun fr1 st1 => runL T b (fr1.only ks) st1 := by
  refine opt_eq fun out => runL_iff.trans ⟨?_, fun h => ?_⟩
  · rintro ⟨n, hn⟩
    simp only [run] at hn
    unfold thenR
    split at hn
    · rename_i he; rw [run_leL n _ _ _ _ he]; exact run_leL n _ _ _ _ hn
    · rename_i hno
      rw [run_leL n _ _ _ _ hn]
      obtain ⟨ex, f1, s1⟩ := out
      cases ex <;> first | rfl | (exact absurd hn (hno _ _))
  · unfold thenR at h
    split at h
    · rename_i he
      obtain ⟨n, hn⟩ := runL_some.1 he
      obtain ⟨m, hm⟩ := runL_some.1 h
      exact ⟨max n m, by simp only [run, run_le (Nat.le_max_left n m) _ _ _ _ hn, run_le (Nat.le_max_right n m) _ _ _ _ hm]⟩
    · rename_i hno
      obtain ⟨n, hn⟩ := runL_some.1 h
      refine ⟨n, ?_⟩
      simp only [run, hn]
      obtain ⟨ex, f1, s1⟩ := out
      cases ex <;> first | rfl | (exact absurd h (hno _ _))

theorem runL_cond (x : SX) (a b : SCode) : runL T (.cond x a b) fr st = (match evX fr x with
    | some (.v (.bool true)) => runL T a fr st
    | some (.v (.bool false)) => runL T b fr st
    | _ => none) := by
  refine opt_eq fun out => runL_iff.trans ⟨?_, fun h => ?_⟩
  · rintro ⟨n, hn⟩
    simp only [run] at hn
    split at hn
    · rename_i hx; rw [hx]; exact run_leL n _ _ _ _ hn
    · rename_i hx; rw [hx]; exact run_leL n _ _ _ _ hn
    · cases hn
  · split at h
    · rename_i hx; obtain ⟨n, hn⟩ := runL_some.1 h; exact ⟨n, by simp only [run, hx, hn]⟩
    · rename_i hx; obtain ⟨n, hn⟩ := runL_some.1 h; exact ⟨n, by simp only [run, hx, hn]⟩
    · cases h

/-- The end of a block. -/
def blockR (id : Nat) (o : Option Out) : Option Out := match o with
  | some (.ex i, fr, st) => if i = id then some (.nx, fr, st) else some (.ex i, fr, st)
  | o => o

theorem runL_block (id : Nat) (c : SCode) : runL T (.block id c) fr st = blockR id (runL T c fr st) := by
  refine opt_eq fun out => runL_iff.trans ⟨?_, fun h => ?_⟩
  · rintro ⟨n, hn⟩
    simp only [run] at hn
    unfold blockR
    split at hn
    · rename_i he; rw [run_leL n _ _ _ _ he]; exact hn
    · rename_i hno
      rw [run_leL n _ _ _ _ hn]
      obtain ⟨ex, f1, s1⟩ := out
      cases ex <;> first | rfl | (exact absurd hn (hno _ _ _))
  · unfold blockR at h
    split at h
    · rename_i he
      obtain ⟨n, hn⟩ := runL_some.1 he
      exact ⟨n, by simp only [run, hn]; exact h⟩
    · rename_i hno
      obtain ⟨n, hn⟩ := runL_some.1 h
      refine ⟨n, ?_⟩
      simp only [run, hn]
      obtain ⟨ex, f1, s1⟩ := out
      cases ex <;> first | rfl | (exact absurd h (hno _ _ _))

theorem runL_loop (ks : List Nat) (c : SCode) : runL T (.loop ks c) fr st = thenR (runL T c (fr.only ks) st) fun fr1 st1 => runL T (.loop ks c) fr1 st1 := by
  refine opt_eq fun out => runL_iff.trans ⟨?_, fun h => ?_⟩
  · rintro ⟨n, hn⟩
    simp only [run] at hn
    unfold thenR
    split at hn
    · rename_i he; rw [run_leL n _ _ _ _ he]; exact run_leL n _ _ _ _ hn
    · rename_i hno
      rw [run_leL n _ _ _ _ hn]
      obtain ⟨ex, f1, s1⟩ := out
      cases ex <;> first | rfl | (exact absurd hn (hno _ _))
  · unfold thenR at h
    split at h
    · rename_i he
      obtain ⟨n, hn⟩ := runL_some.1 he
      obtain ⟨m, hm⟩ := runL_some.1 h
      exact ⟨max n m, by simp only [run, run_le (Nat.le_max_left n m) _ _ _ _ hn, run_le (Nat.le_max_right n m) _ _ _ _ hm]⟩
    · rename_i hno
      obtain ⟨n, hn⟩ := runL_some.1 h
      refine ⟨n, ?_⟩
      simp only [run, hn]
      obtain ⟨ex, f1, s1⟩ := out
      cases ex <;> first | rfl | (exact absurd h (hno _ _))

/-- What the limit answers, a call comes to. -/
theorem callL_sound {P : Program} {kd : FuncId → Kind} (hmix : P.follows .mixedOrders = true) (hT : ∀ f s, T f = some s → ∃ fn, P.funcs[f]? = some fn ∧ stripFn P kd f fn = some s) : CallOk P (callL T) := by
  intro f args st r st' h
  obtain ⟨n, hn⟩ := callL_some.1 h
  exact call_sound hmix hT n f args st r st' hn

end

end VS
end Go.Proofs.Ytkhekmmldnjenaa
/- The evaluator's rules as rules of rewriting; numbers; rows to which bytes are appended. -/
namespace Go.Proofs.Ytkhekmmldnjenaa
namespace VS

attribute [simp] evXs fillP repeatL initFr takeRess takeRes pack isNilS isNilF isNilP nilEq negIf binAV isShift putAt expL exp0 clean1 unAV asNum bnd partOf AV.cells AV.isTup onlyL
attribute [simp] runL_skip runL_exit runL_ret runL_region runL_draw runL_regionF runL_block

attribute [simp] evOp.eq_1 evOp.eq_2 evOp.eq_3 evOp.eq_4 evOp.eq_5 evOp.eq_6 evOp.eq_7 evOp.eq_8 evOp.eq_9 evOp.eq_10 evOp.eq_11 evOp.eq_12 evOp.eq_13 evOp.eq_14 evOp.eq_15 evOp.eq_16 evOp.eq_17 evOp.eq_18 evOp.eq_19 evOp.eq_20 evOp.eq_21 evOp.eq_22 evOp.eq_23 evOp.eq_24 evOp.eq_25 evOp.eq_26 evOp.eq_28 evOp.eq_29 evOp.eq_30 evOp.eq_31 evOp.eq_32

/-- The length of a slice. -/
def lenK (o : Option AV) (st : St) : Option (ORes × St) := match o with
  | some (.sl _ n _) => some (.ret (.v (.int .i64 n)), st)
  | some (.hs _ _ n _) => some (.ret (.v (.int .i64 n)), st)
  | some (.v (.slice _ 0 0)) => some (.ret (.v (.int .i64 0)), st)
  | _ => none

@[simp] theorem evOp_len (C : CallF) (fr : Fr) (st : St) (x : SX) : evOp C fr st (.len x) = lenK (evX fr x) st := by cases fr; rfl
@[simp] theorem lenK_sl (cs : List AV) (n : Nat) (t : Tag) (st : St) : lenK (some (.sl cs n t)) st = some (.ret (.v (.int .i64 n)), st) := by cases st; rfl
@[simp] theorem lenK_nil (q : Option Addr) (st : St) : lenK (some (.v (.slice q 0 0))) st = some (.ret (.v (.int .i64 0)), st) := by cases st; rfl
/-- Rules whose proofs are no bare equalities of definition: the rewriter's side conditions need such. -/
@[simp] theorem evX_c (fr : Fr) (a : AV) : evX fr (.c a) = some a := by cases fr; rfl
@[simp] theorem evX_t (fr : Fr) (i : Nat) : evX fr (.t i) = look fr.s i := by cases fr; rfl
@[simp] theorem look_nil (i : Nat) : look [] i = none := by cases i <;> rfl
@[simp] theorem look_cons (k i : Nat) (x : AV) (r : List (Nat × AV)) : look ((k, x) :: r) i = if k = i then some x else look r i := by
  by_cases h : k = i
  · rw [if_pos h]; subst h; simp [look]
  · rw [if_neg h]; simp [look, h]

def wantV : Option AV → Bool → Option Bool
  | some (.v (.bool b)), want => some (b == want)
  | some (.tup []), _ => some false
  | _, _ => none

@[simp] theorem wants_none (fr : Fr) : wants fr none = some true := by cases fr; rfl
@[simp] theorem wants_some (fr : Fr) (s : Nat) (want : Bool) : wants fr (some (s, want)) = wantV (look fr.s s) want := by
  unfold wants wantV
  simp only
  generalize look fr.s s = o
  split
  · rfl
  · rfl
  · rename_i h1 h2
    split
    · exact absurd rfl (h1 _)
    · exact absurd rfl h2
    · rfl
@[simp] theorem wantV_bool (b want : Bool) : wantV (some (.v (.bool b))) want = some (b == want) := by cases b <;> rfl
@[simp] theorem wantV_und (want : Bool) : wantV (some und) want = some false := by cases want <;> rfl

section
variable (fr : Fr) (st : St) (k : Fr → St → Option Out)
@[simp] theorem thenR_nx : thenR (some (.nx, fr, st)) k = k fr st := by cases st; rfl
@[simp] theorem thenR_ex (i : Nat) : thenR (some (.ex i, fr, st)) k = some (.ex i, fr, st) := by cases st; rfl
@[simp] theorem thenR_rt : thenR (some (.rt, fr, st)) k = some (.rt, fr, st) := by cases st; rfl
@[simp] theorem thenR_pn (a : AV) : thenR (some (.pn a, fr, st)) k = some (.pn a, fr, st) := by cases st; rfl
@[simp] theorem blockR_nx (id : Nat) : blockR id (some (.nx, fr, st)) = some (.nx, fr, st) := by cases st; rfl
@[simp] theorem blockR_ex (id i : Nat) : blockR id (some (.ex i, fr, st)) = if i = id then some (.nx, fr, st) else some (.ex i, fr, st) := by cases st; rfl
@[simp] theorem blockR_rt (id : Nat) : blockR id (some (.rt, fr, st)) = some (.rt, fr, st) := by cases st; rfl
@[simp] theorem blockR_pn (id : Nat) (a : AV) : blockR id (some (.pn a, fr, st)) = some (.pn a, fr, st) := by cases st; rfl
@[simp] theorem onlyNx_nx : onlyNx (some (.nx, fr, st)) = some (.nx, fr, st) := by cases st; rfl

/-- The way on behind an operation. -/
def stepK (o : Option (ORes × St)) (dst : Option Nat) (fr : Fr) (k : Fr → St → Option Out) : Option Out := match o with
  | none => none
  | some (.ret a, st1) => k (fr.put dst a) st1
  | some (.pan a, st1) => some (.pn a, fr, st1)
  | some (.dfr f caps, st1) => k { fr.put dst und with d := (f, caps) :: fr.d } st1

@[simp] theorem stepK_ret (a : AV) (dst : Option Nat) : stepK (some (.ret a, st)) dst fr k = k (fr.put dst a) st := by cases st; rfl
@[simp] theorem stepK_pan (a : AV) (dst : Option Nat) : stepK (some (.pan a, st)) dst fr k = some (.pn a, fr, st) := by cases st; rfl
@[simp] theorem stepK_dfr (f : FuncId) (caps : List AV) (dst : Option Nat) : stepK (some (.dfr f caps, st)) dst fr k = k { fr.put dst und with d := (f, caps) :: fr.d } st := by cases st; rfl

/-- An operation with a guard. -/
def guardK (b : Option Bool) (x y : Option Out) : Option Out := match b with
  | none => none
  | some false => x
  | some true => y

@[simp ↓] theorem guardK_true {b : Option Bool} {x y : Option Out} (h : b = some true) : guardK b x y = y := by rw [h]; rfl
@[simp ↓] theorem guardK_false {b : Option Bool} {x y : Option Out} (h : b = some false) : guardK b x y = x := by rw [h]; rfl

@[simp] theorem evOps_nil (C : CallF) : evOps C [] fr st = some (.nx, fr, st) := by cases st; rfl
@[simp] theorem evOps_cons (C : CallF) (o : SO) (r : List SO) : evOps C (o :: r) fr st = guardK (wants fr o.g) (evOps C r (fr.put o.dst und) st) (stepK (evOp C fr st o.op) o.dst fr (evOps C r)) := by
  rw [evOps.eq_2]
  unfold guardK stepK
  cases wants fr o.g with
  | none => rfl
  | some b =>
    cases b with
    | false => rfl
    | true =>
      simp only
      cases evOp C fr st o.op with
      | none => rfl
      | some p =>
        obtain ⟨q, st1⟩ := p
        cases q <;> rfl
end

/-- The code behind, its live slots named. -/
noncomputable def seqK (T : FuncId → Option SFn) (ks : List Nat) (b : SCode) : Fr → St → Option Out := fun fr st => runL T b (fr.only ks) st

@[simp] theorem runL_seq' (T : FuncId → Option SFn) (ks : List Nat) (a b : SCode) (fr : Fr) (st : St) : runL T (.seq ks a b) fr st = thenR (runL T a fr st) (seqK T ks b) := runL_seq fr st ks a b
@[simp] theorem seqK_eq (T : FuncId → Option SFn) (ks : List Nat) (b : SCode) (fr : Fr) (st : St) : seqK T ks b fr st = runL T b (fr.only ks) st := by cases st; rfl

def condK (o : Option AV) (x y : Option Out) : Option Out := match o with
  | some (.v (.bool true)) => x
  | some (.v (.bool false)) => y
  | _ => none

@[simp] theorem runL_cond' (T : FuncId → Option SFn) (c : SX) (a b : SCode) (fr : Fr) (st : St) : runL T (.cond c a b) fr st = condK (evX fr c) (runL T a fr st) (runL T b fr st) := runL_cond fr st c a b
@[simp ↓] theorem condK_true {o : Option AV} {x y : Option Out} (h : o = some (.v (.bool true))) : condK o x y = x := by rw [h]; rfl
@[simp ↓] theorem condK_false {o : Option AV} {x y : Option Out} (h : o = some (.v (.bool false))) : condK o x y = y := by rw [h]; rfl

/-- The end of a function. -/
def endR (res : List SRes) : Option Out → Option (Res × St)
  | some (.nx, fr, st1) | some (.rt, fr, st1) => match fr.d with
    | [] => (match takeRess fr.s st1.H res with
      | some l => some (.ret (pack l), st1)
      | none => none)
    | _ => none
  | some (.pn a, fr, st1) => match fr.d with
    | [] => some (.pan a, st1)
    | _ => none
  | _ => none

theorem inner_eq (R : RunF) (s : SFn) (args : List AV) (st : St) : inner R s args st = endR s.res (R s.body { s := initFr 0 args, d := [] } st) := by
  unfold inner endR
  cases R s.body { s := initFr 0 args, d := [] } st with
  | none => rfl
  | some p =>
    obtain ⟨e, fr, st1⟩ := p
    cases e <;> rfl

section
variable (res : List SRes) (s : List (Nat × AV)) (st : St)
@[simp] theorem endR_rt : endR res (some (.rt, { s := s, d := [] }, st)) = (match takeRess s st.H res with
  | some l => some (.ret (pack l), st)
  | none => none) := by cases st; rfl
@[simp] theorem endR_nx : endR res (some (.nx, { s := s, d := [] }, st)) = (match takeRess s st.H res with
  | some l => some (.ret (pack l), st)
  | none => none) := by cases st; rfl
@[simp] theorem endR_pn (a : AV) : endR res (some (.pn a, { s := s, d := [] }, st)) = some (.pan a, st) := by cases st; rfl
end

def orI (k : IntKind) (a b : Int) : Int := k.wrap (BitVec.ofInt k.bits a ||| BitVec.ofInt k.bits b).toNat
def andI (k : IntKind) (a b : Int) : Int := k.wrap (BitVec.ofInt k.bits a &&& BitVec.ofInt k.bits b).toNat
def xorI (k : IntKind) (a b : Int) : Int := k.wrap (BitVec.ofInt k.bits a ^^^ BitVec.ofInt k.bits b).toNat
def andNotI (k : IntKind) (a b : Int) : Int := k.wrap (BitVec.ofInt k.bits a &&& ~~~(BitVec.ofInt k.bits b)).toNat
def shlI (k : IntKind) (a b : Int) : Int := k.wrap (a * 2 ^ (min b.toNat k.bits))
def shrI (k : IntKind) (a b : Int) : Int := a.fdiv (2 ^ (min b.toNat k.bits))

section
variable (k : IntKind) (a b : Int)
@[simp] theorem binInt_add : binInt .add k a b = some (.int k (k.wrap (a + b))) := rfl
@[simp] theorem binInt_sub : binInt .sub k a b = some (.int k (k.wrap (a - b))) := rfl
@[simp] theorem binInt_mul : binInt .mul k a b = some (.int k (k.wrap (a * b))) := rfl
@[simp] theorem binInt_quo : binInt .quo k a b = if b = 0 then none else some (.int k (k.wrap (a.tdiv b))) := rfl
@[simp] theorem binInt_rem : binInt .rem k a b = if b = 0 then none else some (.int k (a.tmod b)) := rfl
@[simp] theorem binInt_and : binInt .and k a b = some (.int k (andI k a b)) := rfl
@[simp] theorem binInt_or : binInt .or k a b = some (.int k (orI k a b)) := rfl
@[simp] theorem binInt_xor : binInt .xor k a b = some (.int k (xorI k a b)) := rfl
@[simp] theorem binInt_andNot : binInt .andNot k a b = some (.int k (andNotI k a b)) := rfl
@[simp] theorem binInt_eql : binInt .eql k a b = some (.bool (decide (a = b))) := rfl
@[simp] theorem binInt_neq : binInt .neq k a b = some (.bool (!decide (a = b))) := rfl
@[simp] theorem binInt_lss : binInt .lss k a b = some (.bool (a < b)) := rfl
@[simp] theorem binInt_leq : binInt .leq k a b = some (.bool (a ≤ b)) := rfl
@[simp] theorem binInt_gtr : binInt .gtr k a b = some (.bool (a > b)) := rfl
@[simp] theorem binInt_geq : binInt .geq k a b = some (.bool (a ≥ b)) := rfl
@[simp] theorem shiftInt_shl : shiftInt .shl k a b = if b < 0 then none else some (.int k (shlI k a b)) := rfl
@[simp] theorem shiftInt_shr : shiftInt .shr k a b = if b < 0 then none else some (.int k (shrI k a b)) := rfl
end

theorem orI_u8_128 {x : Int} (h0 : 0 ≤ x) (h1 : x < 128) : orI .u8 x 128 = x + 128 := by
  have h : ∀ k : Fin 128, orI .u8 (k.val : Int) 128 = k.val + 128 := by decide
  have := h ⟨x.toNat, by omega⟩
  rw [show ((⟨x.toNat, by omega⟩ : Fin 128).val : Int) = x from by simp; omega] at this
  exact this

@[simp] theorem exp1_v (st : St) (x : Value) : exp1 st (.v x) = some (.v x, st) := rfl
@[simp] theorem exp1_fn (st : St) (f : FuncId) : exp1 st (.fn f []) = some (.fn f [], st) := rfl
@[simp] theorem exp1_ro (st : St) (cs : List AV) (n : Nat) : exp1 st (.sl cs n .ro) = some (.sl cs n .ro, st) := rfl
@[simp] theorem exp1_full (st : St) (cs : List AV) (n : Nat) : exp1 st (.sl cs n .full) = some (.sl cs n .ro, st) := rfl
@[simp] theorem exp1_own (st : St) (cs : List AV) (n r e : Nat) : exp1 st (.sl cs n (.own r e)) = some (.sl cs n .ro, st) := rfl

@[simp] theorem put_some (fr : Fr) (k : Nat) (a : AV) : fr.put (some k) a = { s := (k, a) :: fr.s, d := fr.d } := rfl
@[simp] theorem put_none (fr : Fr) (a : AV) : fr.put none a = fr := rfl
@[simp] theorem only_mk (s : List (Nat × AV)) (d : List (FuncId × List AV)) (ks : List Nat) : Fr.only { s := s, d := d } ks = { s := onlyL s ks, d := d } := rfl

section
variable {T : FuncId → Option SFn} {f : FuncId} {s : SFn} {args args1 : List AV} {st st0 : St}

theorem call_whole (hT : T f = some s) (hk : s.kind = .whole ∨ s.kind = .grow) (hl : args.length = s.np) : callL T f args st = inner (runL T) s args st := by
  rw [callL_eq]
  unfold callOf
  rw [hT]
  simp only [hl, if_true]
  rcases hk with hk | hk <;> rw [hk]

/-- A callee's answer, its memory dropped. -/
def dropped (st0 : St) : Option (Res × St) → Option (Res × St)
  | some (.ret a, st1) => (expR st1 a).map fun x => (.ret x, st0)
  | some (.pan a, st1) => (expR st1 a).map fun x => (.pan x, st0)
  | none => none

/-- A callee's answer, the room behind its slice kept. -/
def kept (st0 : St) : Option (Res × St) → Option (Res × St)
  | some (.ret (.sl cs n (.own r e)), st1) => match st1.F[r]? with
    | some (e1, sz) => if e1 = e then some (.ret (.sl cs n (.own st0.F.length e)), { st0 with F := st0.F ++ [(e, sz)] }) else none
    | none => none
  | some (.ret (.sl cs n .full), _) => some (.ret (.sl cs n .full), st0)
  | some (.ret a, st1) => (expR st1 a).map fun x => (.ret x, st0)
  | some (.pan a, st1) => (expR st1 a).map fun x => (.pan x, st0)
  | none => none

theorem call_plain (hT : T f = some s) (hk : s.kind = .plain) (hl : args.length = s.np) (hx : expA st args = some (args1, st0)) : callL T f args st = dropped st0 (inner (runL T) s args1 .mt) := by
  rw [callL_eq]
  unfold callOf
  rw [hT]
  simp only [hl, if_true, hk, hx]
  rfl

/-- The answer of a function with a deferred closure. -/
def droppedG (st0 : St) : Option (AV × St) → Option (Res × St)
  | some (a, st1) => (expR st1 a).map fun x => (.ret x, st0)
  | none => none

theorem call_guard (hT : T f = some s) (hk : s.kind = .guard) (hl : args.length = s.np) (hx : expA st args = some (args1, st0)) : callL T f args st = droppedG st0 (innerG T (runL T) s args1 .mt) := by
  rw [callL_eq]
  unfold callOf
  rw [hT]
  simp only [hl, if_true, hk, hx]
  rfl

/-- A callee's answer, its slice a block of one's own. -/
def freshed (st0 : St) : Option (Res × St) → Option (Res × St)
  | some (.ret (.sl cs n (.own r e)), st1) => match st1.F[r]? with
    | some (e1, sz) => if e1 = e ∧ cs.length = e ∧ 0 < e ∧ cs.all AV.isV = true then some (.ret (.hs st0.H.length 0 n sz), { st0 with H := st0.H ++ [{ cells := cs, fz := false }] }) else none
    | none => none
  | some (.ret (.sl cs n .full), _) => some (.ret (.sl cs n .full), st0)
  | some (.ret a, st1) => (expR st1 a).map fun x => (.ret x, st0)
  | some (.pan a, st1) => (expR st1 a).map fun x => (.pan x, st0)
  | none => none

theorem call_fresh (hT : T f = some s) (hk : s.kind = .fresh) (hl : args.length = s.np) (hx : expA st args = some (args1, st0)) : callL T f args st = freshed st0 (inner (runL T) s args1 .mt) := by
  rw [callL_eq]
  unfold callOf
  rw [hT]
  simp only [hl, if_true, hk]
  unfold freshOf
  simp only [hx]
  rfl

/-- A call for a new block. -/
theorem call_marked (hT : T f = some s) (hk : s.kind = .keep) (hl : args.length = s.np) (hx : expA st args = some (args1, st0)) : callL T f (args ++ fmks) st = freshed st0 (inner (runL T) s args1 .mt) := by
  rw [callL_eq]
  unfold callOf
  rw [hT]
  have h1 : (args ++ fmks).length = s.np + 1000 := by rw [List.length_append, hl, show fmks.length = 1000 from List.length_replicate]
  have h2 : (args ++ fmks).take s.np = args := by rw [List.take_append_of_le_length (by omega), List.take_of_length_le (by omega)]
  have h3 : ((args ++ fmks).drop s.np).all AV.isMk = true := by
    rw [List.drop_append, List.drop_of_length_le (by omega), List.nil_append, hl, Nat.sub_self, List.drop_zero, List.all_eq_true]
    intro x hx
    rw [List.eq_of_mem_replicate hx]
    rfl
  simp only
  rw [if_neg (by omega), if_pos ⟨h1, hk, h3⟩, h2]
  unfold freshOf
  simp only [hx]
  rfl

/-- A pure callee's answer. -/
def pured (st : St) (args : List AV) : Option (Res × St) → Option (Res × St)
  | some (.ret a, st1) => match expR st1 a with
    | some x => if (scalR x || (args.flatMap hsOf).isEmpty) = true then some (.ret x, st) else none
    | none => none
  | _ => none

theorem call_pure (hT : T f = some s) (hk : s.kind = .pure) (hl : args.length = s.np) (hx : expA st args = some (args1, st0)) : callL T f args st = pured st args (inner (runL T) s args1 .mt) := by
  rw [callL_eq]
  unfold callOf
  rw [hT]
  simp only [hl, if_true, hk, hx]
  rfl

theorem call_keep (hT : T f = some s) (hk : s.kind = .keep) (hl : args.length = s.np) (hx : expA st args = some (args1, st0)) : callL T f args st = kept st0 (inner (runL T) s args1 .mt) := by
  rw [callL_eq]
  unfold callOf
  rw [hT]
  simp only [hl, if_true, hk, hx]
  rfl
end

/-- A closure that recovers 'v' ends well. -/
noncomputable def catchK (T : FuncId → Option SFn) (l : List (Nat × AV)) (res : List SRes) (g : FuncId) (caps : List AV) (v : AV) (st : St) : Option (AV × St) :=
  match catchR T (runL T) g caps v st with
  | some st2 => match takeRess l st2.H res with
    | some xs => some (pack xs, st2)
    | none => none
  | none => none

noncomputable def endG (T : FuncId → Option SFn) (res : List SRes) : Option Out → Option (AV × St)
  | some out => match openG out with
    | some (l, g, caps, v, st1) => catchK T l res g caps v st1
    | none => none
  | none => none

theorem innerG_eq (T : FuncId → Option SFn) (s : SFn) (args : List AV) (st : St) : innerG T (runL T) s args st = endG T s.res (runL T s.body { s := initFr 0 args, d := [] } st) := by
  unfold innerG endG catchK
  rfl

section
variable (T : FuncId → Option SFn) (res : List SRes) (s : List (Nat × AV)) (g : FuncId) (caps : List AV) (st : St)
@[simp] theorem endG_rt : endG T res (some (.rt, { s := s, d := [(g, caps)] }, st)) = catchK T s res g caps (.v .nilIface) st := by cases st; rfl
@[simp] theorem endG_nx : endG T res (some (.nx, { s := s, d := [(g, caps)] }, st)) = catchK T s res g caps (.v .nilIface) st := by cases st; rfl
@[simp] theorem endG_pn (a : AV) : endG T res (some (.pn a, { s := s, d := [(g, caps)] }, st)) = catchK T s res g caps a st := by cases st; rfl
end

theorem catchK_eq {T : FuncId → Option SFn} {sg : SFn} {r x : Nat} {l : List (Nat × AV)} {res : List SRes} {g : FuncId} {caps : List AV} {v : AV} {st st2 : St} {e : Ex} {fr2 : Fr} (hT : T g = some sg) (hk : sg.kind = .catch r x) (hl : caps.length = sg.np) (hres : sg.res = [])
    (hrun : runL T sg.body { s := (x, v) :: (r, v) :: initFr 0 caps, d := [] } st = some (e, fr2, st2)) (he : e = .nx ∨ e = .rt) (hd : fr2.d = []) {xs : List AV} (hx : takeRess l st2.H res = some xs) : catchK T l res g caps v st = some (pack xs, st2) := by
  have hend : endC [] (e, fr2, st2) = some st2 := by
    rcases he with rfl | rfl <;> simp [endC, hd]
  unfold catchK catchR
  rw [hT]
  simp only [hk, hl, if_true, hrun, hres, hend, hx]

theorem wrap_i64 {x : Int} (h1 : -9223372036854775808 ≤ x) (h2 : x < 9223372036854775808) : IntKind.wrap .i64 x = x := by
  rw [IntKind.wrap_i64]; omega

theorem wrap_u8 (x : Int) : IntKind.wrap .u8 x = x % 256 := IntKind.wrap_u8 x

theorem look_onlyL {l : List (Nat × AV)} : ∀ {ks : List Nat} {i : Nat}, i ∈ ks → look (onlyL l ks) i = look l i
  | k :: r, i, h => by
    simp only [onlyL]
    by_cases hk : k = i
    · subst hk
      cases hl : look l k with
      | some a => simp [look]
      | none =>
        simp only
        cases h2 : look (onlyL l r) k with
        | none => rfl
        | some a => rw [look_only h2] at hl; cases hl
    · have hr : i ∈ r := by simpa [Ne.symm hk] using h
      cases hl : look l k with
      | some a => simp only [look, if_neg hk]; exact look_onlyL hr
      | none => exact look_onlyL hr

theorem onlyL_congr {l m : List (Nat × AV)} : ∀ {ks : List Nat}, (∀ i ∈ ks, look l i = look m i) → onlyL l ks = onlyL m ks
  | [], _ => rfl
  | k :: r, h => by simp only [onlyL, h k (by simp), onlyL_congr (ks := r) (fun i hi => h i (by simp [hi]))]

theorem only_only (fr : Fr) (ks : List Nat) : (fr.only ks).only ks = fr.only ks := by
  unfold Fr.only
  rw [onlyL_congr fun i hi => look_onlyL hi]

/-- A loop looks at its live slots alone. -/
theorem loop_from {T : FuncId → Option SFn} {ks : List Nat} {c : SCode} {fr fr2 : Fr} {st : St} (h : fr.only ks = fr2.only ks) : runL T (.loop ks c) fr st = runL T (.loop ks c) fr2 st := by
  rw [runL_loop, runL_loop, h]

theorem loop_use {T : FuncId → Option SFn} {ks : List Nat} {c : SCode} {fr2 : Fr} {st : St} {o : Option Out} (h : runL T (.loop ks c) fr2 st = o) (fr : Fr) (he : fr.only ks = fr2.only ks) : runL T (.loop ks c) fr st = o :=
  (loop_from he).trans h

/-- A slice to which may be appended, with its content: cells, number of elements. -/
inductive App (st : St) (sz : Nat) : AV → List AV → Nat → Prop where
  | nil : App st sz (.v (.slice none 0 0)) [] 0
  | full {cs : List AV} {n : Nat} : cs.length = n * sz → App st sz (.sl cs n .full) cs n
  | own {cs : List AV} {n r e : Nat} : cs.length = n * sz → st.F[r]? = some (e, sz) → App st sz (.sl cs n (.own r e)) cs n

/-- A slice that can be read: nil or not. -/
inductive IsL (sz : Nat) : AV → List AV → Nat → Prop where
  | nil {q : Option Addr} : IsL sz (.v (.slice q 0 0)) [] 0
  | sl {cs : List AV} {n : Nat} {t : Tag} : t ≠ .ptrs → cs.length = n * sz → IsL sz (.sl cs n t) cs n

theorem App.isL {st : St} {sz : Nat} {x : AV} {cs : List AV} {n : Nat} (h : App st sz x cs n) : IsL sz x cs n := by
  cases h with
  | nil => exact .nil
  | full h => exact .sl (by simp) h
  | own h _ => exact .sl (by simp) h

theorem App.form {st : St} {sz : Nat} {x : AV} {cs : List AV} {n : Nat} (h : App st sz x cs n) (hn : 0 < n) : ∃ t, x = .sl cs n t ∧ t ≠ .ptrs := by
  cases h with
  | nil => omega
  | full h => exact ⟨_, rfl, by simp⟩
  | own h hF => exact ⟨_, rfl, by simp⟩

theorem app_append {st : St} {sz bytes : Nat} {x y : AV} {cs ds : List AV} {n m : Nat} (hx : App st sz x cs n) (hy : IsL sz y ds m) (hsz : 0 < sz) (hb : (n + m) * bytes ≤ most47) (hm : n + m ≤ 1099511627776) :
    ∃ z st', opAppend st sz bytes x y = some (z, st') ∧ App st' sz z (cs ++ ds) (n + m) ∧ st'.H = st.H := by
  have hmax : ∀ k, k ≤ n + m → k ≤ maxLen := fun k hk => by simp only [maxLen]; omega
  have hsrc : srcOf st y sz = some (ds, m) := by
    cases hy with
    | nil => rfl
    | sl ht hl => simp [srcOf, ht]
  have hlen : ds.length = m * sz := by
    cases hy with
    | nil => simp
    | sl ht hl => exact hl
  have hb2 : m * bytes ≤ most47 := Nat.le_trans (Nat.mul_le_mul_right _ (by omega)) hb
  by_cases h0 : m = 0
  · subst h0
    have hds : ds = [] := by simpa using hlen
    subst hds
    refine ⟨x, st, ?_, by simpa using hx, rfl⟩
    unfold opAppend
    rw [hsrc]
    cases hx <;> simp [hsz]
  · unfold opAppend
    rw [hsrc]
    cases hx with
    | nil =>
      refine ⟨.sl ds m (.own st.F.length ds.length), { st with F := st.F ++ [(ds.length, sz)] }, by simp [hlen, hsz, h0, hb2, hmax m (by omega)], ?_, rfl⟩
      simp only [List.nil_append, Nat.zero_add]
      exact .own hlen (by simp)
    | full h =>
      refine ⟨.sl (cs ++ ds) (n + m) (.own st.F.length (cs ++ ds).length), { st with F := st.F ++ [((cs ++ ds).length, sz)] }, by simp [hlen, hsz, h0, hb, hmax (n + m) (by omega), h], .own (by simp [h, hlen, Nat.add_mul]) (by simp), rfl⟩
    | own h hF =>
      rename_i r e
      refine ⟨.sl (cs ++ ds) (n + m) (.own r (e + ds.length)), { st with F := st.F.set r (e + ds.length, sz) }, by simp [hlen, hsz, h0, hb, hmax (n + m) (by omega), h, hF], .own (by simp [h, hlen, Nat.add_mul]) ?_, rfl⟩
      have := (List.getElem?_eq_some_iff.1 hF).1
      simp [this]

theorem kept_app {st st1 : St} {sz : Nat} {y : AV} {cs : List AV} {n : Nat} (h : App st1 sz y cs n) : ∃ y' st', kept st (some (.ret y, st1)) = some (.ret y', st') ∧ App st' sz y' cs n ∧ st'.H = st.H := by
  cases h with
  | nil => exact ⟨_, st, rfl, .nil, rfl⟩
  | full h => exact ⟨_, st, rfl, .full h, rfl⟩
  | own h hF =>
    rename_i r e
    exact ⟨.sl cs n (.own st.F.length e), { st with F := st.F ++ [(e, sz)] }, by simp only [kept, hF, if_true], .own h (by simp), rfl⟩

/-- A slice as it goes to others. -/
theorem IsL.exp {sz : Nat} {x : AV} {cs : List AV} {n : Nat} (h : IsL sz x cs n) (st : St) : ∃ y, exp1 st x = some (y, st) ∧ IsL sz y cs n ∧ exp0 st x = some (y, st) ∧ clean1 x = some y := by
  cases h with
  | nil => exact ⟨_, rfl, .nil, rfl, rfl⟩
  | sl ht hl => exact ⟨.sl cs n .ro, by simp [exp1, ht], .sl (by simp) hl, by simp [ht], by simp [ht]⟩

end VS
end Go.Proofs.Ytkhekmmldnjenaa
/- From what the evaluator answers to what a row of the claim says: 'true, and the arguments read as they did'. -/
namespace Go.Proofs.Ytkhekmmldnjenaa
namespace VS
open Go.ChangeShapes Go.WideShapes Go.ChangeAt Go.RowKit

section
variable {H : Type} {enc : TypeId × Value → H} {P : Program}

/-- All arguments read behind the call as before, where below the heap's old size nothing has turned. -/
theorem trodAll_below (hl : laidOutB P = true) {W W' : World} (hb : Below W.heap.size W W') : ∀ {ts : List TypeId} {vs : List Value} {ds : List (DataW H)} {ps : List MemPlace},
    (∀ t ∈ ts, P.readableRec t = true ∧ t < P.types.size) → DataW.TrodAll enc P W 0 (fun _ => true) true ts vs ds ps → (∀ x ∈ ps, x.block < W.heap.size) → DataW.TrodAll enc P W' 0 (fun b => decide (b < W.heap.size)) true ts vs ds ps
  | [], vs, ds, ps, _, h, _ => by
    obtain ⟨rfl, rfl, rfl⟩ := trodAll_nil h
    exact trodAll_mk0
  | t :: ts, vs, ds, ps, ht, h, hlt => by
    obtain ⟨v, vs', d, ds', p, q, rfl, rfl, rfl, h1, h2⟩ := trodAll_cons h
    obtain ⟨hr, hrow⟩ := ht t (by simp)
    exact ⟨p, q, Below.trod hl hr hrow h1 hb (fun x hx => hlt x (by simp [hx])), trodAll_below hl hb (fun u hu => ht u (by simp [hu])) h2 (fun x hx => hlt x (by simp [hx])), rfl⟩

theorem law_post {fn : Func} {s : ChangeSpec} {apart fresh handsOn : Bool} {W W' : World} {args : Array Value} {ds gs : List (DataW H)} {before : List MemPlace} {tr : TypeId} (hvars : s.vars = []) (hl : laidOutB P = true)
    (hread : ∀ t ∈ fn.params.toList, P.readableRec t = true ∧ t < P.types.size) (hr : fn.resultTypes = #[tr]) (htr : P.underlying tr = some .bool)
    (hW : DataW.Whole enc P fn.params.toList s.vars apart W args.toList ds gs before) (hfn : s.fn H (ds ++ gs) = { results := [.lit (.bool true)], args := ds }) (hb : Below W.heap.size W W') :
    s.post enc P fn apart fresh handsOn false W args (.bool true) W' := by
  have hW' := hW
  obtain ⟨p, q, hA, hV, rfl, _, _⟩ := hW
  rw [hvars] at hV
  obtain ⟨rfl, rfl⟩ := trodVars_none hV
  refine ⟨ds, [], p ++ [], [], p, [], hW', ?_, ?_, ?_, hb.frame _, fun h => by cases h⟩
  · rw [hr, hfn]
    exact trodAll_mk1 (shut_bool htr true)
  · rw [hfn]
    exact trodAll_below hl hb hread hA fun x hx => hW'.lt x (by simp [hx])
  · rw [hvars, hfn]; rfl

/-- The state in which a law is called: no memory of its own; all that is there may be read. -/
def Sim.start (W : World) : Sim := { w := W, hm := [], rm := [], st := .mt, B := W.heap.size, A := fun _ _ _ => True }

theorem start_inv (W : World) : Inv (Sim.start W) :=
  ⟨Nat.le_refl _, rfl, rfl, fun b g h => by simp [Sim.start] at h, fun b g fl h => by simp [Sim.start] at h, fun b b' g h => by simp [Sim.start] at h, fun b b' g fl fl' h => by simp [Sim.start] at h,
    fun b r g fl h => by simp [Sim.start] at h, fun _ _ _ _ _ _ _ _ => trivial⟩

theorem start_safe {W : World} {g lo k : Nat} (h : g < W.heap.size) : (Sim.start W).safe g lo k :=
  ⟨fun _ => trivial, h, fun b hb => by simp [Sim.start] at hb, fun r fl hr => by simp [Sim.start] at hr⟩

/-- A law that the evaluator finds true. -/
theorem law_calls {C : CallF} (hC : CallOk P C) {f : FuncId} {avs : List AV} {st : St} {W : World} {args : Array Value} (h : C f avs .mt = some (.ret (.v (.bool true)), st)) (hr : RepL (Sim.start W) avs args.toList) :
    Calls P f args W fun e W' => e = .returned (.bool true) ∧ Below W.heap.size W W' := by
  have := (hC f avs .mt _ st h).2 (Sim.start W) args.toList avs (.inl rfl) rfl (start_inv W) hr
  simp only [Array.toArray_toList] at this
  refine Calls.mono this fun e W' => ?_
  rintro ⟨S', rfl, _, _, _, hst, he⟩
  cases e with
  | returned y =>
    obtain ⟨rfl, _⟩ := Rep.v_inv he
    exact ⟨rfl, hst.below⟩
  | panicked ch => simp [EndOk] at he
  | outgrown => simp [EndOk] at he

theorem law_contract {C : CallF} (hC : CallOk P C) {f : FuncId} {fn : Func} {s : ChangeSpec} {apart fresh handsOn : Bool} {W : World} {args : Array Value} {ds gs : List (DataW H)} {before : List MemPlace} {tr : TypeId} (hvars : s.vars = []) (hl : laidOutB P = true)
    (hread : ∀ t ∈ fn.params.toList, P.readableRec t = true ∧ t < P.types.size) (hr : fn.resultTypes = #[tr]) (htr : P.underlying tr = some .bool)
    (hW : DataW.Whole enc P fn.params.toList s.vars apart W args.toList ds gs before) (hfn : s.fn H (ds ++ gs) = { results := [.lit (.bool true)], args := ds }) {avs : List AV} {st : St}
    (h : C f avs .mt = some (.ret (.v (.bool true)), st)) (hrep : RepL (Sim.start W) avs args.toList) :
    Calls P f args W fun e W' => ∃ v, e = .returned v ∧ s.post enc P fn apart fresh handsOn false W args v W' :=
  Calls.mono (law_calls hC h hrep) fun _ _ ⟨he, hb⟩ => ⟨.bool true, he, law_post hvars hl hread hr htr hW hfn hb⟩

end

end VS
end Go.Proofs.Ytkhekmmldnjenaa
/- Arguments: what the row says of them, as abstract values. -/
namespace Go.Proofs.Ytkhekmmldnjenaa
namespace VS
open Go.ChangeShapes Go.WideShapes Go.ChangeAt Go.RowKit

/-- What one cell holds. -/
inductive Sh where
  | bool
  | int (k : IntKind)
  | str
  | list (row : List Sh)

mutual
inductive Fit : Sh → AV → Prop where
  | bool {x : Bool} : Fit .bool (.v (.bool x))
  | int {k : IntKind} {n : Int} : (Lit.int k n).wf = true → Fit (.int k) (.v (.int k n))
  | str {x : ByteArray} : x.size ≤ maxLen → Fit .str (.v (.string x))
  | nil {row : List Sh} {q : Option Addr} : Fit (.list row) (.v (.slice q 0 0))
  | list {row : List Sh} {cs : List AV} {n : Nat} : FitN row n cs → Fit (.list row) (.sl cs n .ro)
inductive FitL : List Sh → List AV → Prop where
  | nil : FitL [] []
  | cons {s : Sh} {r : List Sh} {a : AV} {l : List AV} : Fit s a → FitL r l → FitL (s :: r) (a :: l)
inductive FitN : List Sh → Nat → List AV → Prop where
  | nil {row : List Sh} : FitN row 0 []
  | cons {row : List Sh} {n : Nat} {a l : List AV} : FitL row a → FitN row n l → FitN row (n + 1) (a ++ l)
end

theorem Fit.clean {s : Sh} {a : AV} (h : Fit s a) : clean1 a = some a ∧ a.one = true := by
  cases h <;> exact ⟨by simp [clean1], rfl⟩

theorem FitL.clean : ∀ {r : List Sh} {l : List AV}, FitL r l → (∀ a ∈ l, clean1 a = some a) ∧ (∀ a ∈ l, a.one = true) ∧ l.length = r.length
  | _, _, .nil => by simp
  | _, _, .cons h1 h2 => by
    obtain ⟨h3, h4, h5⟩ := FitL.clean h2
    refine ⟨fun a ha => ?_, fun a ha => ?_, by simp [h5]⟩
    · rcases List.mem_cons.1 ha with rfl | ha
      · exact h1.clean.1
      · exact h3 a ha
    · rcases List.mem_cons.1 ha with rfl | ha
      · exact h1.clean.2
      · exact h4 a ha

theorem FitL.append : ∀ {r r' : List Sh} {l l' : List AV}, FitL r l → FitL r' l' → FitL (r ++ r') (l ++ l')
  | _, _, _, _, .nil, h => h
  | _, _, _, _, .cons h1 h2, h => .cons h1 (FitL.append h2 h)

theorem FitN.clean : ∀ {row : List Sh} {n : Nat} {l : List AV}, FitN row n l → (∀ a ∈ l, clean1 a = some a) ∧ (∀ a ∈ l, a.one = true) ∧ l.length = n * row.length
  | _, _, _, .nil => by simp
  | _, _, _, .cons h1 h2 => by
    obtain ⟨h3, h4, h5⟩ := FitN.clean h2
    obtain ⟨h6, h7, h8⟩ := h1.clean
    refine ⟨fun a ha => ?_, fun a ha => ?_, by simp [h5, h8, Nat.add_mul, Nat.add_comm]⟩
    · rcases List.mem_append.1 ha with ha | ha
      · exact h6 a ha
      · exact h3 a ha
    · rcases List.mem_append.1 ha with ha | ha
      · exact h7 a ha
      · exact h4 a ha

def fsSh (P : Program) (g : TypeId → Option (List Sh)) : List Field → Nat → Option (List Sh)
  | [], _ => some []
  | f :: r, o => match g f.type with
    | some a => if f.offset = o ∧ a.length = P.cellsOf f.type then (fsSh P g r (o + a.length)).map (a ++ ·) else none
    | none => none

def repSh (r : List Sh) : Nat → List Sh
  | 0 => []
  | n + 1 => r ++ repSh r n

/-- A type, cell for cell. -/
def shOf (P : Program) : Nat → TypeId → Option (List Sh)
  | 0, _ => none
  | f + 1, t => match P.underlying t with
    | some .bool => some [.bool]
    | some (.int k) => some [.int k]
    | some .string => some [.str]
    | some (.slice e) => match shOf P f e with
      | some r => if r.length = P.cellsOf e ∧ 0 < P.cellsOf e then some [.list r] else none
      | none => none
    | some (.struct fs) => match fsSh P (shOf P f) fs.toList 0 with
      | some r => if r.length = P.cellsOf t then some r else none
      | none => none
    | some (.array n e) => match shOf P f e with
      | some r => if r.length = P.cellsOf e ∧ n * P.cellsOf e = P.cellsOf t then some (repSh r n) else none
      | none => none
    | _ => none

theorem repSh_length (r : List Sh) : ∀ n, (repSh r n).length = n * r.length
  | 0 => by simp [repSh]
  | n + 1 => by simp [repSh, repSh_length r n, Nat.add_mul, Nat.add_comm]

section
variable {H : Type} {enc : TypeId × Value → H} {P : Program} {W : World}

theorem cells_read {a : Addr} {n : Nat} {cs : List Value} (h : W.cells? 0 a n = some cs) : cs.length = n ∧ ∀ i, i < n → W.cell? (a.add i) = cs[i]? := by
  unfold World.cells? at h
  rw [if_pos (Nat.zero_le _)] at h
  exact ⟨by simpa using mapM_some_length h, fun i hi => mapM_some_get h i i (by simp [hi])⟩

theorem cell_place {a : Addr} {v : Value} (h : W.cell? a = some v) : a.spot = none ∧ a.block < W.heap.size := by
  unfold World.cell? at h
  split at h
  · rename_i c e f hc
    split at h
    · cases h
    · rename_i hs
      exact ⟨by simpa using hs, (Array.getElem?_eq_some_iff.1 hc).1⟩
  · cases h

theorem fs_rep {m : Nat} {g : TypeId → Option (List Sh)} (ih : ∀ (t : TypeId) (row : List Sh) (cs : List Value) (x : DataW H × List MemPlace), g t = some row → DataW.trod enc P W 0 (fun _ => true) true m t cs = some x → ∃ l, RepL (Sim.start W) l cs ∧ FitL row l)
    (cs : List Value) : ∀ (fs : List Field) (o : Nat) (row : List Sh), fsSh P g fs o = some row → cs.length = o + row.length →
    (∀ f ∈ fs, ∃ x, DataW.trod enc P W 0 (fun _ => true) true m f.type ((cs.drop f.offset).take (P.cellsOf f.type)) = some x) → ∃ l, RepL (Sim.start W) l (cs.drop o) ∧ FitL row l
  | [], o, row, h, hl, _ => by
    simp only [fsSh, Option.some.injEq] at h
    subst h
    refine ⟨[], ?_, .nil⟩
    rw [List.drop_eq_nil_of_le (by simp at hl; omega)]
    exact .nil
  | f :: r, o, row, h, hl, hx => by
    unfold fsSh at h
    split at h
    · rename_i a ha
      split at h
      · rename_i hc
        obtain ⟨h1, h2⟩ := hc
        rw [Option.map_eq_some_iff] at h
        obtain ⟨row', hr, rfl⟩ := h
        obtain ⟨x, hx1⟩ := hx f (by simp)
        obtain ⟨l1, k1, k2⟩ := ih _ _ _ _ ha hx1
        obtain ⟨l2, k3, k4⟩ := fs_rep ih cs r (o + a.length) row' hr (by rw [hl]; simp [Nat.add_assoc]) fun f' hf' => hx f' (by simp [hf'])
        refine ⟨l1 ++ l2, ?_, k2.append k4⟩
        have := k1.append k3
        rw [h1, ← h2, ← List.drop_drop, List.take_append_drop] at this
        exact this
      · cases h
    · cases h

theorem arr_rep {m c : Nat} {e : TypeId} {row : List Sh} (ih : ∀ (cs : List Value) (x : DataW H × List MemPlace), DataW.trod enc P W 0 (fun _ => true) true m e cs = some x → ∃ l, RepL (Sim.start W) l cs ∧ FitL row l)
    (cs : List Value) : ∀ (k i : Nat), cs.length = (i + k) * c → (∀ j, i ≤ j → j < i + k → ∃ x, DataW.trod enc P W 0 (fun _ => true) true m e ((cs.drop (j * c)).take c) = some x) → ∃ l, RepL (Sim.start W) l (cs.drop (i * c)) ∧ FitL (repSh row k) l
  | 0, i, hl, _ => by
    refine ⟨[], ?_, .nil⟩
    rw [List.drop_eq_nil_of_le (by rw [hl]; simp)]
    exact .nil
  | k + 1, i, hl, hx => by
    obtain ⟨x, hx1⟩ := hx i (by omega) (by omega)
    obtain ⟨l1, k1, k2⟩ := ih _ _ hx1
    obtain ⟨l2, k3, k4⟩ := arr_rep ih cs k (i + 1) (by rw [hl]; congr 1; omega) fun j h1 h2 => hx j (by omega) (by omega)
    refine ⟨l1 ++ l2, ?_, k2.append k4⟩
    have := k1.append k3
    rw [Nat.add_mul, Nat.one_mul, ← List.drop_drop, List.take_append_drop] at this
    exact this

theorem row_rep {m : Nat} {e : TypeId} {row : List Sh} (ih : ∀ (cs : List Value) (x : DataW H × List MemPlace), DataW.trod enc P W 0 (fun _ => true) true m e cs = some x → ∃ l, RepL (Sim.start W) l cs ∧ FitL row l)
    (hrow : row.length = P.cellsOf e) (g off : Nat) : ∀ (k i : Nat), (∀ j, i ≤ j → j < i + k → ∃ cs x, W.cells? 0 ⟨g, off + j * P.cellsOf e, none⟩ (P.cellsOf e) = some cs ∧ DataW.trod enc P W 0 (fun _ => true) true m e cs = some x) →
    ∃ l ys, RepL (Sim.start W) l ys ∧ FitN row k l ∧ ∀ j y, ys[j]? = some y → W.cell? ⟨g, off + i * P.cellsOf e + j, none⟩ = some y
  | 0, i, _ => ⟨[], [], .nil, .nil, by simp⟩
  | k + 1, i, hx => by
    obtain ⟨cs, x, hc, hx1⟩ := hx i (by omega) (by omega)
    obtain ⟨hlen, hcell⟩ := cells_read hc
    obtain ⟨l1, k1, k2⟩ := ih _ _ hx1
    obtain ⟨l2, ys, k3, k4, k5⟩ := row_rep ih hrow g off k (i + 1) fun j h1 h2 => hx j (by omega) (by omega)
    refine ⟨l1 ++ l2, cs ++ ys, k1.append k3, .cons k2 k4, fun j y hy => ?_⟩
    rcases Nat.lt_or_ge j cs.length with h | h
    · rw [List.getElem?_append_left h] at hy
      have := hcell j (by omega)
      rw [Addr_add] at this
      exact this.trans hy
    · rw [List.getElem?_append_right h] at hy
      have := k5 _ _ hy
      rw [← this]
      congr 2
      rw [Nat.add_mul]; omega

theorem trod_rep : ∀ (f : Nat) (t : TypeId) (row : List Sh) (fuel : Nat) (cs : List Value) (x : DataW H × List MemPlace), shOf P f t = some row → DataW.trod enc P W 0 (fun _ => true) true fuel t cs = some x → ∃ l, RepL (Sim.start W) l cs ∧ FitL row l
  | 0, _, _, _, _, _, h, _ => by simp [shOf] at h
  | f + 1, t, row, fuel, cs, x, h, hx => by
    unfold shOf at h
    split at h
    · rename_i ht
      cases h
      obtain ⟨b, rfl, _⟩ := DataW.trod_bool ht hx
      exact ⟨[.v (.bool b)], .cons (.v rfl) .nil, .cons .bool .nil⟩
    · rename_i k ht
      cases h
      obtain ⟨n, rfl, _, hw⟩ := DataW.trod_int ht hx
      exact ⟨[.v (.int k n)], .cons (.v rfl) .nil, .cons (.int hw) .nil⟩
    · rename_i ht
      cases h
      obtain ⟨s, rfl, _, hw⟩ := DataW.trod_string ht hx
      exact ⟨[.v (.string s)], .cons (.v rfl) .nil, .cons (.str hw) .nil⟩
    · rename_i e ht
      split at h
      · rename_i r hr
        split at h
        · rename_i hc
          obtain ⟨hc1, hc2⟩ := hc
          cases h
          rcases DataW.trod_slice ht hx with ⟨rfl, _⟩ | ⟨a, len, cap, elems, rest, n, rfl, rfl, _, _, hle, hmax, hlen, hel, hsp, _⟩
          · exact ⟨[.v (.slice none 0 0)], .cons (.v rfl) .nil, .cons .nil .nil⟩
          · obtain ⟨hrl, hrest⟩ := hsp rfl
            by_cases h0 : cap = 0
            · have : len = 0 := by omega
              subst this; subst h0
              exact ⟨[.v (.slice (some a) 0 0)], .cons (.v rfl) .nil, .cons .nil .nil⟩
            · have hfirst : ∃ v, W.cell? a = some v := by
                have : ∃ cs y, W.cells? 0 (a.add 0) (P.cellsOf e) = some cs ∧ DataW.trod enc P W 0 (fun _ => true) true n e cs = some y := by
                  by_cases hl0 : len = 0
                  · have h1 := hrest 0 (by omega)
                    rw [hl0] at h1
                    obtain ⟨y, hy⟩ : ∃ y, rest[0]? = some y := ⟨rest[0]'(by omega), by simp⟩
                    rw [hy, Option.bind_eq_some_iff] at h1
                    simp only [Nat.zero_add, Nat.zero_mul] at h1
                    obtain ⟨cs, h2, h3⟩ := h1
                    exact ⟨cs, y, h2, h3⟩
                  · have h1 := hel 0 (by omega)
                    obtain ⟨y, hy⟩ : ∃ y, elems[0]? = some y := ⟨elems[0]'(by omega), by simp⟩
                    rw [hy, Option.bind_eq_some_iff] at h1
                    simp only [Nat.zero_mul] at h1
                    obtain ⟨cs, h2, h3⟩ := h1
                    exact ⟨cs, y, h2, h3⟩
                obtain ⟨cs, y, h2, _⟩ := this
                obtain ⟨h3, h4⟩ := cells_read h2
                have h5 := h4 0 hc2
                obtain ⟨v, hv⟩ : ∃ v, cs[0]? = some v := ⟨cs[0]'(by omega), by simp⟩
                rw [hv] at h5
                exact ⟨v, by simpa [Addr.add] using h5⟩
              obtain ⟨v, hv⟩ := hfirst
              obtain ⟨hs, hb⟩ := cell_place hv
              obtain ⟨g, off, sp⟩ := a
              simp only at hs hb
              subst hs
              obtain ⟨l, ys, k1, k2, k3⟩ := row_rep (P := P) (fun cs x hx => trod_rep f e r n cs x hr hx) hc1 g off len 0 fun j _ hj => by
                have h1 := hel j (by omega)
                obtain ⟨y, hy⟩ : ∃ y, elems[j]? = some y := ⟨elems[j]'(by omega), by simp⟩
                rw [hy, Option.bind_eq_some_iff, Addr_add] at h1
                obtain ⟨cs, h2, h3⟩ := h1
                exact ⟨cs, y, h2, h3⟩
              obtain ⟨k4, k5, k6⟩ := k2.clean
              refine ⟨[.sl l len .ro], .cons (.sl hle hmax (start_safe hb) k1 (fun i y hy => ?_) k5 (fun _ => k4) trivial) .nil, .cons (.list k2) .nil⟩
              have := k3 i y hy
              rw [Nat.zero_mul, Nat.add_zero] at this
              exact this
        · cases h
      · cases h
    · rename_i fs ht
      split at h
      · rename_i r hr
        split at h
        · rename_i hl
          cases h
          obtain ⟨xs, n, rfl, _, hlen, hxl, hfs⟩ := DataW.trod_struct ht hx
          have := fs_rep (fun t row cs x h1 h2 => trod_rep f t row n cs x h1 h2) cs fs.toList 0 row hr (by omega) fun fl hfl => by
            obtain ⟨i, hi⟩ := List.getElem?_of_mem hfl
            have hi' : fs[i]? = some fl := by simpa using hi
            have := hfs i fl hi'
            have hlt : i < xs.length := by rw [hxl]; exact (Array.getElem?_eq_some_iff.1 hi').1
            exact ⟨xs[i], this.trans (by simp)⟩
          simpa using this
        · cases h
      · cases h
    · rename_i n e ht
      split at h
      · rename_i r hr
        split at h
        · rename_i hc
          obtain ⟨hc1, hc2⟩ := hc
          cases h
          obtain ⟨xs, m, rfl, _, hlen, hxl, hel⟩ := DataW.trod_array ht hx
          have := arr_rep (c := P.cellsOf e) (fun cs x hx => trod_rep f e r m cs x hr hx) cs n 0 (by rw [hlen, ← hc2]; simp) fun j _ hj => ⟨xs[j]'(by omega), (hel j (by omega)).trans (by simp)⟩
          simpa using this
        · cases h
      · cases h
    · cases h

/-- An argument: one cell, or several. -/
inductive ASh where
  | one (s : Sh)
  | agg (r : List Sh)

inductive FitA : ASh → AV → Prop where
  | one {s : Sh} {a : AV} : Fit s a → FitA (.one s) a
  | agg {r : List Sh} {l : List AV} : FitL r l → FitA (.agg r) (.agg l)

def ashOf (P : Program) (f : Nat) (t : TypeId) : Option ASh :=
  match P.underlying t with
  | some (.struct _) | some (.array _ _) => (shOf P f t).map .agg
  | some .bool | some (.int _) | some .string | some (.slice _) => match shOf P f t with
    | some [s] => some (.one s)
    | _ => none
  | _ => none

theorem arg_rep {f : Nat} {t : TypeId} {s : ASh} {v : Value} {d : DataW H} {p : List MemPlace} {r : Reach} {b : Nat} (h : ashOf P f t = some s) (hv : Value.okWide P W r b t v) (hx : DataW.Trod enc P W 0 (fun _ => true) true t v d p) :
    ∃ a, Rep (Sim.start W) a v ∧ FitA s a := by
  obtain ⟨fuel, hx⟩ := hx
  have flat : ∀ {s' : Sh}, shOf P f t = some [s'] → v.cells = #[v] → ∃ a, Rep (Sim.start W) a v ∧ FitA (.one s') a := by
    intro s' hs hc
    obtain ⟨l, k1, k2⟩ := trod_rep f t _ fuel _ _ hs hx
    rw [hc] at k1
    cases k2 with
    | cons k3 k4 =>
      cases k4
      cases k1 with
      | cons k5 _ => exact ⟨_, k5, .one k3⟩
  unfold ashOf at h
  unfold Value.okWide at hv
  split at h
  · rename_i ht
    rw [Option.map_eq_some_iff] at h
    obtain ⟨row, hs, rfl⟩ := h
    rw [ht] at hv
    obtain ⟨cs, rfl, _⟩ := hv
    obtain ⟨l, k1, k2⟩ := trod_rep f t _ fuel _ _ hs hx
    exact ⟨.agg l, by simpa [Value.cells] using Rep.agg k1 k2.clean.2.1, .agg k2⟩
  · rename_i ht
    rw [Option.map_eq_some_iff] at h
    obtain ⟨row, hs, rfl⟩ := h
    rw [ht] at hv
    obtain ⟨cs, rfl, _⟩ := hv
    obtain ⟨l, k1, k2⟩ := trod_rep f t _ fuel _ _ hs hx
    exact ⟨.agg l, by simpa [Value.cells] using Rep.agg k1 k2.clean.2.1, .agg k2⟩
  all_goals first
    | (cases h; done)
    | (rename_i ht
       split at h
       · rename_i hs
         cases h
         rw [ht] at hv
         refine flat hs ?_
         cases v <;> first | rfl | (simp [Cell.okWide, Cell.ok, ht] at hv; done)
       · cases h)

inductive FitAs : List ASh → List AV → Prop where
  | nil : FitAs [] []
  | cons {s : ASh} {r : List ASh} {a : AV} {l : List AV} : FitA s a → FitAs r l → FitAs (s :: r) (a :: l)

def ashsOf (P : Program) (f : Nat) : List TypeId → Option (List ASh)
  | [] => some []
  | t :: r => match ashOf P f t, ashsOf P f r with
    | some s, some l => some (s :: l)
    | _, _ => none

theorem args_rep {f : Nat} {r : Reach} {b : Nat} : ∀ {ts : List TypeId} {shs : List ASh} {vs : List Value} {ds : List (DataW H)} {ps : List MemPlace}, ashsOf P f ts = some shs →
    (∀ (j : Nat) t v, ts[j]? = some t → vs[j]? = some v → Value.okWide P W r b t v) → DataW.TrodAll enc P W 0 (fun _ => true) true ts vs ds ps → ∃ l, RepL (Sim.start W) l vs ∧ FitAs shs l
  | [], shs, vs, ds, ps, h, _, hA => by
    simp only [ashsOf, Option.some.injEq] at h
    subst h
    obtain ⟨rfl, _, _⟩ := trodAll_nil hA
    exact ⟨[], .nil, .nil⟩
  | t :: ts, shs, vs, ds, ps, h, hv, hA => by
    obtain ⟨v, vs', d, ds', p, q, rfl, rfl, rfl, h1, h2⟩ := trodAll_cons hA
    unfold ashsOf at h
    split at h
    · rename_i s l hs hl
      cases h
      obtain ⟨a, k1, k2⟩ := arg_rep hs (hv 0 t v rfl rfl) h1
      obtain ⟨m, k3, k4⟩ := args_rep hl (fun j t v h3 h4 => hv (j + 1) t v h3 h4) h2
      exact ⟨a :: m, .cons k1 k3, .cons k2 k4⟩
    · cases h

/-- A law that the evaluator finds true of all arguments. -/
theorem law_fit {C : CallF} (hC : CallOk P C) {f : FuncId} {fn : Func} {s : ChangeSpec} {apart fresh handsOn : Bool} {args : Array Value} {ds gs : List (DataW H)} {before : List MemPlace} {tr : TypeId} {r : Reach} {b k : Nat} {shs : List ASh} (hvars : s.vars = []) (hl : laidOutB P = true)
    (hread : ∀ t ∈ fn.params.toList, P.readableRec t = true ∧ t < P.types.size) (hr : fn.resultTypes = #[tr]) (htr : P.underlying tr = some .bool)
    (hval : ∀ (j : Nat) t v, fn.params[j]? = some t → args[j]? = some v → Value.okWide P W r b t v)
    (hW : DataW.Whole enc P fn.params.toList s.vars apart W args.toList ds gs before) (hfn : s.fn H (ds ++ gs) = { results := [.lit (.bool true)], args := ds }) (hs : ashsOf P k fn.params.toList = some shs)
    (h : ∀ l, FitAs shs l → ∃ st, C f l .mt = some (.ret (.v (.bool true)), st)) :
    Calls P f args W fun e W' => ∃ v, e = .returned v ∧ s.post enc P fn apart fresh handsOn false W args v W' := by
  have hW' := hW
  obtain ⟨p, q, hA, _, _, _, _⟩ := hW'
  obtain ⟨l, k1, k2⟩ := args_rep hs (fun j t v h1 h2 => hval j t v (by simpa using h1) (by simpa using h2)) hA
  obtain ⟨st, k3⟩ := h l k2
  exact law_contract hC hvars hl hread hr htr hW hfn k3 k1

theorem fitN_nums {k : IntKind} : ∀ {n : Nat} {cs : List AV}, FitN [.int k] n cs → ∃ l : List Int, cs = (l.map fun x => .v (.int k x)) ∧ l.length = n ∧ ∀ x ∈ l, k.min ≤ x ∧ x ≤ k.max
  | _, _, .nil => ⟨[], rfl, rfl, by simp⟩
  | _, _, .cons (.cons (.int (n := x) hw) .nil) h => by
    obtain ⟨l, rfl, rfl, hl⟩ := fitN_nums h
    refine ⟨x :: l, rfl, rfl, fun y hy => ?_⟩
    rcases List.mem_cons.1 hy with rfl | hy
    · simpa [Lit.wf] using hw
    · exact hl y hy

end

end VS
end Go.Proofs.Ytkhekmmldnjenaa
