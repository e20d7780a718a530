/- From what the evaluator answers to what a row of the claim says: 'true, and the arguments read as they did'. -/
import Derived.Test.YtbnhmahkgeaajaaVsSimp
import Derived.ProofKit
namespace Go.Proofs.Ytbnhmahkgeaajaa
namespace VS
open Go.ChangeShapes Go.WideShapes Go.ChangeAt Go.RowKit

section
variable {H : Type} {enc : TypeId × Value → H} {P : Program}

/-- All arguments read behind the call as before, where below the heap's old size nothing has turned. -/
theorem trodAll_below (hl : laidOutB P = true) {W W' : World} (hb : Below W.heap.size W W') : ∀ {ts : List TypeId} {vs : List Value} {ds : List (DataW H)} {ps : List MemPlace},
    (∀ t ∈ ts, P.readableRec t = true ∧ t < P.types.size) → DataW.TrodAll enc P W 0 (fun _ => true) true ts vs ds ps → (∀ x ∈ ps, x.block < W.heap.size) → DataW.TrodAll enc P W' 0 (fun b => decide (b < W.heap.size)) true ts vs ds ps
  | [], vs, ds, ps, _, h, _ => by
    obtain ⟨rfl, rfl, rfl⟩ := trodAll_nil h
    exact trodAll_mk0
  | t :: ts, vs, ds, ps, ht, h, hlt => by
    obtain ⟨v, vs', d, ds', p, q, rfl, rfl, rfl, h1, h2⟩ := trodAll_cons h
    obtain ⟨hr, hrow⟩ := ht t (by simp)
    exact ⟨p, q, Below.trod hl hr hrow h1 hb (fun x hx => hlt x (by simp [hx])), trodAll_below hl hb (fun u hu => ht u (by simp [hu])) h2 (fun x hx => hlt x (by simp [hx])), rfl⟩

theorem law_post {fn : Func} {s : ChangeSpec} {apart fresh handsOn : Bool} {W W' : World} {args : Array Value} {ds gs : List (DataW H)} {before : List MemPlace} {tr : TypeId} (hvars : s.vars = []) (hl : laidOutB P = true)
    (hread : ∀ t ∈ fn.params.toList, P.readableRec t = true ∧ t < P.types.size) (hr : fn.resultTypes = #[tr]) (htr : P.underlying tr = some .bool)
    (hW : DataW.Whole enc P fn.params.toList s.vars apart W args.toList ds gs before) (hfn : s.fn H (ds ++ gs) = { results := [.lit (.bool true)], args := ds }) (hb : Below W.heap.size W W') :
    s.post enc P fn apart fresh handsOn false W args (.bool true) W' := by
  have hW' := hW
  obtain ⟨p, q, hA, hV, rfl, _, _⟩ := hW
  rw [hvars] at hV
  obtain ⟨rfl, rfl⟩ := trodVars_none hV
  refine ⟨ds, [], p ++ [], [], p, [], hW', ?_, ?_, ?_, hb.frame _, fun h => by cases h⟩
  · rw [hr, hfn]
    exact trodAll_mk1 (shut_bool htr true)
  · rw [hfn]
    exact trodAll_below hl hb hread hA fun x hx => hW'.lt x (by simp [hx])
  · rw [hvars, hfn]; rfl

/-- The state in which a law is called: no memory of its own; all that is there may be read. -/
def Sim.start (W : World) : Sim := { w := W, hm := [], rm := [], st := .mt, B := W.heap.size, A := fun _ _ _ => True }

theorem start_inv (W : World) : Inv (Sim.start W) :=
  ⟨Nat.le_refl _, rfl, rfl, fun b g h => by simp [Sim.start] at h, fun b g fl h => by simp [Sim.start] at h, fun b b' g h => by simp [Sim.start] at h, fun b b' g fl fl' h => by simp [Sim.start] at h,
    fun b r g fl h => by simp [Sim.start] at h, fun _ _ _ _ _ _ _ _ => trivial⟩

theorem start_safe {W : World} {g lo k : Nat} (h : g < W.heap.size) : (Sim.start W).safe g lo k :=
  ⟨fun _ => trivial, h, fun b hb => by simp [Sim.start] at hb, fun r fl hr => by simp [Sim.start] at hr⟩

/-- A law that the evaluator finds true. -/
theorem law_calls {C : CallF} (hC : CallOk P C) {f : FuncId} {avs : List AV} {st : St} {W : World} {args : Array Value} (h : C f avs .mt = some (.ret (.v (.bool true)), st)) (hr : RepL (Sim.start W) avs args.toList) :
    Calls P f args W fun e W' => e = .returned (.bool true) ∧ Below W.heap.size W W' := by
  have := (hC f avs .mt _ st h).2 (Sim.start W) args.toList rfl (start_inv W) hr
  simp only [Array.toArray_toList] at this
  refine Calls.mono this fun e W' => ?_
  rintro ⟨S', rfl, _, _, _, hst, he⟩
  cases e with
  | returned y =>
    obtain ⟨rfl, _⟩ := Rep.v_inv he
    exact ⟨rfl, hst.below⟩
  | panicked ch => simp [EndOk] at he
  | outgrown => simp [EndOk] at he

theorem law_contract {C : CallF} (hC : CallOk P C) {f : FuncId} {fn : Func} {s : ChangeSpec} {apart fresh handsOn : Bool} {W : World} {args : Array Value} {ds gs : List (DataW H)} {before : List MemPlace} {tr : TypeId} (hvars : s.vars = []) (hl : laidOutB P = true)
    (hread : ∀ t ∈ fn.params.toList, P.readableRec t = true ∧ t < P.types.size) (hr : fn.resultTypes = #[tr]) (htr : P.underlying tr = some .bool)
    (hW : DataW.Whole enc P fn.params.toList s.vars apart W args.toList ds gs before) (hfn : s.fn H (ds ++ gs) = { results := [.lit (.bool true)], args := ds }) {avs : List AV} {st : St}
    (h : C f avs .mt = some (.ret (.v (.bool true)), st)) (hrep : RepL (Sim.start W) avs args.toList) :
    Calls P f args W fun e W' => ∃ v, e = .returned v ∧ s.post enc P fn apart fresh handsOn false W args v W' :=
  Calls.mono (law_calls hC h hrep) fun _ _ ⟨he, hb⟩ => ⟨.bool true, he, law_post hvars hl hread hr htr hW hfn hb⟩

end

end VS
end Go.Proofs.Ytbnhmahkgeaajaa
