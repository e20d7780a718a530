/- The throttle's arguments, read from the row. -/
import Derived.Test.YtbnhmahkgeaajaaThrF
import Derived.Test.YtbnhmahkgeaajaaVsArg
import Derived.Test.YtbnhmahkgeaajaaRows
namespace Go.Proofs.Ytbnhmahkgeaajaa
open Go.ChangeShapes Go.WideShapes Go.ChangeAt Go.RowKit
theorem Try.own : ownKnob Try.prog.godebug = none := by kernel_rfl
theorem Try.laidOut : laidOutB Try.prog = true := by kernel_rfl

namespace VS

theorem len3 {α : Type} {l : List α} (h : l.length = 3) : ∃ a b c, l = [a, b, c] := by
  match l, h with
  | [a, b, c], _ => exact ⟨a, b, c, rfl⟩

theorem trodAll_len {H : Type} {enc : TypeId × Value → H} {P : Program} {W : World} {f : Nat → Bool} {b : Bool} {n : Nat} : ∀ {ts : List TypeId} {vs : List Value} {ds : List (DataW H)} {ps : List MemPlace}, DataW.TrodAll enc P W n f b ts vs ds ps → ds.length = ts.length
  | [], vs, ds, ps, h => by obtain ⟨_, rfl, _⟩ := trodAll_nil h; rfl
  | t :: ts, vs, ds, ps, h => by
    obtain ⟨v, vs', d, ds', p, q, _, rfl, _, _, h2⟩ := trodAll_cons h
    simp [trodAll_len h2]

theorem fit_ints {a : AV} (h : FitA (.one (.list [.int .i64])) a) : ∃ ns, IsL 1 a (ints ns) ns.length := by
  cases h with
  | one h =>
    cases h with
    | nil => exact ⟨[], .nil⟩
    | list h =>
      obtain ⟨l, rfl, rfl, _⟩ := fitN_nums h
      exact ⟨l, .sl (by simp) (by simp [ints])⟩

theorem fit_u8 {a : AV} (h : FitA (.one (.int .u8)) a) : ∃ n, a = .v (.int .u8 n) ∧ 0 ≤ n ∧ n ≤ 255 := by
  cases h with
  | one h =>
    cases h with
    | int h =>
      refine ⟨_, rfl, ?_⟩
      simp only [Lit.wf, IntKind.min, IntKind.max, IntKind.signed, IntKind.bits] at h
      simp at h
      omega

end VS
end Go.Proofs.Ytbnhmahkgeaajaa
