/- Arguments of the laws of this seat. -/
import Derived.Test.YtohfbjgcfbkgnaaVsArg
import Derived.Test.YtohfbjgcfbkgnaaWNum
import Derived.Test.YtohfbjgcfbkgnaaRows
namespace Go.Proofs.Ytohfbjgcfbkgnaa
open Go.ChangeShapes Go.WideShapes Go.ChangeAt Go.RowKit
theorem Try.own : ownKnob Try.prog.godebug = none := by kernel_rfl
theorem Try.laidOut : laidOutB Try.prog = true := by kernel_rfl

namespace VS

theorem len1 {α : Type} : ∀ {l : List α}, l.length = 1 → ∃ a, l = [a]
  | [a], _ => ⟨a, rfl⟩
theorem len2 {α : Type} : ∀ {l : List α}, l.length = 2 → ∃ a b, l = [a, b]
  | [a, b], _ => ⟨a, b, rfl⟩
theorem len3 {α : Type} : ∀ {l : List α}, l.length = 3 → ∃ a b c, l = [a, b, c]
  | [a, b, c], _ => ⟨a, b, c, rfl⟩

theorem trodAll_len {H : Type} {enc : TypeId × Value → H} {P : Program} {w : World} {base : Nat} {sp : Nat → Bool} {held : Bool} : ∀ {ts : List TypeId} {vs : List Value} {ds : List (DataW H)} {ps : List MemPlace}, DataW.TrodAll enc P w base sp held ts vs ds ps → ds.length = ts.length
  | [], vs, ds, ps, h => by obtain ⟨_, rfl, _⟩ := trodAll_nil h; rfl
  | t :: ts, vs, ds, ps, h => by
    obtain ⟨v, vs', d, ds', p, q, _, rfl, _, _, h2⟩ := trodAll_cons h
    simp [trodAll_len h2]

theorem fit_bytes {a : AV} (h : FitA (.one (.list [.int .u8])) a) : ∃ l, IsB a l ∧ Byt l := by
  cases h with
  | one h =>
    cases h with
    | nil => exact ⟨[], .nil, fun b hb => by simp at hb⟩
    | list h =>
      obtain ⟨l, rfl, rfl, hl⟩ := fitN_nums h
      refine ⟨l, .sl (by simp), fun b hb => ?_⟩
      have := hl b hb
      simp only [IntKind.min, IntKind.max, IntKind.signed, IntKind.bits] at this
      simp at this
      omega

theorem fit_ints {a : AV} (h : Fit (.list [.int .i64]) a) : ∃ ns, IsL 1 a (ints ns) ns.length := by
  cases h with
  | nil => exact ⟨[], .nil⟩
  | list h =>
    obtain ⟨l, rfl, rfl, _⟩ := fitN_nums h
    exact ⟨l, .sl (by simp) (by simp)⟩

end VS
end Go.Proofs.Ytohfbjgcfbkgnaa
