/- TopThrottleKeeps: the row, proved. -/
import Derived.Test.YtbnhmahkgeaajaaThrArg
import Derived.Test.YtbnhmahkgeaajaaThrArg
namespace Go.Proofs.Ytbnhmahkgeaajaa
open Go.ChangeShapes Go.WideShapes Go.ChangeAt Go.RowKit

def topThrottleKeeps_sh : List VS.ASh := [.one (.list [.int .i64]), .one (.int .u8), .one (.int .u8)]

theorem topThrottleKeeps_read : ∀ t ∈ Try.f3.params.toList, Try.prog.readableRec t = true ∧ t < Try.prog.types.size := by rw [Try.params3]; decide +kernel

set_option maxRecDepth 100000 in
theorem topThrottleKeeps_lifted (os : Os) (started : os.Started) (H : Type) (enc : TypeId × Value → H) :
    ReturnsInHanded {} Try.checked os 3 .any (Rows.topThrottleKeepsSpec.pre6 enc Try.prog Try.f3 Rows.topThrottleKeepsRow.domain false) (Rows.topThrottleKeepsSpec.post enc Try.prog Try.f3 false true false false) := by
  refine returnsInHanded_of_change (C := Try.checked) Try.own started (by kernel_rfl) Try.func3
    (ChangeSpec.witness6 (enc := enc) (C := Try.checked) false ⟨#[], #[.slice none 0 0, .int .u8 0, .int .u8 0], []⟩ 8 (by kernel_rfl) (by kernel_rfl) (by kernel_rfl) (by kernel_rfl)) ?_
  intro W base args ds gs before hval0 hW _ _
  have hval : ∀ (j : Nat) t v, Try.f3.params[j]? = some t → args[j]? = some v → Value.okWide Try.prog W .any base t v := hval0
  have hW0 : DataW.Whole enc Try.prog Try.f3.params.toList Rows.topThrottleKeepsSpec.vars false W args.toList ds gs before := hW
  refine VS.law_fit (P := Try.prog) (k := 10) (shs := topThrottleKeeps_sh) VS.calls rfl Try.laidOut topThrottleKeeps_read (tr := 4) (by kernel_rfl) Try.underlying4 hval hW0 ?_ (by kernel_rfl) ?_
  · obtain ⟨p, q, hA0, hV, _⟩ := hW
    obtain ⟨rfl, rfl⟩ := trodVars_none hV
    have hA : DataW.TrodAll enc Try.prog W 0 (fun _ => true) true Try.f3.params.toList args.toList ds p := hA0
    rw [Try.params3] at hA
    obtain ⟨d0, d1, d2, rfl⟩ := VS.len3 (VS.trodAll_len hA)
    rfl
  · intro l hl
    cases hl with
    | cons h0 hl => cases hl with
      | cons h1 hl => cases hl with
        | cons h2 hl =>
          cases hl
          obtain ⟨ns, hn⟩ := VS.fit_ints h0
          obtain ⟨b, rfl, b1, b2⟩ := VS.fit_u8 h1
          obtain ⟨c, rfl, c1, c2⟩ := VS.fit_u8 h2
          exact ⟨_, VS.law3 hn b1 b2 c1 c2⟩

theorem topThrottleKeeps_holds : Rows.TopThrottleKeepsSaid :=
  OpenClaim.holds_of_wide 3 Try.f3 rfl rfl rfl rfl rfl rfl rfl ⟨rfl, rfl, rfl, rfl, rfl⟩ rfl rfl rfl rfl rfl (by kernel_rfl) Try.func3 (by kernel_rfl)
    (of_decide_eq_true (by kernel_rfl)) (by unfold Func.isWrapper; first | (rw [if_pos (by decide +kernel)]; kernel_rfl) | (rw [if_neg (by decide +kernel)]; exact ⟨rfl, rfl⟩))
    (fun os started H enc _ => topThrottleKeeps_lifted os started H enc)

#print axioms topThrottleKeeps_holds
end Go.Proofs.Ytbnhmahkgeaajaa
