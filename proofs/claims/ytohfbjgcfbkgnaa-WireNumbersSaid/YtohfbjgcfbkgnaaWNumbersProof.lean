/- WireNumbers: the row, proved. -/
import Derived.Test.YtohfbjgcfbkgnaaWFit
import Derived.Test.YtohfbjgcfbkgnaaWNumbers
namespace Go.Proofs.Ytohfbjgcfbkgnaa
open Go.ChangeShapes Go.WideShapes Go.ChangeAt Go.RowKit

def wireNumbers_sh : List VS.ASh := [.one (.list [.int .u8]), .one (.list [.int .u8]), .one (.list [.int .i64])]

theorem wireNumbers_read : ∀ t ∈ Try.f4.params.toList, Try.prog.readableRec t = true ∧ t < Try.prog.types.size := by rw [Try.params4]; decide +kernel

set_option maxRecDepth 100000 in
theorem wireNumbers_lifted (os : Os) (started : os.Started) (H : Type) (enc : TypeId × Value → H) :
    ReturnsInHanded {} Try.checked os 4 .any (Rows.wireNumbersSpec.pre6 enc Try.prog Try.f4 Rows.wireNumbersRow.domain false) (Rows.wireNumbersSpec.post enc Try.prog Try.f4 false true false false) := by
  refine returnsInHanded_of_change (C := Try.checked) Try.own started (by kernel_rfl) Try.func4
    (ChangeSpec.witness6 (enc := enc) (C := Try.checked) false ⟨#[], #[.slice none 0 0, .slice none 0 0, .slice none 0 0], []⟩ 8 (by kernel_rfl) (by kernel_rfl) (by kernel_rfl) (by kernel_rfl)) ?_
  intro W base args ds gs before hval0 hW _ _
  have hval : ∀ (j : Nat) t v, Try.f4.params[j]? = some t → args[j]? = some v → Value.okWide Try.prog W .any base t v := hval0
  have hW0 : DataW.Whole enc Try.prog Try.f4.params.toList Rows.wireNumbersSpec.vars false W args.toList ds gs before := hW
  refine VS.law_fit (P := Try.prog) (k := 10) (shs := wireNumbers_sh) VS.calls rfl Try.laidOut wireNumbers_read (tr := 4) (by kernel_rfl) Try.underlying4 hval hW0 ?_ (by kernel_rfl) ?_
  · obtain ⟨p, q, hA0, hV, _⟩ := hW
    obtain ⟨rfl, rfl⟩ := trodVars_none hV
    have hA : DataW.TrodAll enc Try.prog W 0 (fun _ => true) true Try.f4.params.toList args.toList ds p := hA0
    rw [Try.params4] at hA
    obtain ⟨d0, d1, d2, rfl⟩ := VS.len3 (VS.trodAll_len hA)
    rfl
  · intro l hl
    obtain ⟨a0, a1, a2, rfl, h0, h1, h2⟩ : ∃ a0 a1 a2, l = [a0, a1, a2] ∧ VS.FitA (.one (.list [.int .u8])) a0 ∧ VS.FitA (.one (.list [.int .u8])) a1 ∧ VS.FitA (.one (.list [.int .i64])) a2 := by
      cases hl with
      | cons h0 hl => cases hl with
        | cons h1 hl => cases hl with
          | cons h2 hl => cases hl; exact ⟨_, _, _, rfl, h0, h1, h2⟩
    obtain ⟨d, hx, hd⟩ := VS.fit_bytes h0
    obtain ⟨bb, hb, hbb⟩ := VS.fit_bytes h1
    cases h2 with
    | one h2 =>
      obtain ⟨ns, hn⟩ := VS.fit_ints h2
      exact ⟨_, VS.wireNumbers hx hb hn hd hbb⟩

theorem wireNumbers_holds : Rows.WireNumbersSaid :=
  OpenClaim.holds_of_wide 4 Try.f4 rfl rfl rfl rfl rfl rfl rfl ⟨rfl, rfl, rfl, rfl, rfl⟩ rfl rfl rfl rfl rfl (by kernel_rfl) Try.func4 (by kernel_rfl)
    (of_decide_eq_true (by kernel_rfl)) (by unfold Func.isWrapper; first | (rw [if_pos (by decide +kernel)]; kernel_rfl) | (rw [if_neg (by decide +kernel)]; exact ⟨rfl, rfl⟩))
    (fun os started H enc _ => wireNumbers_lifted os started H enc)

#print axioms wireNumbers_holds
end Go.Proofs.Ytohfbjgcfbkgnaa
