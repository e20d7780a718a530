/- WireAppends: the row, proved. -/
import Derived.Test.YtohfbjgcfbkgnaaWVals
import Derived.Test.YtohfbjgcfbkgnaaWListsLaw
namespace Go.Proofs.Ytohfbjgcfbkgnaa
open Go.ChangeShapes Go.WideShapes Go.ChangeAt Go.RowKit

def wireAppends_sh : List VS.ASh := [.one (.list [.int .u8]), .agg VS.valsSh, .one (.int .i64)]

theorem wireAppends_read : ∀ t ∈ Try.f6.params.toList, Try.prog.readableRec t = true ∧ t < Try.prog.types.size := by rw [Try.params6]; decide +kernel

set_option maxRecDepth 100000 in
theorem wireAppends_lifted (os : Os) (started : os.Started) (H : Type) (enc : TypeId × Value → H) :
    ReturnsInHanded {} Try.checked os 6 .any (Rows.wireAppendsSpec.pre6 enc Try.prog Try.f6 Rows.wireAppendsRow.domain false) (Rows.wireAppendsSpec.post enc Try.prog Try.f6 false true false false) := by
  refine returnsInHanded_of_change (C := Try.checked) Try.own started (by kernel_rfl) Try.func6
    (ChangeSpec.witness6 (enc := enc) (C := Try.checked) false ⟨#[], #[.slice none 0 0, .agg #[.slice none 0 0, .slice none 0 0, .slice none 0 0, .slice none 0 0], .int .i64 0], []⟩ 8 (by kernel_rfl) (by kernel_rfl) (by kernel_rfl) (by kernel_rfl)) ?_
  intro W base args ds gs before hval0 hW _ _
  have hval : ∀ (j : Nat) t v, Try.f6.params[j]? = some t → args[j]? = some v → Value.okWide Try.prog W .any base t v := hval0
  have hW0 : DataW.Whole enc Try.prog Try.f6.params.toList Rows.wireAppendsSpec.vars false W args.toList ds gs before := hW
  refine VS.law_fit (P := Try.prog) (k := 10) (shs := wireAppends_sh) VS.calls rfl Try.laidOut wireAppends_read (tr := 4) (by kernel_rfl) Try.underlying4 hval hW0 ?_ (by kernel_rfl) ?_
  · obtain ⟨p, q, hA0, hV, _⟩ := hW
    obtain ⟨rfl, rfl⟩ := trodVars_none hV
    have hA : DataW.TrodAll enc Try.prog W 0 (fun _ => true) true Try.f6.params.toList args.toList ds p := hA0
    rw [Try.params6] at hA
    obtain ⟨d0, d1, d2, rfl⟩ := VS.len3 (VS.trodAll_len hA)
    rfl
  · intro l hl
    cases hl with
    | cons h0 hl => cases hl with
      | cons h1 hl => cases hl with
        | cons h2 hl =>
          cases hl
          obtain ⟨d, hx, hd⟩ := VS.fit_bytes h0
          obtain ⟨a, b, c, e, ns, ss, xs, ws, rfl, hv⟩ := VS.fit_vals h1
          obtain ⟨n, rfl, _⟩ := VS.fit_int h2
          exact ⟨_, VS.wireAppends hx hd hv⟩

theorem wireAppends_holds : Rows.WireAppendsSaid :=
  OpenClaim.holds_of_wide 6 Try.f6 rfl rfl rfl rfl rfl rfl rfl ⟨rfl, rfl, rfl, rfl, rfl⟩ rfl rfl rfl rfl rfl (by kernel_rfl) Try.func6 (by kernel_rfl)
    (of_decide_eq_true (by kernel_rfl)) (by unfold Func.isWrapper; first | (rw [if_pos (by decide +kernel)]; kernel_rfl) | (rw [if_neg (by decide +kernel)]; exact ⟨rfl, rfl⟩))
    (fun os started H enc _ => wireAppends_lifted os started H enc)

#print axioms wireAppends_holds
end Go.Proofs.Ytohfbjgcfbkgnaa
