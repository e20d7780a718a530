/- WireTears: the row, proved. -/
import Derived.Test.YtohfbjgcfbkgnaaWVals
import Derived.Test.YtohfbjgcfbkgnaaWOnceLaw
namespace Go.Proofs.Ytohfbjgcfbkgnaa
open Go.ChangeShapes Go.WideShapes Go.ChangeAt Go.RowKit

def wireTears_sh : List VS.ASh := [.agg VS.valsSh, .one (.int .i64), .one (.int .u16)]

theorem wireTears_read : ∀ t ∈ Try.f7.params.toList, Try.prog.readableRec t = true ∧ t < Try.prog.types.size := by rw [Try.params7]; decide +kernel

set_option maxRecDepth 100000 in
theorem wireTears_lifted (os : Os) (started : os.Started) (H : Type) (enc : TypeId × Value → H) :
    ReturnsInHanded {} Try.checked os 7 .any (Rows.wireTearsSpec.pre6 enc Try.prog Try.f7 Rows.wireTearsRow.domain false) (Rows.wireTearsSpec.post enc Try.prog Try.f7 false true false false) := by
  refine returnsInHanded_of_change (C := Try.checked) Try.own started (by kernel_rfl) Try.func7
    (ChangeSpec.witness6 (enc := enc) (C := Try.checked) false ⟨#[], #[.agg #[.slice none 0 0, .slice none 0 0, .slice none 0 0, .slice none 0 0], .int .i64 0, .int .u16 0], []⟩ 8 (by kernel_rfl) (by kernel_rfl) (by kernel_rfl) (by kernel_rfl)) ?_
  intro W base args ds gs before hval0 hW _ _
  have hval : ∀ (j : Nat) t v, Try.f7.params[j]? = some t → args[j]? = some v → Value.okWide Try.prog W .any base t v := hval0
  have hW0 : DataW.Whole enc Try.prog Try.f7.params.toList Rows.wireTearsSpec.vars false W args.toList ds gs before := hW
  refine VS.law_fit (P := Try.prog) (k := 10) (shs := wireTears_sh) VS.calls rfl Try.laidOut wireTears_read (tr := 4) (by kernel_rfl) Try.underlying4 hval hW0 ?_ (by kernel_rfl) ?_
  · obtain ⟨p, q, hA0, hV, _⟩ := hW
    obtain ⟨rfl, rfl⟩ := trodVars_none hV
    have hA : DataW.TrodAll enc Try.prog W 0 (fun _ => true) true Try.f7.params.toList args.toList ds p := hA0
    rw [Try.params7] at hA
    obtain ⟨d0, d1, d2, rfl⟩ := VS.len3 (VS.trodAll_len hA)
    rfl
  · intro l hl
    cases hl with
    | cons h0 hl => cases hl with
      | cons h1 hl => cases hl with
        | cons h2 hl =>
          cases hl
          obtain ⟨a, b, c, e, ns, ss, xs, ws, rfl, hv⟩ := VS.fit_vals h0
          obtain ⟨n, rfl, _⟩ := VS.fit_int h1
          obtain ⟨m, rfl, hm0, hm1⟩ := VS.fit_int h2
          have hm2 : 0 ≤ m ∧ m ≤ 65535 := by
            simp only [IntKind.min, IntKind.max, IntKind.signed, IntKind.bits] at hm0 hm1
            simp at hm0 hm1
            omega
          have e : m = ((m.toNat : Nat) : Int) := by omega
          rw [e]
          exact ⟨_, VS.wireTears (by omega) hv⟩

theorem wireTears_holds : Rows.WireTearsSaid :=
  OpenClaim.holds_of_wide 7 Try.f7 rfl rfl rfl rfl rfl rfl rfl ⟨rfl, rfl, rfl, rfl, rfl⟩ rfl rfl rfl rfl rfl (by kernel_rfl) Try.func7 (by kernel_rfl)
    (of_decide_eq_true (by kernel_rfl)) (by unfold Func.isWrapper; first | (rw [if_pos (by decide +kernel)]; kernel_rfl) | (rw [if_neg (by decide +kernel)]; exact ⟨rfl, rfl⟩))
    (fun os started H enc _ => wireTears_lifted os started H enc)

#print axioms wireTears_holds
end Go.Proofs.Ytohfbjgcfbkgnaa
