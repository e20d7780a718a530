/- PacketOnce: the row, proved. -/
import Derived.Test.YtkhekmmldnjenaaPk2
namespace Go.Proofs.Ytkhekmmldnjenaa
open Go.ChangeShapes Go.WideShapes Go.ChangeAt Go.RowKit

def packetOnce_sh : List VS.ASh := [.one (.list [.int .u8])]

theorem packetOnce_read : ∀ t ∈ Try.f8.params.toList, Try.prog.readableRec t = true ∧ t < Try.prog.types.size := by rw [Try.params8]; decide +kernel

set_option maxRecDepth 100000 in
theorem packetOnce_lifted (os : Os) (started : os.Started) (H : Type) (enc : TypeId × Value → H) :
    ReturnsInHanded {} Try.checked os 8 .any (Rows.packetOnceSpec.pre6 enc Try.prog Try.f8 Rows.packetOnceRow.domain false) (Rows.packetOnceSpec.post enc Try.prog Try.f8 false true false false) := by
  refine returnsInHanded_of_change (C := Try.checked) Try.own started (by kernel_rfl) Try.func8
    (ChangeSpec.witness6 (enc := enc) (C := Try.checked) false ⟨#[], #[.slice none 0 0], []⟩ 8 (by kernel_rfl) (by kernel_rfl) (by kernel_rfl) (by kernel_rfl)) ?_
  intro W base args ds gs before hval0 hW _ _
  have hval : ∀ (j : Nat) t v, Try.f8.params[j]? = some t → args[j]? = some v → Value.okWide Try.prog W .any base t v := hval0
  have hW0 : DataW.Whole enc Try.prog Try.f8.params.toList Rows.packetOnceSpec.vars false W args.toList ds gs before := hW
  refine VS.law_fit (P := Try.prog) (k := 10) (shs := packetOnce_sh) VS.calls rfl Try.laidOut packetOnce_read (tr := 4) (by kernel_rfl) Try.underlying4 hval hW0 ?_ (by kernel_rfl) ?_
  · obtain ⟨p, q, hA0, hV, _⟩ := hW
    obtain ⟨rfl, rfl⟩ := trodVars_none hV
    have hA : DataW.TrodAll enc Try.prog W 0 (fun _ => true) true Try.f8.params.toList args.toList ds p := hA0
    rw [Try.params8] at hA
    obtain ⟨d0, rfl⟩ := VS.len1 (VS.trodAll_len hA)
    rfl
  · intro l hl
    cases hl with
    | cons h0 hl =>
      cases hl
      obtain ⟨d, hx, hd⟩ := VS.fit_bytes h0
      exact ⟨_, VS.law8 hx hd⟩

theorem packetOnce_holds : Rows.PacketOnceSaid :=
  OpenClaim.holds_of_wide 8 Try.f8 rfl rfl rfl rfl rfl rfl rfl ⟨rfl, rfl, rfl, rfl, rfl⟩ rfl rfl rfl rfl rfl (by kernel_rfl) Try.func8 (by kernel_rfl)
    (of_decide_eq_true (by kernel_rfl)) (by unfold Func.isWrapper; first | (rw [if_pos (by decide +kernel)]; kernel_rfl) | (rw [if_neg (by decide +kernel)]; exact ⟨rfl, rfl⟩))
    (fun os started H enc _ => packetOnce_lifted os started H enc)

#print axioms packetOnce_holds
end Go.Proofs.Ytkhekmmldnjenaa
