/- PacketDetects: the row, proved. -/
import Derived.Test.YtkhekmmldnjenaaPk3
namespace Go.Proofs.Ytkhekmmldnjenaa
open Go.ChangeShapes Go.WideShapes Go.ChangeAt Go.RowKit

def packetDetects_sh : List VS.ASh := [.agg VS.pkSh, .agg VS.msSh, .agg [.int .u8, .int .u8]]

theorem packetDetects_read : ∀ t ∈ Try.f9.params.toList, Try.prog.readableRec t = true ∧ t < Try.prog.types.size := by rw [Try.params9]; decide +kernel

set_option maxRecDepth 100000 in
theorem packetDetects_lifted (os : Os) (started : os.Started) (H : Type) (enc : TypeId × Value → H) :
    ReturnsInHanded {} Try.checked os 9 .any (Rows.packetDetectsSpec.pre6 enc Try.prog Try.f9 Rows.packetDetectsRow.domain false) (Rows.packetDetectsSpec.post enc Try.prog Try.f9 false true false false) := by
  refine returnsInHanded_of_change (C := Try.checked) Try.own started (by kernel_rfl) Try.func9
    (ChangeSpec.witness6 (enc := enc) (C := Try.checked) false ⟨#[], #[.agg #[.int .i64 0, .int .i64 0, .int .i64 0, .int .i64 0, .int .i64 0, .slice none 0 0, .slice none 0 0], .agg #[.int .i64 0, .int .i64 0, .int .i64 0, .int .i64 0, .int .i64 0, .int .i64 0, .slice none 0 0, .slice none 0 0], .agg #[.int .u8 0, .int .u8 0]], []⟩ 8 (by kernel_rfl) (by kernel_rfl) (by kernel_rfl) (by kernel_rfl)) ?_
  intro W base args ds gs before hval0 hW _ _
  have hval : ∀ (j : Nat) t v, Try.f9.params[j]? = some t → args[j]? = some v → Value.okWide Try.prog W .any base t v := hval0
  have hW0 : DataW.Whole enc Try.prog Try.f9.params.toList Rows.packetDetectsSpec.vars false W args.toList ds gs before := hW
  refine VS.law_fit (P := Try.prog) (k := 10) (shs := packetDetects_sh) VS.calls rfl Try.laidOut packetDetects_read (tr := 4) (by kernel_rfl) Try.underlying4 hval hW0 ?_ (by kernel_rfl) ?_
  · obtain ⟨p, q, hA0, hV, _⟩ := hW
    obtain ⟨rfl, rfl⟩ := trodVars_none hV
    have hA : DataW.TrodAll enc Try.prog W 0 (fun _ => true) true Try.f9.params.toList args.toList ds p := hA0
    rw [Try.params9] at hA
    obtain ⟨d0, d1, d2, rfl⟩ := VS.len3 (VS.trodAll_len hA)
    rfl
  · intro l hl
    cases hl with
    | cons h0 hl => cases hl with
      | cons h1 hl => cases hl with
        | cons h2 hl =>
          cases hl
          obtain ⟨p, rfl, hp⟩ := VS.fit_pk h0
          obtain ⟨m, rfl, hm⟩ := VS.fit_ms h1
          obtain ⟨a, b, rfl, a0, a1, b0, b1⟩ := VS.fit_at h2
          exact ⟨_, VS.law9 hp hm a0 a1 b0 b1⟩

theorem packetDetects_holds : Rows.PacketDetectsSaid :=
  OpenClaim.holds_of_wide 9 Try.f9 rfl rfl rfl rfl rfl rfl rfl ⟨rfl, rfl, rfl, rfl, rfl⟩ rfl rfl rfl rfl rfl (by kernel_rfl) Try.func9 (by kernel_rfl)
    (of_decide_eq_true (by kernel_rfl)) (by unfold Func.isWrapper; first | (rw [if_pos (by decide +kernel)]; kernel_rfl) | (rw [if_neg (by decide +kernel)]; exact ⟨rfl, rfl⟩))
    (fun os started H enc _ => packetDetects_lifted os started H enc)

#print axioms packetDetects_holds
end Go.Proofs.Ytkhekmmldnjenaa
