/- PacketBack: the row, proved. -/
import Derived.Test.YtkhekmmldnjenaaPk2
namespace Go.Proofs.Ytkhekmmldnjenaa
open Go.ChangeShapes Go.WideShapes Go.ChangeAt Go.RowKit

def packetBack_sh : List VS.ASh := [.agg VS.pkSh, .agg VS.msSh]

theorem packetBack_read : ∀ t ∈ Try.f7.params.toList, Try.prog.readableRec t = true ∧ t < Try.prog.types.size := by rw [Try.params7]; decide +kernel

set_option maxRecDepth 100000 in
theorem packetBack_lifted (os : Os) (started : os.Started) (H : Type) (enc : TypeId × Value → H) :
    ReturnsInHanded {} Try.checked os 7 .any (Rows.packetBackSpec.pre6 enc Try.prog Try.f7 Rows.packetBackRow.domain false) (Rows.packetBackSpec.post enc Try.prog Try.f7 false true false false) := by
  refine returnsInHanded_of_change (C := Try.checked) Try.own started (by kernel_rfl) Try.func7
    (ChangeSpec.witness6 (enc := enc) (C := Try.checked) false ⟨#[], #[.agg #[.int .i64 0, .int .i64 0, .int .i64 0, .int .i64 0, .int .i64 0, .slice none 0 0, .slice none 0 0], .agg #[.int .i64 0, .int .i64 0, .int .i64 0, .int .i64 0, .int .i64 0, .int .i64 0, .slice none 0 0, .slice none 0 0]], []⟩ 8 (by kernel_rfl) (by kernel_rfl) (by kernel_rfl) (by kernel_rfl)) ?_
  intro W base args ds gs before hval0 hW _ _
  have hval : ∀ (j : Nat) t v, Try.f7.params[j]? = some t → args[j]? = some v → Value.okWide Try.prog W .any base t v := hval0
  have hW0 : DataW.Whole enc Try.prog Try.f7.params.toList Rows.packetBackSpec.vars false W args.toList ds gs before := hW
  refine VS.law_fit (P := Try.prog) (k := 10) (shs := packetBack_sh) VS.calls rfl Try.laidOut packetBack_read (tr := 4) (by kernel_rfl) Try.underlying4 hval hW0 ?_ (by kernel_rfl) ?_
  · obtain ⟨p, q, hA0, hV, _⟩ := hW
    obtain ⟨rfl, rfl⟩ := trodVars_none hV
    have hA : DataW.TrodAll enc Try.prog W 0 (fun _ => true) true Try.f7.params.toList args.toList ds p := hA0
    rw [Try.params7] at hA
    obtain ⟨d0, d1, rfl⟩ := VS.len2 (VS.trodAll_len hA)
    rfl
  · intro l hl
    cases hl with
    | cons h0 hl => cases hl with
      | cons h1 hl =>
        cases hl
        obtain ⟨p, rfl, hp⟩ := VS.fit_pk h0
        obtain ⟨m, rfl, hm⟩ := VS.fit_ms h1
        exact ⟨_, VS.law7 hp hm⟩

theorem packetBack_holds : Rows.PacketBackSaid :=
  OpenClaim.holds_of_wide 7 Try.f7 rfl rfl rfl rfl rfl rfl rfl ⟨rfl, rfl, rfl, rfl, rfl⟩ rfl rfl rfl rfl rfl (by kernel_rfl) Try.func7 (by kernel_rfl)
    (of_decide_eq_true (by kernel_rfl)) (by unfold Func.isWrapper; first | (rw [if_pos (by decide +kernel)]; kernel_rfl) | (rw [if_neg (by decide +kernel)]; exact ⟨rfl, rfl⟩))
    (fun os started H enc _ => packetBack_lifted os started H enc)

#print axioms packetBack_holds
end Go.Proofs.Ytkhekmmldnjenaa
