/-
  No cell of these rows narrows 'for every input' (looked for: loops, veiled, ifaces, maps, wideKeys, modest, calm, conditions, laid).
  DERIVED. THE GIVEN ROWS OF THIS SEAT. 8 by the template 'for every input the law returns true; each argument reads behind the call as it read before'; 0 by the template 'total and deterministic' (their statements: YtkhekmmldnjenaaTotals.lean).
  GIVEN WITH THE SEED: the statements are not yours to turn. If you find one false, say at which input.
  Laid BY PROGRAM, IN A SANDBOX (cutbox-rows.mjs): the forced cells as the released guide's own fill.sh prints them over the translation 9454f10e1a588983… (all of the seat's roots in one cut). By AI agents, Wed Nov 11 2026. No macro, syntax, notation, axiom, sorry.
-/
import Derived.Test.YtkhekmmldnjenaaChecked
import GoSem.Claim
import GoSem.ClaimJoined
import GoSem.ClaimMapViews
import Derived.JoinedTies
import Derived.KernelRfl
namespace Go.Proofs.Ytkhekmmldnjenaa
/- THE CELL 'sum', in the pinned program and in every row, IS THE sha256 OF THE DUMP (.gsa) THAT YtkhekmmldnjenaaProg.lean LOADS. Nothing in Lean hashes anything: it is a label: what it is worth is what the hold of that sum in a sandbox is worth. -/
noncomputable def Try.pinned : Pinned := { name := "ytkhekmmldnjenaa", sum := "9454f10e1a5889837964569a28d9910d439534fcd96e4e10fd0cecc42ac1da14", checked := Try.checked }
namespace Rows
def none {H : Type} : Left H := { results := [], args := [] }

/-- 'standbylaw25.PacketChecks': WHATEVER THE INPUT: true; the input reads as it did. -/
def packetChecksSpec : ChangeSpec := { name := "packetChecks", fn := fun _ => fun
  | [d] => { results := [.lit (.bool true)], args := [d] }
  | _ => none }
def packetChecksRow : OpenClaim := { program := "ytkhekmmldnjenaa", sum := "9454f10e1a5889837964569a28d9910d439534fcd96e4e10fd0cecc42ac1da14", func := "standby/standbylaw25.PacketChecks", spec := "packetChecks", unfollowed := true, recurses := true, apart := false }
def PacketChecksSaid : Prop := packetChecksRow.holds Try.pinned (OpenSpec.ofChange packetChecksSpec)

/-- ITS FALSE NEIGHBOUR: 'it returns false'. Refute it at one input. -/
def packetChecksWrong : ChangeSpec := { name := "packetChecks", fn := fun _ => fun
  | [d] => { results := [.lit (.bool false)], args := [d] }
  | _ => none }
def PacketChecksWrongFalsely : Prop := packetChecksRow.holds Try.pinned (OpenSpec.ofChange packetChecksWrong)

/-- 'standbylaw25.PacketEncodes': WHATEVER THE INPUT: true; the input reads as it did. -/
def packetEncodesSpec : ChangeSpec := { name := "packetEncodes", fn := fun _ => fun
  | [d] => { results := [.lit (.bool true)], args := [d] }
  | _ => none }
def packetEncodesRow : OpenClaim := { program := "ytkhekmmldnjenaa", sum := "9454f10e1a5889837964569a28d9910d439534fcd96e4e10fd0cecc42ac1da14", func := "standby/standbylaw25.PacketEncodes", spec := "packetEncodes", unfollowed := true, recurses := true, apart := false }
def PacketEncodesSaid : Prop := packetEncodesRow.holds Try.pinned (OpenSpec.ofChange packetEncodesSpec)

/-- ITS FALSE NEIGHBOUR: 'it returns false'. Refute it at one input. -/
def packetEncodesWrong : ChangeSpec := { name := "packetEncodes", fn := fun _ => fun
  | [d] => { results := [.lit (.bool false)], args := [d] }
  | _ => none }
def PacketEncodesWrongFalsely : Prop := packetEncodesRow.holds Try.pinned (OpenSpec.ofChange packetEncodesWrong)

/-- 'standbylaw25.PacketDecodes': WHATEVER THE INPUT: true; the input reads as it did. -/
def packetDecodesSpec : ChangeSpec := { name := "packetDecodes", fn := fun _ => fun
  | [d] => { results := [.lit (.bool true)], args := [d] }
  | _ => none }
def packetDecodesRow : OpenClaim := { program := "ytkhekmmldnjenaa", sum := "9454f10e1a5889837964569a28d9910d439534fcd96e4e10fd0cecc42ac1da14", func := "standby/standbylaw25.PacketDecodes", spec := "packetDecodes", unfollowed := true, recurses := true, apart := false }
def PacketDecodesSaid : Prop := packetDecodesRow.holds Try.pinned (OpenSpec.ofChange packetDecodesSpec)

/-- ITS FALSE NEIGHBOUR: 'it returns false'. Refute it at one input. -/
def packetDecodesWrong : ChangeSpec := { name := "packetDecodes", fn := fun _ => fun
  | [d] => { results := [.lit (.bool false)], args := [d] }
  | _ => none }
def PacketDecodesWrongFalsely : Prop := packetDecodesRow.holds Try.pinned (OpenSpec.ofChange packetDecodesWrong)

/-- 'standbylaw25.PacketMessages': WHATEVER THE INPUT: true; the input reads as it did. -/
def packetMessagesSpec : ChangeSpec := { name := "packetMessages", fn := fun _ => fun
  | [d] => { results := [.lit (.bool true)], args := [d] }
  | _ => none }
def packetMessagesRow : OpenClaim := { program := "ytkhekmmldnjenaa", sum := "9454f10e1a5889837964569a28d9910d439534fcd96e4e10fd0cecc42ac1da14", func := "standby/standbylaw25.PacketMessages", spec := "packetMessages", unfollowed := true, recurses := true, apart := false }
def PacketMessagesSaid : Prop := packetMessagesRow.holds Try.pinned (OpenSpec.ofChange packetMessagesSpec)

/-- ITS FALSE NEIGHBOUR: 'it returns false'. Refute it at one input. -/
def packetMessagesWrong : ChangeSpec := { name := "packetMessages", fn := fun _ => fun
  | [d] => { results := [.lit (.bool false)], args := [d] }
  | _ => none }
def PacketMessagesWrongFalsely : Prop := packetMessagesRow.holds Try.pinned (OpenSpec.ofChange packetMessagesWrong)

/-- 'standbylaw25.PacketBack': WHATEVER THE INPUT: true; the input reads as it did. -/
def packetBackSpec : ChangeSpec := { name := "packetBack", fn := fun _ => fun
  | [d1, d2] => { results := [.lit (.bool true)], args := [d1, d2] }
  | _ => none }
def packetBackRow : OpenClaim := { program := "ytkhekmmldnjenaa", sum := "9454f10e1a5889837964569a28d9910d439534fcd96e4e10fd0cecc42ac1da14", func := "standby/standbylaw25.PacketBack", spec := "packetBack", unfollowed := true, recurses := true, apart := false }
def PacketBackSaid : Prop := packetBackRow.holds Try.pinned (OpenSpec.ofChange packetBackSpec)

/-- ITS FALSE NEIGHBOUR: 'it returns false'. Refute it at one input. -/
def packetBackWrong : ChangeSpec := { name := "packetBack", fn := fun _ => fun
  | [d1, d2] => { results := [.lit (.bool false)], args := [d1, d2] }
  | _ => none }
def PacketBackWrongFalsely : Prop := packetBackRow.holds Try.pinned (OpenSpec.ofChange packetBackWrong)

/-- 'standbylaw25.PacketOnce': WHATEVER THE INPUT: true; the input reads as it did. -/
def packetOnceSpec : ChangeSpec := { name := "packetOnce", fn := fun _ => fun
  | [d] => { results := [.lit (.bool true)], args := [d] }
  | _ => none }
def packetOnceRow : OpenClaim := { program := "ytkhekmmldnjenaa", sum := "9454f10e1a5889837964569a28d9910d439534fcd96e4e10fd0cecc42ac1da14", func := "standby/standbylaw25.PacketOnce", spec := "packetOnce", unfollowed := true, recurses := true, apart := false }
def PacketOnceSaid : Prop := packetOnceRow.holds Try.pinned (OpenSpec.ofChange packetOnceSpec)

/-- ITS FALSE NEIGHBOUR: 'it returns false'. Refute it at one input. -/
def packetOnceWrong : ChangeSpec := { name := "packetOnce", fn := fun _ => fun
  | [d] => { results := [.lit (.bool false)], args := [d] }
  | _ => none }
def PacketOnceWrongFalsely : Prop := packetOnceRow.holds Try.pinned (OpenSpec.ofChange packetOnceWrong)

/-- 'standbylaw25.PacketDetects': WHATEVER THE INPUT: true; the input reads as it did. -/
def packetDetectsSpec : ChangeSpec := { name := "packetDetects", fn := fun _ => fun
  | [d1, d2, d3] => { results := [.lit (.bool true)], args := [d1, d2, d3] }
  | _ => none }
def packetDetectsRow : OpenClaim := { program := "ytkhekmmldnjenaa", sum := "9454f10e1a5889837964569a28d9910d439534fcd96e4e10fd0cecc42ac1da14", func := "standby/standbylaw25.PacketDetects", spec := "packetDetects", unfollowed := true, recurses := true, apart := false }
def PacketDetectsSaid : Prop := packetDetectsRow.holds Try.pinned (OpenSpec.ofChange packetDetectsSpec)

/-- ITS FALSE NEIGHBOUR: 'it returns false'. Refute it at one input. -/
def packetDetectsWrong : ChangeSpec := { name := "packetDetects", fn := fun _ => fun
  | [d1, d2, d3] => { results := [.lit (.bool false)], args := [d1, d2, d3] }
  | _ => none }
def PacketDetectsWrongFalsely : Prop := packetDetectsRow.holds Try.pinned (OpenSpec.ofChange packetDetectsWrong)

/-- 'standbylaw25.PacketGaps': WHATEVER THE INPUT: true; the input reads as it did. -/
def packetGapsSpec : ChangeSpec := { name := "packetGaps", fn := fun _ => fun
  | [d] => { results := [.lit (.bool true)], args := [d] }
  | _ => none }
def packetGapsRow : OpenClaim := { program := "ytkhekmmldnjenaa", sum := "9454f10e1a5889837964569a28d9910d439534fcd96e4e10fd0cecc42ac1da14", func := "standby/standbylaw25.PacketGaps", spec := "packetGaps", unfollowed := true, recurses := true, apart := false }
def PacketGapsSaid : Prop := packetGapsRow.holds Try.pinned (OpenSpec.ofChange packetGapsSpec)

/-- ITS FALSE NEIGHBOUR: 'it returns false'. Refute it at one input. -/
def packetGapsWrong : ChangeSpec := { name := "packetGaps", fn := fun _ => fun
  | [d] => { results := [.lit (.bool false)], args := [d] }
  | _ => none }
def PacketGapsWrongFalsely : Prop := packetGapsRow.holds Try.pinned (OpenSpec.ofChange packetGapsWrong)

/- THE SECOND FORM. 'bulk': how many values and letters a reading holds, each counted each time it is reached (what is shared counts as often as it is met; a slice's spare places count too). A statement '..UptoSaid' is the law's where the arguments, and the package variables that the reading takes, are together of bulk at most 1048576: NARROWER than '..Said'. Prove '..Said' where nothing that the law and all that it calls make is longer than what came in: it says more and counts as full. Else prove '..UptoSaid'. A law counts once. -/
mutual
def uptoBulk {H : Type} : DataW H → Nat
  | .lit (.string bytes) => bytes.length + 1
  | .lit _ => 1
  | .nil => 1
  | .ptr d => uptoBulk d + 1
  | .slice elems spare => uptoBulkAll elems + uptoBulkAll spare + 1
  | .agg parts => uptoBulkAll parts + 1
  | .iface _ d => uptoBulk d + 1
  | .map entries => uptoBulkEntries entries + 1
  | .held _ => 1
def uptoBulkAll {H : Type} : List (DataW H) → Nat
  | [] => 0
  | d :: r => uptoBulk d + uptoBulkAll r
def uptoBulkEntries {H : Type} : List (Lit × DataW H) → Nat
  | [] => 0
  | x :: r => uptoBulkEntry x + uptoBulkEntries r
def uptoBulkEntry {H : Type} : Lit × DataW H → Nat
  | (.string bytes, d) => bytes.length + uptoBulk d + 1
  | (_, d) => uptoBulk d + 1
 end
def uptoSmall : (H : Type) → List (DataW H) → Bool := fun _ ds => decide (uptoBulkAll ds ≤ 1048576)
def OpenSpec.upto (s : _root_.Go.ChangeSpec) : _root_.Go.OpenSpec := { _root_.Go.OpenSpec.ofChange s with cond := some uptoSmall }

/-- 'standbylaw25.PacketChecks', WHERE WHAT IT READS IS OF BULK AT MOST 1048576: true; the input reads as it did. -/
def packetChecksUptoRow : OpenClaim := { program := "ytkhekmmldnjenaa", sum := "9454f10e1a5889837964569a28d9910d439534fcd96e4e10fd0cecc42ac1da14", func := "standby/standbylaw25.PacketChecks", spec := "packetChecks", unfollowed := true, recurses := true, apart := false, narrowed := true }
def PacketChecksUptoSaid : Prop := packetChecksUptoRow.holds Try.pinned (OpenSpec.upto packetChecksSpec)

/-- 'standbylaw25.PacketEncodes', WHERE WHAT IT READS IS OF BULK AT MOST 1048576: true; the input reads as it did. -/
def packetEncodesUptoRow : OpenClaim := { program := "ytkhekmmldnjenaa", sum := "9454f10e1a5889837964569a28d9910d439534fcd96e4e10fd0cecc42ac1da14", func := "standby/standbylaw25.PacketEncodes", spec := "packetEncodes", unfollowed := true, recurses := true, apart := false, narrowed := true }
def PacketEncodesUptoSaid : Prop := packetEncodesUptoRow.holds Try.pinned (OpenSpec.upto packetEncodesSpec)

/-- 'standbylaw25.PacketDecodes', WHERE WHAT IT READS IS OF BULK AT MOST 1048576: true; the input reads as it did. -/
def packetDecodesUptoRow : OpenClaim := { program := "ytkhekmmldnjenaa", sum := "9454f10e1a5889837964569a28d9910d439534fcd96e4e10fd0cecc42ac1da14", func := "standby/standbylaw25.PacketDecodes", spec := "packetDecodes", unfollowed := true, recurses := true, apart := false, narrowed := true }
def PacketDecodesUptoSaid : Prop := packetDecodesUptoRow.holds Try.pinned (OpenSpec.upto packetDecodesSpec)

/-- 'standbylaw25.PacketMessages', WHERE WHAT IT READS IS OF BULK AT MOST 1048576: true; the input reads as it did. -/
def packetMessagesUptoRow : OpenClaim := { program := "ytkhekmmldnjenaa", sum := "9454f10e1a5889837964569a28d9910d439534fcd96e4e10fd0cecc42ac1da14", func := "standby/standbylaw25.PacketMessages", spec := "packetMessages", unfollowed := true, recurses := true, apart := false, narrowed := true }
def PacketMessagesUptoSaid : Prop := packetMessagesUptoRow.holds Try.pinned (OpenSpec.upto packetMessagesSpec)

/-- 'standbylaw25.PacketBack', WHERE WHAT IT READS IS OF BULK AT MOST 1048576: true; the input reads as it did. -/
def packetBackUptoRow : OpenClaim := { program := "ytkhekmmldnjenaa", sum := "9454f10e1a5889837964569a28d9910d439534fcd96e4e10fd0cecc42ac1da14", func := "standby/standbylaw25.PacketBack", spec := "packetBack", unfollowed := true, recurses := true, apart := false, narrowed := true }
def PacketBackUptoSaid : Prop := packetBackUptoRow.holds Try.pinned (OpenSpec.upto packetBackSpec)

/-- 'standbylaw25.PacketOnce', WHERE WHAT IT READS IS OF BULK AT MOST 1048576: true; the input reads as it did. -/
def packetOnceUptoRow : OpenClaim := { program := "ytkhekmmldnjenaa", sum := "9454f10e1a5889837964569a28d9910d439534fcd96e4e10fd0cecc42ac1da14", func := "standby/standbylaw25.PacketOnce", spec := "packetOnce", unfollowed := true, recurses := true, apart := false, narrowed := true }
def PacketOnceUptoSaid : Prop := packetOnceUptoRow.holds Try.pinned (OpenSpec.upto packetOnceSpec)

/-- 'standbylaw25.PacketDetects', WHERE WHAT IT READS IS OF BULK AT MOST 1048576: true; the input reads as it did. -/
def packetDetectsUptoRow : OpenClaim := { program := "ytkhekmmldnjenaa", sum := "9454f10e1a5889837964569a28d9910d439534fcd96e4e10fd0cecc42ac1da14", func := "standby/standbylaw25.PacketDetects", spec := "packetDetects", unfollowed := true, recurses := true, apart := false, narrowed := true }
def PacketDetectsUptoSaid : Prop := packetDetectsUptoRow.holds Try.pinned (OpenSpec.upto packetDetectsSpec)

/-- 'standbylaw25.PacketGaps', WHERE WHAT IT READS IS OF BULK AT MOST 1048576: true; the input reads as it did. -/
def packetGapsUptoRow : OpenClaim := { program := "ytkhekmmldnjenaa", sum := "9454f10e1a5889837964569a28d9910d439534fcd96e4e10fd0cecc42ac1da14", func := "standby/standbylaw25.PacketGaps", spec := "packetGaps", unfollowed := true, recurses := true, apart := false, narrowed := true }
def PacketGapsUptoSaid : Prop := packetGapsUptoRow.holds Try.pinned (OpenSpec.upto packetGapsSpec)

end Rows
end Go.Proofs.Ytkhekmmldnjenaa
