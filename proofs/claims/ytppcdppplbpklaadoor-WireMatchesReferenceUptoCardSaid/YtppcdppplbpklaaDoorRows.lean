/-
  NARROWER THAN 'FOR EVERY INPUT', by the rows' own cells (each row's printed sentence says how): WireInverse: laid · WireDamage: laid · WireTruncated: laid · WireBursts: laid · WireSums: laid · WireLengths: laid · WireMatchesReference: laid · WireStreams: laid.
  DERIVED. THE GIVEN ROWS OF THIS SEAT. 8 by the template 'for every input the law returns true; each argument reads behind the call as it read before'; 0 by the template 'total and deterministic' (their statements: YtppcdppplbpklaaDoorTotals.lean).
  GIVEN WITH THE SEED: the statements are not yours to turn. If you find one false, say at which input.
  Laid BY PROGRAM, IN A SANDBOX (cutbox-rows.mjs): the forced cells as the released guide's own fill.sh prints them over the translation 71c375190dba0ad6… (all of the seat's roots in one cut). By AI agents, Wed Nov 11 2026. No macro, syntax, notation, axiom, sorry.
-/
import Derived.Test.YtppcdppplbpklaaDoorChecked
import GoSem.Claim
import GoSem.ClaimJoined
import GoSem.ClaimMapViews
import Derived.JoinedTies
import Derived.KernelRfl
namespace Go.Proofs.YtppcdppplbpklaaDoor
/- THE CELL 'sum', in the pinned program and in every row, IS THE sha256 OF THE DUMP (.gsa) THAT YtppcdppplbpklaaDoorProg.lean LOADS. Nothing in Lean hashes anything: it is a label: what it is worth is what the hold of that sum in a sandbox is worth. -/
noncomputable def Tryd.pinned : Pinned := { name := "ytppcdppplbpklaadoor", sum := "71c375190dba0ad68a754d6c994c0f5d00fdaf22aed7fe115f411b0e72b5f6c4", checked := Tryd.checked }
namespace Rows
def none {H : Type} : Left H := { results := [], args := [] }

/- WHAT THE LISTED PACKAGE-LEVEL VARIABLES READ AS WHEN THE CALL BEGINS. Each datum BY PROGRAM (the guide's laid-datum.mjs) off the statement by which the dump's own 'gosem.cut.vars' lays the variable. In a bare row this is a premise. The card (YtppcdppplbpklaaDoorCards.lean) ties it to the program's text. -/
def laid_errors_errorType {H : Type} : DataW H := .iface "internal/reflectlite.rtype" (.agg [.ptr (.lit (.string [101, 114, 114, 111, 114]))])
def laid_schisma_wire_nibbles {H : Type} : DataW H := .agg [.lit (.int .u32 0), .lit (.int .u32 498536548), .lit (.int .u32 997073096), .lit (.int .u32 651767980), .lit (.int .u32 1994146192), .lit (.int .u32 1802195444), .lit (.int .u32 1303535960), .lit (.int .u32 1342533948), .lit (.int .u32 3988292384), .lit (.int .u32 4027552580), .lit (.int .u32 3604390888), .lit (.int .u32 3412177804), .lit (.int .u32 2607071920), .lit (.int .u32 2262029012), .lit (.int .u32 2685067896), .lit (.int .u32 3183342108)]

/-- 'schismalaw28.WireInverse': WHATEVER THE INPUT: true; the input reads as it did. -/
def wireInverseSpec : ChangeSpec := { name := "wireInverse", fn := fun _ => fun
  | [d1, d2, d3] => { results := [.lit (.bool true)], args := [d1, d2, d3] }
  | _ => none }
def wireInverseRow : OpenClaim := { program := "ytppcdppplbpklaadoor", sum := "71c375190dba0ad68a754d6c994c0f5d00fdaf22aed7fe115f411b0e72b5f6c4", func := "schisma/schismalaw28.WireInverse", spec := "wireInverse", inPlace := ["internal/reflectlite.ValueOf", "(internal/reflectlite.Value).Type", "(internal/reflectlite.Value).IsNil", "internal/reflectlite.TypeOf", "(internal/reflectlite.Value).Elem", "(internal/reflectlite.Value).Set"], unfollowed := true, recurses := true, named := ["schisma/wire.nibbles", "errors.errorType"], apart := false, laid := [("errors.errorType", laid_errors_errorType), ("schisma/wire.nibbles", laid_schisma_wire_nibbles)] }
def WireInverseSaid : Prop := wireInverseRow.holds Tryd.pinned (OpenSpec.ofChange wireInverseSpec)

/-- ITS FALSE NEIGHBOUR: 'it returns false'. Refute it at one input. -/
def wireInverseWrong : ChangeSpec := { name := "wireInverse", fn := fun _ => fun
  | [d1, d2, d3] => { results := [.lit (.bool false)], args := [d1, d2, d3] }
  | _ => none }
def WireInverseWrongFalsely : Prop := wireInverseRow.holds Tryd.pinned (OpenSpec.ofChange wireInverseWrong)

/-- 'schismalaw28.WireDamage': WHATEVER THE INPUT: true; the input reads as it did. -/
def wireDamageSpec : ChangeSpec := { name := "wireDamage", fn := fun _ => fun
  | [d1, d2, d3] => { results := [.lit (.bool true)], args := [d1, d2, d3] }
  | _ => none }
def wireDamageRow : OpenClaim := { program := "ytppcdppplbpklaadoor", sum := "71c375190dba0ad68a754d6c994c0f5d00fdaf22aed7fe115f411b0e72b5f6c4", func := "schisma/schismalaw28.WireDamage", spec := "wireDamage", inPlace := ["internal/reflectlite.ValueOf", "(internal/reflectlite.Value).Type", "(internal/reflectlite.Value).IsNil", "internal/reflectlite.TypeOf", "(internal/reflectlite.Value).Elem", "(internal/reflectlite.Value).Set"], unfollowed := true, recurses := true, named := ["schisma/wire.nibbles", "errors.errorType"], apart := false, laid := [("errors.errorType", laid_errors_errorType), ("schisma/wire.nibbles", laid_schisma_wire_nibbles)] }
def WireDamageSaid : Prop := wireDamageRow.holds Tryd.pinned (OpenSpec.ofChange wireDamageSpec)

/-- ITS FALSE NEIGHBOUR: 'it returns false'. Refute it at one input. -/
def wireDamageWrong : ChangeSpec := { name := "wireDamage", fn := fun _ => fun
  | [d1, d2, d3] => { results := [.lit (.bool false)], args := [d1, d2, d3] }
  | _ => none }
def WireDamageWrongFalsely : Prop := wireDamageRow.holds Tryd.pinned (OpenSpec.ofChange wireDamageWrong)

/-- 'schismalaw28.WireTruncated': WHATEVER THE INPUT: true; the input reads as it did. -/
def wireTruncatedSpec : ChangeSpec := { name := "wireTruncated", fn := fun _ => fun
  | [d] => { results := [.lit (.bool true)], args := [d] }
  | _ => none }
def wireTruncatedRow : OpenClaim := { program := "ytppcdppplbpklaadoor", sum := "71c375190dba0ad68a754d6c994c0f5d00fdaf22aed7fe115f411b0e72b5f6c4", func := "schisma/schismalaw28.WireTruncated", spec := "wireTruncated", inPlace := ["internal/reflectlite.ValueOf", "(internal/reflectlite.Value).Type", "(internal/reflectlite.Value).IsNil", "internal/reflectlite.TypeOf", "(internal/reflectlite.Value).Elem", "(internal/reflectlite.Value).Set"], unfollowed := true, recurses := true, named := ["schisma/wire.nibbles", "errors.errorType"], apart := false, laid := [("errors.errorType", laid_errors_errorType), ("schisma/wire.nibbles", laid_schisma_wire_nibbles)] }
def WireTruncatedSaid : Prop := wireTruncatedRow.holds Tryd.pinned (OpenSpec.ofChange wireTruncatedSpec)

/-- ITS FALSE NEIGHBOUR: 'it returns false'. Refute it at one input. -/
def wireTruncatedWrong : ChangeSpec := { name := "wireTruncated", fn := fun _ => fun
  | [d] => { results := [.lit (.bool false)], args := [d] }
  | _ => none }
def WireTruncatedWrongFalsely : Prop := wireTruncatedRow.holds Tryd.pinned (OpenSpec.ofChange wireTruncatedWrong)

/-- 'schismalaw28.WireBursts': WHATEVER THE INPUT: true; the input reads as it did. -/
def wireBurstsSpec : ChangeSpec := { name := "wireBursts", fn := fun _ => fun
  | [d1, d2, d3] => { results := [.lit (.bool true)], args := [d1, d2, d3] }
  | _ => none }
def wireBurstsRow : OpenClaim := { program := "ytppcdppplbpklaadoor", sum := "71c375190dba0ad68a754d6c994c0f5d00fdaf22aed7fe115f411b0e72b5f6c4", func := "schisma/schismalaw28.WireBursts", spec := "wireBursts", inPlace := ["internal/reflectlite.ValueOf", "(internal/reflectlite.Value).Type", "(internal/reflectlite.Value).IsNil", "internal/reflectlite.TypeOf", "(internal/reflectlite.Value).Elem", "(internal/reflectlite.Value).Set"], unfollowed := true, recurses := true, named := ["schisma/wire.nibbles", "errors.errorType"], apart := false, laid := [("errors.errorType", laid_errors_errorType), ("schisma/wire.nibbles", laid_schisma_wire_nibbles)] }
def WireBurstsSaid : Prop := wireBurstsRow.holds Tryd.pinned (OpenSpec.ofChange wireBurstsSpec)

/-- ITS FALSE NEIGHBOUR: 'it returns false'. Refute it at one input. -/
def wireBurstsWrong : ChangeSpec := { name := "wireBursts", fn := fun _ => fun
  | [d1, d2, d3] => { results := [.lit (.bool false)], args := [d1, d2, d3] }
  | _ => none }
def WireBurstsWrongFalsely : Prop := wireBurstsRow.holds Tryd.pinned (OpenSpec.ofChange wireBurstsWrong)

/-- 'schismalaw28.WireSums': WHATEVER THE INPUT: true; the input reads as it did. -/
def wireSumsSpec : ChangeSpec := { name := "wireSums", fn := fun _ => fun
  | [d1, d2, d3] => { results := [.lit (.bool true)], args := [d1, d2, d3] }
  | _ => none }
def wireSumsRow : OpenClaim := { program := "ytppcdppplbpklaadoor", sum := "71c375190dba0ad68a754d6c994c0f5d00fdaf22aed7fe115f411b0e72b5f6c4", func := "schisma/schismalaw28.WireSums", spec := "wireSums", inPlace := ["internal/reflectlite.ValueOf", "(internal/reflectlite.Value).Type", "(internal/reflectlite.Value).IsNil", "internal/reflectlite.TypeOf", "(internal/reflectlite.Value).Elem", "(internal/reflectlite.Value).Set"], unfollowed := true, recurses := true, named := ["schisma/wire.nibbles", "errors.errorType"], apart := false, laid := [("errors.errorType", laid_errors_errorType), ("schisma/wire.nibbles", laid_schisma_wire_nibbles)] }
def WireSumsSaid : Prop := wireSumsRow.holds Tryd.pinned (OpenSpec.ofChange wireSumsSpec)

/-- ITS FALSE NEIGHBOUR: 'it returns false'. Refute it at one input. -/
def wireSumsWrong : ChangeSpec := { name := "wireSums", fn := fun _ => fun
  | [d1, d2, d3] => { results := [.lit (.bool false)], args := [d1, d2, d3] }
  | _ => none }
def WireSumsWrongFalsely : Prop := wireSumsRow.holds Tryd.pinned (OpenSpec.ofChange wireSumsWrong)

/-- 'schismalaw28.WireLengths': WHATEVER THE INPUT: true; the input reads as it did. -/
def wireLengthsSpec : ChangeSpec := { name := "wireLengths", fn := fun _ => fun
  | [d1, d2] => { results := [.lit (.bool true)], args := [d1, d2] }
  | _ => none }
def wireLengthsRow : OpenClaim := { program := "ytppcdppplbpklaadoor", sum := "71c375190dba0ad68a754d6c994c0f5d00fdaf22aed7fe115f411b0e72b5f6c4", func := "schisma/schismalaw28.WireLengths", spec := "wireLengths", inPlace := ["internal/reflectlite.ValueOf", "(internal/reflectlite.Value).Type", "(internal/reflectlite.Value).IsNil", "internal/reflectlite.TypeOf", "(internal/reflectlite.Value).Elem", "(internal/reflectlite.Value).Set"], unfollowed := true, recurses := true, named := ["schisma/wire.nibbles", "errors.errorType"], apart := false, laid := [("errors.errorType", laid_errors_errorType), ("schisma/wire.nibbles", laid_schisma_wire_nibbles)] }
def WireLengthsSaid : Prop := wireLengthsRow.holds Tryd.pinned (OpenSpec.ofChange wireLengthsSpec)

/-- ITS FALSE NEIGHBOUR: 'it returns false'. Refute it at one input. -/
def wireLengthsWrong : ChangeSpec := { name := "wireLengths", fn := fun _ => fun
  | [d1, d2] => { results := [.lit (.bool false)], args := [d1, d2] }
  | _ => none }
def WireLengthsWrongFalsely : Prop := wireLengthsRow.holds Tryd.pinned (OpenSpec.ofChange wireLengthsWrong)

/-- 'schismalaw28.WireMatchesReference': WHATEVER THE INPUT: true; the input reads as it did. -/
def wireMatchesReferenceSpec : ChangeSpec := { name := "wireMatchesReference", fn := fun _ => fun
  | [d1, d2] => { results := [.lit (.bool true)], args := [d1, d2] }
  | _ => none }
def wireMatchesReferenceRow : OpenClaim := { program := "ytppcdppplbpklaadoor", sum := "71c375190dba0ad68a754d6c994c0f5d00fdaf22aed7fe115f411b0e72b5f6c4", func := "schisma/schismalaw28.WireMatchesReference", spec := "wireMatchesReference", inPlace := ["internal/reflectlite.ValueOf", "(internal/reflectlite.Value).Type", "(internal/reflectlite.Value).IsNil", "internal/reflectlite.TypeOf", "(internal/reflectlite.Value).Elem", "(internal/reflectlite.Value).Set"], unfollowed := true, recurses := true, named := ["schisma/wire.nibbles", "errors.errorType"], apart := false, laid := [("errors.errorType", laid_errors_errorType), ("schisma/wire.nibbles", laid_schisma_wire_nibbles)] }
def WireMatchesReferenceSaid : Prop := wireMatchesReferenceRow.holds Tryd.pinned (OpenSpec.ofChange wireMatchesReferenceSpec)

/-- ITS FALSE NEIGHBOUR: 'it returns false'. Refute it at one input. -/
def wireMatchesReferenceWrong : ChangeSpec := { name := "wireMatchesReference", fn := fun _ => fun
  | [d1, d2] => { results := [.lit (.bool false)], args := [d1, d2] }
  | _ => none }
def WireMatchesReferenceWrongFalsely : Prop := wireMatchesReferenceRow.holds Tryd.pinned (OpenSpec.ofChange wireMatchesReferenceWrong)

/-- 'schismalaw28.WireStreams': WHATEVER THE INPUT: true; the input reads as it did. -/
def wireStreamsSpec : ChangeSpec := { name := "wireStreams", fn := fun _ => fun
  | [d1, d2, d3] => { results := [.lit (.bool true)], args := [d1, d2, d3] }
  | _ => none }
def wireStreamsRow : OpenClaim := { program := "ytppcdppplbpklaadoor", sum := "71c375190dba0ad68a754d6c994c0f5d00fdaf22aed7fe115f411b0e72b5f6c4", func := "schisma/schismalaw28.WireStreams", spec := "wireStreams", inPlace := ["internal/reflectlite.ValueOf", "(internal/reflectlite.Value).Type", "(internal/reflectlite.Value).IsNil", "internal/reflectlite.TypeOf", "(internal/reflectlite.Value).Elem", "(internal/reflectlite.Value).Set"], unfollowed := true, recurses := true, named := ["schisma/wire.nibbles", "errors.errorType"], apart := false, laid := [("errors.errorType", laid_errors_errorType), ("schisma/wire.nibbles", laid_schisma_wire_nibbles)] }
def WireStreamsSaid : Prop := wireStreamsRow.holds Tryd.pinned (OpenSpec.ofChange wireStreamsSpec)

/-- ITS FALSE NEIGHBOUR: 'it returns false'. Refute it at one input. -/
def wireStreamsWrong : ChangeSpec := { name := "wireStreams", fn := fun _ => fun
  | [d1, d2, d3] => { results := [.lit (.bool false)], args := [d1, d2, d3] }
  | _ => none }
def WireStreamsWrongFalsely : Prop := wireStreamsRow.holds Tryd.pinned (OpenSpec.ofChange wireStreamsWrong)

/- THE SECOND FORM. 'bulk': how many values and letters a reading holds, each counted each time it is reached (what is shared counts as often as it is met; a slice's spare places count too). A statement '..UptoSaid' is the law's where the arguments, and the package variables that the reading takes, are together of bulk at most 1048576: NARROWER than '..Said'. Prove '..Said' where nothing that the law and all that it calls make is longer than what came in: it says more and counts as full. Else prove '..UptoSaid'. A law counts once. -/
mutual
def uptoBulk {H : Type} : DataW H → Nat
  | .lit (.string bytes) => bytes.length + 1
  | .lit _ => 1
  | .nil => 1
  | .ptr d => uptoBulk d + 1
  | .slice elems spare => uptoBulkAll elems + uptoBulkAll spare + 1
  | .agg parts => uptoBulkAll parts + 1
  | .iface _ d => uptoBulk d + 1
  | .map entries => uptoBulkEntries entries + 1
  | .held _ => 1
def uptoBulkAll {H : Type} : List (DataW H) → Nat
  | [] => 0
  | d :: r => uptoBulk d + uptoBulkAll r
def uptoBulkEntries {H : Type} : List (Lit × DataW H) → Nat
  | [] => 0
  | x :: r => uptoBulkEntry x + uptoBulkEntries r
def uptoBulkEntry {H : Type} : Lit × DataW H → Nat
  | (.string bytes, d) => bytes.length + uptoBulk d + 1
  | (_, d) => uptoBulk d + 1
 end
def uptoSmall : (H : Type) → List (DataW H) → Bool := fun _ ds => decide (uptoBulkAll ds ≤ 1048576)
def OpenSpec.upto (s : _root_.Go.ChangeSpec) : _root_.Go.OpenSpec := { _root_.Go.OpenSpec.ofChange s with cond := some uptoSmall }

/-- 'schismalaw28.WireInverse', WHERE WHAT IT READS IS OF BULK AT MOST 1048576: true; the input reads as it did. -/
def wireInverseUptoRow : OpenClaim := { program := "ytppcdppplbpklaadoor", sum := "71c375190dba0ad68a754d6c994c0f5d00fdaf22aed7fe115f411b0e72b5f6c4", func := "schisma/schismalaw28.WireInverse", spec := "wireInverse", inPlace := ["internal/reflectlite.ValueOf", "(internal/reflectlite.Value).Type", "(internal/reflectlite.Value).IsNil", "internal/reflectlite.TypeOf", "(internal/reflectlite.Value).Elem", "(internal/reflectlite.Value).Set"], unfollowed := true, recurses := true, named := ["schisma/wire.nibbles", "errors.errorType"], apart := false, laid := [("errors.errorType", laid_errors_errorType), ("schisma/wire.nibbles", laid_schisma_wire_nibbles)], narrowed := true }
def WireInverseUptoSaid : Prop := wireInverseUptoRow.holds Tryd.pinned (OpenSpec.upto wireInverseSpec)

/-- 'schismalaw28.WireDamage', WHERE WHAT IT READS IS OF BULK AT MOST 1048576: true; the input reads as it did. -/
def wireDamageUptoRow : OpenClaim := { program := "ytppcdppplbpklaadoor", sum := "71c375190dba0ad68a754d6c994c0f5d00fdaf22aed7fe115f411b0e72b5f6c4", func := "schisma/schismalaw28.WireDamage", spec := "wireDamage", inPlace := ["internal/reflectlite.ValueOf", "(internal/reflectlite.Value).Type", "(internal/reflectlite.Value).IsNil", "internal/reflectlite.TypeOf", "(internal/reflectlite.Value).Elem", "(internal/reflectlite.Value).Set"], unfollowed := true, recurses := true, named := ["schisma/wire.nibbles", "errors.errorType"], apart := false, laid := [("errors.errorType", laid_errors_errorType), ("schisma/wire.nibbles", laid_schisma_wire_nibbles)], narrowed := true }
def WireDamageUptoSaid : Prop := wireDamageUptoRow.holds Tryd.pinned (OpenSpec.upto wireDamageSpec)

/-- 'schismalaw28.WireTruncated', WHERE WHAT IT READS IS OF BULK AT MOST 1048576: true; the input reads as it did. -/
def wireTruncatedUptoRow : OpenClaim := { program := "ytppcdppplbpklaadoor", sum := "71c375190dba0ad68a754d6c994c0f5d00fdaf22aed7fe115f411b0e72b5f6c4", func := "schisma/schismalaw28.WireTruncated", spec := "wireTruncated", inPlace := ["internal/reflectlite.ValueOf", "(internal/reflectlite.Value).Type", "(internal/reflectlite.Value).IsNil", "internal/reflectlite.TypeOf", "(internal/reflectlite.Value).Elem", "(internal/reflectlite.Value).Set"], unfollowed := true, recurses := true, named := ["schisma/wire.nibbles", "errors.errorType"], apart := false, laid := [("errors.errorType", laid_errors_errorType), ("schisma/wire.nibbles", laid_schisma_wire_nibbles)], narrowed := true }
def WireTruncatedUptoSaid : Prop := wireTruncatedUptoRow.holds Tryd.pinned (OpenSpec.upto wireTruncatedSpec)

/-- 'schismalaw28.WireBursts', WHERE WHAT IT READS IS OF BULK AT MOST 1048576: true; the input reads as it did. -/
def wireBurstsUptoRow : OpenClaim := { program := "ytppcdppplbpklaadoor", sum := "71c375190dba0ad68a754d6c994c0f5d00fdaf22aed7fe115f411b0e72b5f6c4", func := "schisma/schismalaw28.WireBursts", spec := "wireBursts", inPlace := ["internal/reflectlite.ValueOf", "(internal/reflectlite.Value).Type", "(internal/reflectlite.Value).IsNil", "internal/reflectlite.TypeOf", "(internal/reflectlite.Value).Elem", "(internal/reflectlite.Value).Set"], unfollowed := true, recurses := true, named := ["schisma/wire.nibbles", "errors.errorType"], apart := false, laid := [("errors.errorType", laid_errors_errorType), ("schisma/wire.nibbles", laid_schisma_wire_nibbles)], narrowed := true }
def WireBurstsUptoSaid : Prop := wireBurstsUptoRow.holds Tryd.pinned (OpenSpec.upto wireBurstsSpec)

/-- 'schismalaw28.WireSums', WHERE WHAT IT READS IS OF BULK AT MOST 1048576: true; the input reads as it did. -/
def wireSumsUptoRow : OpenClaim := { program := "ytppcdppplbpklaadoor", sum := "71c375190dba0ad68a754d6c994c0f5d00fdaf22aed7fe115f411b0e72b5f6c4", func := "schisma/schismalaw28.WireSums", spec := "wireSums", inPlace := ["internal/reflectlite.ValueOf", "(internal/reflectlite.Value).Type", "(internal/reflectlite.Value).IsNil", "internal/reflectlite.TypeOf", "(internal/reflectlite.Value).Elem", "(internal/reflectlite.Value).Set"], unfollowed := true, recurses := true, named := ["schisma/wire.nibbles", "errors.errorType"], apart := false, laid := [("errors.errorType", laid_errors_errorType), ("schisma/wire.nibbles", laid_schisma_wire_nibbles)], narrowed := true }
def WireSumsUptoSaid : Prop := wireSumsUptoRow.holds Tryd.pinned (OpenSpec.upto wireSumsSpec)

/-- 'schismalaw28.WireLengths', WHERE WHAT IT READS IS OF BULK AT MOST 1048576: true; the input reads as it did. -/
def wireLengthsUptoRow : OpenClaim := { program := "ytppcdppplbpklaadoor", sum := "71c375190dba0ad68a754d6c994c0f5d00fdaf22aed7fe115f411b0e72b5f6c4", func := "schisma/schismalaw28.WireLengths", spec := "wireLengths", inPlace := ["internal/reflectlite.ValueOf", "(internal/reflectlite.Value).Type", "(internal/reflectlite.Value).IsNil", "internal/reflectlite.TypeOf", "(internal/reflectlite.Value).Elem", "(internal/reflectlite.Value).Set"], unfollowed := true, recurses := true, named := ["schisma/wire.nibbles", "errors.errorType"], apart := false, laid := [("errors.errorType", laid_errors_errorType), ("schisma/wire.nibbles", laid_schisma_wire_nibbles)], narrowed := true }
def WireLengthsUptoSaid : Prop := wireLengthsUptoRow.holds Tryd.pinned (OpenSpec.upto wireLengthsSpec)

/-- 'schismalaw28.WireMatchesReference', WHERE WHAT IT READS IS OF BULK AT MOST 1048576: true; the input reads as it did. -/
def wireMatchesReferenceUptoRow : OpenClaim := { program := "ytppcdppplbpklaadoor", sum := "71c375190dba0ad68a754d6c994c0f5d00fdaf22aed7fe115f411b0e72b5f6c4", func := "schisma/schismalaw28.WireMatchesReference", spec := "wireMatchesReference", inPlace := ["internal/reflectlite.ValueOf", "(internal/reflectlite.Value).Type", "(internal/reflectlite.Value).IsNil", "internal/reflectlite.TypeOf", "(internal/reflectlite.Value).Elem", "(internal/reflectlite.Value).Set"], unfollowed := true, recurses := true, named := ["schisma/wire.nibbles", "errors.errorType"], apart := false, laid := [("errors.errorType", laid_errors_errorType), ("schisma/wire.nibbles", laid_schisma_wire_nibbles)], narrowed := true }
def WireMatchesReferenceUptoSaid : Prop := wireMatchesReferenceUptoRow.holds Tryd.pinned (OpenSpec.upto wireMatchesReferenceSpec)

/-- 'schismalaw28.WireStreams', WHERE WHAT IT READS IS OF BULK AT MOST 1048576: true; the input reads as it did. -/
def wireStreamsUptoRow : OpenClaim := { program := "ytppcdppplbpklaadoor", sum := "71c375190dba0ad68a754d6c994c0f5d00fdaf22aed7fe115f411b0e72b5f6c4", func := "schisma/schismalaw28.WireStreams", spec := "wireStreams", inPlace := ["internal/reflectlite.ValueOf", "(internal/reflectlite.Value).Type", "(internal/reflectlite.Value).IsNil", "internal/reflectlite.TypeOf", "(internal/reflectlite.Value).Elem", "(internal/reflectlite.Value).Set"], unfollowed := true, recurses := true, named := ["schisma/wire.nibbles", "errors.errorType"], apart := false, laid := [("errors.errorType", laid_errors_errorType), ("schisma/wire.nibbles", laid_schisma_wire_nibbles)], narrowed := true }
def WireStreamsUptoSaid : Prop := wireStreamsUptoRow.holds Tryd.pinned (OpenSpec.upto wireStreamsSpec)

end Rows
end Go.Proofs.YtppcdppplbpklaaDoor
