/-
  NARROWER THAN 'FOR EVERY INPUT', by the rows' own cells (each row's printed sentence says how): KernelPairs: laid · KernelConsumes: laid · AuditQueues: laid.
  DERIVED. THE GIVEN ROWS OF THIS SEAT. 3 by the template 'for every input the law returns true; each argument reads behind the call as it read before'; 0 by the template 'total and deterministic' (their statements: YtfehhjjfmbjlfaaGreatDoorTotals.lean).
  GIVEN WITH THE SEED: the statements are not yours to turn. If you find one false, say at which input.
  Laid BY PROGRAM, IN A SANDBOX (cutbox-rows.mjs): the forced cells as the released guide's own fill.sh prints them over the translation 3f4a9cc24a6b21e6… (all of the seat's roots in one cut). By AI agents, Wed Nov 11 2026. No macro, syntax, notation, axiom, sorry.
-/
import Derived.Test.YtfehhjjfmbjlfaaGreatDoorChecked
import GoSem.Claim
import GoSem.ClaimJoined
import GoSem.ClaimMapViews
import Derived.JoinedTies
import Derived.KernelRfl
namespace Go.Proofs.YtfehhjjfmbjlfaaGreatDoor
/- THE CELL 'sum', in the pinned program and in every row, IS THE sha256 OF THE DUMP (.gsa) THAT YtfehhjjfmbjlfaaGreatDoorProg.lean LOADS. Nothing in Lean hashes anything: it is a label: what it is worth is what the hold of that sum in a sandbox is worth. -/
noncomputable def Tryz.pinned : Pinned := { name := "ytfehhjjfmbjlfaagreatdoor", sum := "3f4a9cc24a6b21e61cbc9b8c0f9bdfa92449abc451bb31fce2785b1aea1474be", checked := Tryz.checked }
namespace Rows
def none {H : Type} : Left H := { results := [], args := [] }

/- WHAT THE LISTED PACKAGE-LEVEL VARIABLES READ AS WHEN THE CALL BEGINS. Each datum BY PROGRAM (the guide's laid-datum.mjs) off the statement by which the dump's own 'gosem.cut.vars' lays the variable. In a bare row this is a premise. The card (YtfehhjjfmbjlfaaGreatDoorCards.lean) ties it to the program's text. -/
def laid_jacinth_rights_names {H : Type} : DataW H := .agg [.lit (.string []), .lit (.string [106, 111, 98]), .lit (.string [112, 114, 111, 99, 101, 115, 115]), .lit (.string [116, 104, 114, 101, 97, 100]), .lit (.string [99, 104, 97, 110, 110, 101, 108]), .lit (.string [115, 111, 99, 107, 101, 116]), .lit (.string [102, 105, 102, 111]), .lit (.string [101, 118, 101, 110, 116]), .lit (.string [101, 118, 101, 110, 116, 112, 97, 105, 114]), .lit (.string [112, 111, 114, 116]), .lit (.string [116, 105, 109, 101, 114]), .lit (.string [118, 109, 111])]

/-- 'jacinthlaw19.KernelPairs': WHATEVER THE INPUT: true; the input reads as it did. -/
def kernelPairsSpec : ChangeSpec := { name := "kernelPairs", fn := fun _ => fun
  | [d1, d2, d3] => { results := [.lit (.bool true)], args := [d1, d2, d3] }
  | _ => none }
def kernelPairsRow : OpenClaim := { program := "ytfehhjjfmbjlfaagreatdoor", sum := "3f4a9cc24a6b21e61cbc9b8c0f9bdfa92449abc451bb31fce2785b1aea1474be", func := "jacinth/jacinthlaw19.KernelPairs", spec := "kernelPairs", inPlace := ["slices.overlaps[jacinth/channel.Message]", "slices.overlaps[jacinth/region.Piece]"], unfollowed := true, recurses := true, named := ["jacinth/rights.names"], apart := false, laid := [("jacinth/rights.names", laid_jacinth_rights_names)] }
def KernelPairsSaid : Prop := kernelPairsRow.holds Tryz.pinned (OpenSpec.ofChange kernelPairsSpec)

/-- ITS FALSE NEIGHBOUR: 'it returns false'. Refute it at one input. -/
def kernelPairsWrong : ChangeSpec := { name := "kernelPairs", fn := fun _ => fun
  | [d1, d2, d3] => { results := [.lit (.bool false)], args := [d1, d2, d3] }
  | _ => none }
def KernelPairsWrongFalsely : Prop := kernelPairsRow.holds Tryz.pinned (OpenSpec.ofChange kernelPairsWrong)

/-- 'jacinthlaw19.KernelConsumes': WHATEVER THE INPUT: true; the input reads as it did. -/
def kernelConsumesSpec : ChangeSpec := { name := "kernelConsumes", fn := fun _ => fun
  | [d1, d2, d3] => { results := [.lit (.bool true)], args := [d1, d2, d3] }
  | _ => none }
def kernelConsumesRow : OpenClaim := { program := "ytfehhjjfmbjlfaagreatdoor", sum := "3f4a9cc24a6b21e61cbc9b8c0f9bdfa92449abc451bb31fce2785b1aea1474be", func := "jacinth/jacinthlaw19.KernelConsumes", spec := "kernelConsumes", inPlace := ["slices.overlaps[jacinth/channel.Message]", "slices.overlaps[jacinth/region.Piece]"], unfollowed := true, recurses := true, named := ["jacinth/rights.names"], apart := false, laid := [("jacinth/rights.names", laid_jacinth_rights_names)] }
def KernelConsumesSaid : Prop := kernelConsumesRow.holds Tryz.pinned (OpenSpec.ofChange kernelConsumesSpec)

/-- ITS FALSE NEIGHBOUR: 'it returns false'. Refute it at one input. -/
def kernelConsumesWrong : ChangeSpec := { name := "kernelConsumes", fn := fun _ => fun
  | [d1, d2, d3] => { results := [.lit (.bool false)], args := [d1, d2, d3] }
  | _ => none }
def KernelConsumesWrongFalsely : Prop := kernelConsumesRow.holds Tryz.pinned (OpenSpec.ofChange kernelConsumesWrong)

/-- 'jacinthlaw21.AuditQueues': WHATEVER THE INPUT: true; the input reads as it did. -/
def auditQueuesSpec : ChangeSpec := { name := "auditQueues", fn := fun _ => fun
  | [d1, d2] => { results := [.lit (.bool true)], args := [d1, d2] }
  | _ => none }
def auditQueuesRow : OpenClaim := { program := "ytfehhjjfmbjlfaagreatdoor", sum := "3f4a9cc24a6b21e61cbc9b8c0f9bdfa92449abc451bb31fce2785b1aea1474be", func := "jacinth/jacinthlaw21.AuditQueues", spec := "auditQueues", inPlace := ["slices.overlaps[jacinth/channel.Message]", "slices.overlaps[jacinth/region.Piece]"], unfollowed := true, recurses := true, named := ["jacinth/rights.names"], apart := false, laid := [("jacinth/rights.names", laid_jacinth_rights_names)] }
def AuditQueuesSaid : Prop := auditQueuesRow.holds Tryz.pinned (OpenSpec.ofChange auditQueuesSpec)

/-- ITS FALSE NEIGHBOUR: 'it returns false'. Refute it at one input. -/
def auditQueuesWrong : ChangeSpec := { name := "auditQueues", fn := fun _ => fun
  | [d1, d2] => { results := [.lit (.bool false)], args := [d1, d2] }
  | _ => none }
def AuditQueuesWrongFalsely : Prop := auditQueuesRow.holds Tryz.pinned (OpenSpec.ofChange auditQueuesWrong)

/- THE SECOND FORM. 'bulk': how many values and letters a reading holds, each counted each time it is reached (what is shared counts as often as it is met; a slice's spare places count too). A statement '..UptoSaid' is the law's where the arguments, and the package variables that the reading takes, are together of bulk at most 1048576: NARROWER than '..Said'. Prove '..Said' where nothing that the law and all that it calls make is longer than what came in: it says more and counts as full. Else prove '..UptoSaid'. A law counts once. -/
mutual
def uptoBulk {H : Type} : DataW H → Nat
  | .lit (.string bytes) => bytes.length + 1
  | .lit _ => 1
  | .nil => 1
  | .ptr d => uptoBulk d + 1
  | .slice elems spare => uptoBulkAll elems + uptoBulkAll spare + 1
  | .agg parts => uptoBulkAll parts + 1
  | .iface _ d => uptoBulk d + 1
  | .map entries => uptoBulkEntries entries + 1
  | .held _ => 1
def uptoBulkAll {H : Type} : List (DataW H) → Nat
  | [] => 0
  | d :: r => uptoBulk d + uptoBulkAll r
def uptoBulkEntries {H : Type} : List (Lit × DataW H) → Nat
  | [] => 0
  | x :: r => uptoBulkEntry x + uptoBulkEntries r
def uptoBulkEntry {H : Type} : Lit × DataW H → Nat
  | (.string bytes, d) => bytes.length + uptoBulk d + 1
  | (_, d) => uptoBulk d + 1
 end
def uptoSmall : (H : Type) → List (DataW H) → Bool := fun _ ds => decide (uptoBulkAll ds ≤ 1048576)
def OpenSpec.upto (s : _root_.Go.ChangeSpec) : _root_.Go.OpenSpec := { _root_.Go.OpenSpec.ofChange s with cond := some uptoSmall }

/-- 'jacinthlaw19.KernelPairs', WHERE WHAT IT READS IS OF BULK AT MOST 1048576: true; the input reads as it did. -/
def kernelPairsUptoRow : OpenClaim := { program := "ytfehhjjfmbjlfaagreatdoor", sum := "3f4a9cc24a6b21e61cbc9b8c0f9bdfa92449abc451bb31fce2785b1aea1474be", func := "jacinth/jacinthlaw19.KernelPairs", spec := "kernelPairs", inPlace := ["slices.overlaps[jacinth/channel.Message]", "slices.overlaps[jacinth/region.Piece]"], unfollowed := true, recurses := true, named := ["jacinth/rights.names"], apart := false, laid := [("jacinth/rights.names", laid_jacinth_rights_names)], narrowed := true }
def KernelPairsUptoSaid : Prop := kernelPairsUptoRow.holds Tryz.pinned (OpenSpec.upto kernelPairsSpec)

/-- 'jacinthlaw19.KernelConsumes', WHERE WHAT IT READS IS OF BULK AT MOST 1048576: true; the input reads as it did. -/
def kernelConsumesUptoRow : OpenClaim := { program := "ytfehhjjfmbjlfaagreatdoor", sum := "3f4a9cc24a6b21e61cbc9b8c0f9bdfa92449abc451bb31fce2785b1aea1474be", func := "jacinth/jacinthlaw19.KernelConsumes", spec := "kernelConsumes", inPlace := ["slices.overlaps[jacinth/channel.Message]", "slices.overlaps[jacinth/region.Piece]"], unfollowed := true, recurses := true, named := ["jacinth/rights.names"], apart := false, laid := [("jacinth/rights.names", laid_jacinth_rights_names)], narrowed := true }
def KernelConsumesUptoSaid : Prop := kernelConsumesUptoRow.holds Tryz.pinned (OpenSpec.upto kernelConsumesSpec)

/-- 'jacinthlaw21.AuditQueues', WHERE WHAT IT READS IS OF BULK AT MOST 1048576: true; the input reads as it did. -/
def auditQueuesUptoRow : OpenClaim := { program := "ytfehhjjfmbjlfaagreatdoor", sum := "3f4a9cc24a6b21e61cbc9b8c0f9bdfa92449abc451bb31fce2785b1aea1474be", func := "jacinth/jacinthlaw21.AuditQueues", spec := "auditQueues", inPlace := ["slices.overlaps[jacinth/channel.Message]", "slices.overlaps[jacinth/region.Piece]"], unfollowed := true, recurses := true, named := ["jacinth/rights.names"], apart := false, laid := [("jacinth/rights.names", laid_jacinth_rights_names)], narrowed := true }
def AuditQueuesUptoSaid : Prop := auditQueuesUptoRow.holds Tryz.pinned (OpenSpec.upto auditQueuesSpec)

end Rows
end Go.Proofs.YtfehhjjfmbjlfaaGreatDoor
