/-
  NARROWER THAN 'FOR EVERY INPUT', by the rows' own cells (each row's printed sentence says how): WholeLeak: laid · AuditWithin: laid · KernelNothing: laid · MachineNothing: laid.
  DERIVED. THE GIVEN ROWS OF THIS SEAT. 4 by the template 'for every input the law returns true; each argument reads behind the call as it read before'; 0 by the template 'total and deterministic' (their statements: YtcdkbkgpgemfgaaGreatDoorTotals.lean).
  GIVEN WITH THE SEED: the statements are not yours to turn. If you find one false, say at which input.
  Laid BY PROGRAM, IN A SANDBOX (cutbox-rows.mjs): the forced cells as the released guide's own fill.sh prints them over the translation 1d7803b3630397b5… (all of the seat's roots in one cut). By AI agents, Wed Nov 11 2026. No macro, syntax, notation, axiom, sorry.
-/
import Derived.Test.YtcdkbkgpgemfgaaGreatDoorChecked
import GoSem.Claim
import GoSem.ClaimJoined
import GoSem.ClaimMapViews
import Derived.JoinedTies
import Derived.KernelRfl
namespace Go.Proofs.YtcdkbkgpgemfgaaGreatDoor
/- THE CELL 'sum', in the pinned program and in every row, IS THE sha256 OF THE DUMP (.gsa) THAT YtcdkbkgpgemfgaaGreatDoorProg.lean LOADS. Nothing in Lean hashes anything: it is a label: what it is worth is what the hold of that sum in a sandbox is worth. -/
noncomputable def Tryz.pinned : Pinned := { name := "ytcdkbkgpgemfgaagreatdoor", sum := "1d7803b3630397b5b96f674a7a42b7b7b167c7f3d50e983a3c043f214c6c73f5", checked := Tryz.checked }
namespace Rows
def none {H : Type} : Left H := { results := [], args := [] }

/- WHAT THE LISTED PACKAGE-LEVEL VARIABLES READ AS WHEN THE CALL BEGINS. Each datum BY PROGRAM (the guide's laid-datum.mjs) off the statement by which the dump's own 'gosem.cut.vars' lays the variable. In a bare row this is a premise. The card (YtcdkbkgpgemfgaaGreatDoorCards.lean) ties it to the program's text. -/
def laid_jacinth_rights_names {H : Type} : DataW H := .agg [.lit (.string []), .lit (.string [106, 111, 98]), .lit (.string [112, 114, 111, 99, 101, 115, 115]), .lit (.string [116, 104, 114, 101, 97, 100]), .lit (.string [99, 104, 97, 110, 110, 101, 108]), .lit (.string [115, 111, 99, 107, 101, 116]), .lit (.string [102, 105, 102, 111]), .lit (.string [101, 118, 101, 110, 116]), .lit (.string [101, 118, 101, 110, 116, 112, 97, 105, 114]), .lit (.string [112, 111, 114, 116]), .lit (.string [116, 105, 109, 101, 114]), .lit (.string [118, 109, 111])]

/-- 'jacinthtop.WholeLeak': WHATEVER THE INPUT: true; the input reads as it did. -/
def wholeLeakSpec : ChangeSpec := { name := "wholeLeak", fn := fun _ => fun
  | [d1, d2] => { results := [.lit (.bool true)], args := [d1, d2] }
  | _ => none }
def wholeLeakRow : OpenClaim := { program := "ytcdkbkgpgemfgaagreatdoor", sum := "1d7803b3630397b5b96f674a7a42b7b7b167c7f3d50e983a3c043f214c6c73f5", func := "jacinth/jacinthtop.WholeLeak", spec := "wholeLeak", inPlace := ["slices.overlaps[jacinth/channel.Message]", "slices.overlaps[jacinth/region.Piece]"], unfollowed := true, recurses := true, named := ["jacinth/rights.names"], apart := false, laid := [("jacinth/rights.names", laid_jacinth_rights_names)] }
def WholeLeakSaid : Prop := wholeLeakRow.holds Tryz.pinned (OpenSpec.ofChange wholeLeakSpec)

/-- ITS FALSE NEIGHBOUR: 'it returns false'. Refute it at one input. -/
def wholeLeakWrong : ChangeSpec := { name := "wholeLeak", fn := fun _ => fun
  | [d1, d2] => { results := [.lit (.bool false)], args := [d1, d2] }
  | _ => none }
def WholeLeakWrongFalsely : Prop := wholeLeakRow.holds Tryz.pinned (OpenSpec.ofChange wholeLeakWrong)

/-- 'jacinthlaw21.AuditWithin': WHATEVER THE INPUT: true; the input reads as it did. -/
def auditWithinSpec : ChangeSpec := { name := "auditWithin", fn := fun _ => fun
  | [d1, d2, d3] => { results := [.lit (.bool true)], args := [d1, d2, d3] }
  | _ => none }
def auditWithinRow : OpenClaim := { program := "ytcdkbkgpgemfgaagreatdoor", sum := "1d7803b3630397b5b96f674a7a42b7b7b167c7f3d50e983a3c043f214c6c73f5", func := "jacinth/jacinthlaw21.AuditWithin", spec := "auditWithin", unfollowed := true, recurses := true, named := ["jacinth/rights.names"], apart := false, laid := [("jacinth/rights.names", laid_jacinth_rights_names)] }
def AuditWithinSaid : Prop := auditWithinRow.holds Tryz.pinned (OpenSpec.ofChange auditWithinSpec)

/-- ITS FALSE NEIGHBOUR: 'it returns false'. Refute it at one input. -/
def auditWithinWrong : ChangeSpec := { name := "auditWithin", fn := fun _ => fun
  | [d1, d2, d3] => { results := [.lit (.bool false)], args := [d1, d2, d3] }
  | _ => none }
def AuditWithinWrongFalsely : Prop := auditWithinRow.holds Tryz.pinned (OpenSpec.ofChange auditWithinWrong)

/-- 'jacinthlaw19.KernelNothing': WHATEVER THE INPUT: true; the input reads as it did. -/
def kernelNothingSpec : ChangeSpec := { name := "kernelNothing", fn := fun _ => fun
  | [d1, d2] => { results := [.lit (.bool true)], args := [d1, d2] }
  | _ => none }
def kernelNothingRow : OpenClaim := { program := "ytcdkbkgpgemfgaagreatdoor", sum := "1d7803b3630397b5b96f674a7a42b7b7b167c7f3d50e983a3c043f214c6c73f5", func := "jacinth/jacinthlaw19.KernelNothing", spec := "kernelNothing", inPlace := ["slices.overlaps[jacinth/channel.Message]", "slices.overlaps[jacinth/region.Piece]"], unfollowed := true, recurses := true, named := ["jacinth/rights.names"], apart := false, laid := [("jacinth/rights.names", laid_jacinth_rights_names)] }
def KernelNothingSaid : Prop := kernelNothingRow.holds Tryz.pinned (OpenSpec.ofChange kernelNothingSpec)

/-- ITS FALSE NEIGHBOUR: 'it returns false'. Refute it at one input. -/
def kernelNothingWrong : ChangeSpec := { name := "kernelNothing", fn := fun _ => fun
  | [d1, d2] => { results := [.lit (.bool false)], args := [d1, d2] }
  | _ => none }
def KernelNothingWrongFalsely : Prop := kernelNothingRow.holds Tryz.pinned (OpenSpec.ofChange kernelNothingWrong)

/-- 'jacinthlaw20.MachineNothing': WHATEVER THE INPUT: true; the input reads as it did. -/
def machineNothingSpec : ChangeSpec := { name := "machineNothing", fn := fun _ => fun
  | [d] => { results := [.lit (.bool true)], args := [d] }
  | _ => none }
def machineNothingRow : OpenClaim := { program := "ytcdkbkgpgemfgaagreatdoor", sum := "1d7803b3630397b5b96f674a7a42b7b7b167c7f3d50e983a3c043f214c6c73f5", func := "jacinth/jacinthlaw20.MachineNothing", spec := "machineNothing", inPlace := ["slices.overlaps[jacinth/channel.Message]", "slices.overlaps[jacinth/region.Piece]"], unfollowed := true, recurses := true, named := ["jacinth/rights.names"], apart := false, laid := [("jacinth/rights.names", laid_jacinth_rights_names)] }
def MachineNothingSaid : Prop := machineNothingRow.holds Tryz.pinned (OpenSpec.ofChange machineNothingSpec)

/-- ITS FALSE NEIGHBOUR: 'it returns false'. Refute it at one input. -/
def machineNothingWrong : ChangeSpec := { name := "machineNothing", fn := fun _ => fun
  | [d] => { results := [.lit (.bool false)], args := [d] }
  | _ => none }
def MachineNothingWrongFalsely : Prop := machineNothingRow.holds Tryz.pinned (OpenSpec.ofChange machineNothingWrong)

/- THE SECOND FORM. 'bulk': how many values and letters a reading holds, each counted each time it is reached (what is shared counts as often as it is met; a slice's spare places count too). A statement '..UptoSaid' is the law's where the arguments, and the package variables that the reading takes, are together of bulk at most 1048576: NARROWER than '..Said'. Prove '..Said' where nothing that the law and all that it calls make is longer than what came in: it says more and counts as full. Else prove '..UptoSaid'. A law counts once. -/
mutual
def uptoBulk {H : Type} : DataW H → Nat
  | .lit (.string bytes) => bytes.length + 1
  | .lit _ => 1
  | .nil => 1
  | .ptr d => uptoBulk d + 1
  | .slice elems spare => uptoBulkAll elems + uptoBulkAll spare + 1
  | .agg parts => uptoBulkAll parts + 1
  | .iface _ d => uptoBulk d + 1
  | .map entries => uptoBulkEntries entries + 1
  | .held _ => 1
def uptoBulkAll {H : Type} : List (DataW H) → Nat
  | [] => 0
  | d :: r => uptoBulk d + uptoBulkAll r
def uptoBulkEntries {H : Type} : List (Lit × DataW H) → Nat
  | [] => 0
  | x :: r => uptoBulkEntry x + uptoBulkEntries r
def uptoBulkEntry {H : Type} : Lit × DataW H → Nat
  | (.string bytes, d) => bytes.length + uptoBulk d + 1
  | (_, d) => uptoBulk d + 1
 end
def uptoSmall : (H : Type) → List (DataW H) → Bool := fun _ ds => decide (uptoBulkAll ds ≤ 1048576)
def OpenSpec.upto (s : _root_.Go.ChangeSpec) : _root_.Go.OpenSpec := { _root_.Go.OpenSpec.ofChange s with cond := some uptoSmall }

/-- 'jacinthtop.WholeLeak', WHERE WHAT IT READS IS OF BULK AT MOST 1048576: true; the input reads as it did. -/
def wholeLeakUptoRow : OpenClaim := { program := "ytcdkbkgpgemfgaagreatdoor", sum := "1d7803b3630397b5b96f674a7a42b7b7b167c7f3d50e983a3c043f214c6c73f5", func := "jacinth/jacinthtop.WholeLeak", spec := "wholeLeak", inPlace := ["slices.overlaps[jacinth/channel.Message]", "slices.overlaps[jacinth/region.Piece]"], unfollowed := true, recurses := true, named := ["jacinth/rights.names"], apart := false, laid := [("jacinth/rights.names", laid_jacinth_rights_names)], narrowed := true }
def WholeLeakUptoSaid : Prop := wholeLeakUptoRow.holds Tryz.pinned (OpenSpec.upto wholeLeakSpec)

/-- 'jacinthlaw21.AuditWithin', WHERE WHAT IT READS IS OF BULK AT MOST 1048576: true; the input reads as it did. -/
def auditWithinUptoRow : OpenClaim := { program := "ytcdkbkgpgemfgaagreatdoor", sum := "1d7803b3630397b5b96f674a7a42b7b7b167c7f3d50e983a3c043f214c6c73f5", func := "jacinth/jacinthlaw21.AuditWithin", spec := "auditWithin", unfollowed := true, recurses := true, named := ["jacinth/rights.names"], apart := false, laid := [("jacinth/rights.names", laid_jacinth_rights_names)], narrowed := true }
def AuditWithinUptoSaid : Prop := auditWithinUptoRow.holds Tryz.pinned (OpenSpec.upto auditWithinSpec)

/-- 'jacinthlaw19.KernelNothing', WHERE WHAT IT READS IS OF BULK AT MOST 1048576: true; the input reads as it did. -/
def kernelNothingUptoRow : OpenClaim := { program := "ytcdkbkgpgemfgaagreatdoor", sum := "1d7803b3630397b5b96f674a7a42b7b7b167c7f3d50e983a3c043f214c6c73f5", func := "jacinth/jacinthlaw19.KernelNothing", spec := "kernelNothing", inPlace := ["slices.overlaps[jacinth/channel.Message]", "slices.overlaps[jacinth/region.Piece]"], unfollowed := true, recurses := true, named := ["jacinth/rights.names"], apart := false, laid := [("jacinth/rights.names", laid_jacinth_rights_names)], narrowed := true }
def KernelNothingUptoSaid : Prop := kernelNothingUptoRow.holds Tryz.pinned (OpenSpec.upto kernelNothingSpec)

/-- 'jacinthlaw20.MachineNothing', WHERE WHAT IT READS IS OF BULK AT MOST 1048576: true; the input reads as it did. -/
def machineNothingUptoRow : OpenClaim := { program := "ytcdkbkgpgemfgaagreatdoor", sum := "1d7803b3630397b5b96f674a7a42b7b7b167c7f3d50e983a3c043f214c6c73f5", func := "jacinth/jacinthlaw20.MachineNothing", spec := "machineNothing", inPlace := ["slices.overlaps[jacinth/channel.Message]", "slices.overlaps[jacinth/region.Piece]"], unfollowed := true, recurses := true, named := ["jacinth/rights.names"], apart := false, laid := [("jacinth/rights.names", laid_jacinth_rights_names)], narrowed := true }
def MachineNothingUptoSaid : Prop := machineNothingUptoRow.holds Tryz.pinned (OpenSpec.upto machineNothingSpec)

end Rows
end Go.Proofs.YtcdkbkgpgemfgaaGreatDoor
