/-
  NARROWER THAN 'FOR EVERY INPUT', by the rows' own cells (each row's printed sentence says how): KernelMaps: laid · KernelPairs: laid · KernelReads: laid · KernelConsumes: laid · KernelTasks: laid · KernelTwins: laid · KernelShows: laid · KernelNothing: laid · KernelHolds: laid.
  DERIVED. THE GIVEN ROWS OF THIS SEAT. 9 by the template 'for every input the law returns true; each argument reads behind the call as it read before'; 0 by the template 'total and deterministic' (their statements: YtocoegnoencghaaGreatDoorTotals.lean).
  GIVEN WITH THE SEED: the statements are not yours to turn. If you find one false, say at which input.
  Laid BY PROGRAM, IN A SANDBOX (cutbox-rows.mjs): the forced cells as the released guide's own fill.sh prints them over the translation c61ea7f1800939f8… (all of the seat's roots in one cut). By AI agents, Wed Nov 11 2026. No macro, syntax, notation, axiom, sorry.
-/
import Derived.Test.YtocoegnoencghaaGreatDoorChecked
import GoSem.Claim
import GoSem.ClaimJoined
import GoSem.ClaimMapViews
import Derived.JoinedTies
import Derived.KernelRfl
namespace Go.Proofs.YtocoegnoencghaaGreatDoor
/- THE CELL 'sum', in the pinned program and in every row, IS THE sha256 OF THE DUMP (.gsa) THAT YtocoegnoencghaaGreatDoorProg.lean LOADS. Nothing in Lean hashes anything: it is a label: what it is worth is what the hold of that sum in a sandbox is worth. -/
noncomputable def Tryz.pinned : Pinned := { name := "ytocoegnoencghaagreatdoor", sum := "c61ea7f1800939f8a36680eb8e54d5d30a456ab3daf62684d10ba808cfec94bf", checked := Tryz.checked }
namespace Rows
def none {H : Type} : Left H := { results := [], args := [] }

/- WHAT THE LISTED PACKAGE-LEVEL VARIABLES READ AS WHEN THE CALL BEGINS. Each datum BY PROGRAM (the guide's laid-datum.mjs) off the statement by which the dump's own 'gosem.cut.vars' lays the variable. In a bare row this is a premise. The card (YtocoegnoencghaaGreatDoorCards.lean) ties it to the program's text. -/
def laid_jacinth_rights_names {H : Type} : DataW H := .agg [.lit (.string []), .lit (.string [106, 111, 98]), .lit (.string [112, 114, 111, 99, 101, 115, 115]), .lit (.string [116, 104, 114, 101, 97, 100]), .lit (.string [99, 104, 97, 110, 110, 101, 108]), .lit (.string [115, 111, 99, 107, 101, 116]), .lit (.string [102, 105, 102, 111]), .lit (.string [101, 118, 101, 110, 116]), .lit (.string [101, 118, 101, 110, 116, 112, 97, 105, 114]), .lit (.string [112, 111, 114, 116]), .lit (.string [116, 105, 109, 101, 114]), .lit (.string [118, 109, 111])]

/-- 'jacinthlaw19.KernelMaps': WHATEVER THE INPUT: true; the input reads as it did. -/
def kernelMapsSpec : ChangeSpec := { name := "kernelMaps", fn := fun _ => fun
  | [d1, d2] => { results := [.lit (.bool true)], args := [d1, d2] }
  | _ => none }
def kernelMapsRow : OpenClaim := { program := "ytocoegnoencghaagreatdoor", sum := "c61ea7f1800939f8a36680eb8e54d5d30a456ab3daf62684d10ba808cfec94bf", func := "jacinth/jacinthlaw19.KernelMaps", spec := "kernelMaps", inPlace := ["slices.overlaps[jacinth/channel.Message]", "slices.overlaps[jacinth/region.Piece]"], unfollowed := true, recurses := true, named := ["jacinth/rights.names"], apart := false, laid := [("jacinth/rights.names", laid_jacinth_rights_names)] }
def KernelMapsSaid : Prop := kernelMapsRow.holds Tryz.pinned (OpenSpec.ofChange kernelMapsSpec)

/-- ITS FALSE NEIGHBOUR: 'it returns false'. Refute it at one input. -/
def kernelMapsWrong : ChangeSpec := { name := "kernelMaps", fn := fun _ => fun
  | [d1, d2] => { results := [.lit (.bool false)], args := [d1, d2] }
  | _ => none }
def KernelMapsWrongFalsely : Prop := kernelMapsRow.holds Tryz.pinned (OpenSpec.ofChange kernelMapsWrong)

/-- 'jacinthlaw19.KernelPairs': WHATEVER THE INPUT: true; the input reads as it did. -/
def kernelPairsSpec : ChangeSpec := { name := "kernelPairs", fn := fun _ => fun
  | [d1, d2, d3] => { results := [.lit (.bool true)], args := [d1, d2, d3] }
  | _ => none }
def kernelPairsRow : OpenClaim := { program := "ytocoegnoencghaagreatdoor", sum := "c61ea7f1800939f8a36680eb8e54d5d30a456ab3daf62684d10ba808cfec94bf", func := "jacinth/jacinthlaw19.KernelPairs", spec := "kernelPairs", inPlace := ["slices.overlaps[jacinth/channel.Message]", "slices.overlaps[jacinth/region.Piece]"], unfollowed := true, recurses := true, named := ["jacinth/rights.names"], apart := false, laid := [("jacinth/rights.names", laid_jacinth_rights_names)] }
def KernelPairsSaid : Prop := kernelPairsRow.holds Tryz.pinned (OpenSpec.ofChange kernelPairsSpec)

/-- ITS FALSE NEIGHBOUR: 'it returns false'. Refute it at one input. -/
def kernelPairsWrong : ChangeSpec := { name := "kernelPairs", fn := fun _ => fun
  | [d1, d2, d3] => { results := [.lit (.bool false)], args := [d1, d2, d3] }
  | _ => none }
def KernelPairsWrongFalsely : Prop := kernelPairsRow.holds Tryz.pinned (OpenSpec.ofChange kernelPairsWrong)

/-- 'jacinthlaw19.KernelReads': WHATEVER THE INPUT: true; the input reads as it did. -/
def kernelReadsSpec : ChangeSpec := { name := "kernelReads", fn := fun _ => fun
  | [d] => { results := [.lit (.bool true)], args := [d] }
  | _ => none }
def kernelReadsRow : OpenClaim := { program := "ytocoegnoencghaagreatdoor", sum := "c61ea7f1800939f8a36680eb8e54d5d30a456ab3daf62684d10ba808cfec94bf", func := "jacinth/jacinthlaw19.KernelReads", spec := "kernelReads", inPlace := ["slices.overlaps[jacinth/channel.Message]", "slices.overlaps[jacinth/region.Piece]"], unfollowed := true, recurses := true, named := ["jacinth/rights.names"], apart := false, laid := [("jacinth/rights.names", laid_jacinth_rights_names)] }
def KernelReadsSaid : Prop := kernelReadsRow.holds Tryz.pinned (OpenSpec.ofChange kernelReadsSpec)

/-- ITS FALSE NEIGHBOUR: 'it returns false'. Refute it at one input. -/
def kernelReadsWrong : ChangeSpec := { name := "kernelReads", fn := fun _ => fun
  | [d] => { results := [.lit (.bool false)], args := [d] }
  | _ => none }
def KernelReadsWrongFalsely : Prop := kernelReadsRow.holds Tryz.pinned (OpenSpec.ofChange kernelReadsWrong)

/-- 'jacinthlaw19.KernelConsumes': WHATEVER THE INPUT: true; the input reads as it did. -/
def kernelConsumesSpec : ChangeSpec := { name := "kernelConsumes", fn := fun _ => fun
  | [d1, d2, d3] => { results := [.lit (.bool true)], args := [d1, d2, d3] }
  | _ => none }
def kernelConsumesRow : OpenClaim := { program := "ytocoegnoencghaagreatdoor", sum := "c61ea7f1800939f8a36680eb8e54d5d30a456ab3daf62684d10ba808cfec94bf", func := "jacinth/jacinthlaw19.KernelConsumes", spec := "kernelConsumes", inPlace := ["slices.overlaps[jacinth/channel.Message]", "slices.overlaps[jacinth/region.Piece]"], unfollowed := true, recurses := true, named := ["jacinth/rights.names"], apart := false, laid := [("jacinth/rights.names", laid_jacinth_rights_names)] }
def KernelConsumesSaid : Prop := kernelConsumesRow.holds Tryz.pinned (OpenSpec.ofChange kernelConsumesSpec)

/-- ITS FALSE NEIGHBOUR: 'it returns false'. Refute it at one input. -/
def kernelConsumesWrong : ChangeSpec := { name := "kernelConsumes", fn := fun _ => fun
  | [d1, d2, d3] => { results := [.lit (.bool false)], args := [d1, d2, d3] }
  | _ => none }
def KernelConsumesWrongFalsely : Prop := kernelConsumesRow.holds Tryz.pinned (OpenSpec.ofChange kernelConsumesWrong)

/-- 'jacinthlaw19.KernelTasks': WHATEVER THE INPUT: true; the input reads as it did. -/
def kernelTasksSpec : ChangeSpec := { name := "kernelTasks", fn := fun _ => fun
  | [d1, d2, d3] => { results := [.lit (.bool true)], args := [d1, d2, d3] }
  | _ => none }
def kernelTasksRow : OpenClaim := { program := "ytocoegnoencghaagreatdoor", sum := "c61ea7f1800939f8a36680eb8e54d5d30a456ab3daf62684d10ba808cfec94bf", func := "jacinth/jacinthlaw19.KernelTasks", spec := "kernelTasks", inPlace := ["slices.overlaps[jacinth/channel.Message]", "slices.overlaps[jacinth/region.Piece]"], unfollowed := true, recurses := true, named := ["jacinth/rights.names"], apart := false, laid := [("jacinth/rights.names", laid_jacinth_rights_names)] }
def KernelTasksSaid : Prop := kernelTasksRow.holds Tryz.pinned (OpenSpec.ofChange kernelTasksSpec)

/-- ITS FALSE NEIGHBOUR: 'it returns false'. Refute it at one input. -/
def kernelTasksWrong : ChangeSpec := { name := "kernelTasks", fn := fun _ => fun
  | [d1, d2, d3] => { results := [.lit (.bool false)], args := [d1, d2, d3] }
  | _ => none }
def KernelTasksWrongFalsely : Prop := kernelTasksRow.holds Tryz.pinned (OpenSpec.ofChange kernelTasksWrong)

/-- 'jacinthlaw19.KernelTwins': WHATEVER THE INPUT: true; the input reads as it did. -/
def kernelTwinsSpec : ChangeSpec := { name := "kernelTwins", fn := fun _ => fun
  | [d1, d2] => { results := [.lit (.bool true)], args := [d1, d2] }
  | _ => none }
def kernelTwinsRow : OpenClaim := { program := "ytocoegnoencghaagreatdoor", sum := "c61ea7f1800939f8a36680eb8e54d5d30a456ab3daf62684d10ba808cfec94bf", func := "jacinth/jacinthlaw19.KernelTwins", spec := "kernelTwins", inPlace := ["slices.overlaps[jacinth/channel.Message]", "slices.overlaps[jacinth/region.Piece]"], unfollowed := true, recurses := true, named := ["jacinth/rights.names"], apart := false, laid := [("jacinth/rights.names", laid_jacinth_rights_names)] }
def KernelTwinsSaid : Prop := kernelTwinsRow.holds Tryz.pinned (OpenSpec.ofChange kernelTwinsSpec)

/-- ITS FALSE NEIGHBOUR: 'it returns false'. Refute it at one input. -/
def kernelTwinsWrong : ChangeSpec := { name := "kernelTwins", fn := fun _ => fun
  | [d1, d2] => { results := [.lit (.bool false)], args := [d1, d2] }
  | _ => none }
def KernelTwinsWrongFalsely : Prop := kernelTwinsRow.holds Tryz.pinned (OpenSpec.ofChange kernelTwinsWrong)

/-- 'jacinthlaw19.KernelShows': WHATEVER THE INPUT: true; the input reads as it did. -/
def kernelShowsSpec : ChangeSpec := { name := "kernelShows", fn := fun _ => fun
  | [d1, d2] => { results := [.lit (.bool true)], args := [d1, d2] }
  | _ => none }
def kernelShowsRow : OpenClaim := { program := "ytocoegnoencghaagreatdoor", sum := "c61ea7f1800939f8a36680eb8e54d5d30a456ab3daf62684d10ba808cfec94bf", func := "jacinth/jacinthlaw19.KernelShows", spec := "kernelShows", inPlace := ["slices.overlaps[jacinth/channel.Message]", "slices.overlaps[jacinth/region.Piece]"], unfollowed := true, recurses := true, named := ["jacinth/rights.names"], apart := false, laid := [("jacinth/rights.names", laid_jacinth_rights_names)] }
def KernelShowsSaid : Prop := kernelShowsRow.holds Tryz.pinned (OpenSpec.ofChange kernelShowsSpec)

/-- ITS FALSE NEIGHBOUR: 'it returns false'. Refute it at one input. -/
def kernelShowsWrong : ChangeSpec := { name := "kernelShows", fn := fun _ => fun
  | [d1, d2] => { results := [.lit (.bool false)], args := [d1, d2] }
  | _ => none }
def KernelShowsWrongFalsely : Prop := kernelShowsRow.holds Tryz.pinned (OpenSpec.ofChange kernelShowsWrong)

/-- 'jacinthlaw19.KernelNothing': WHATEVER THE INPUT: true; the input reads as it did. -/
def kernelNothingSpec : ChangeSpec := { name := "kernelNothing", fn := fun _ => fun
  | [d1, d2] => { results := [.lit (.bool true)], args := [d1, d2] }
  | _ => none }
def kernelNothingRow : OpenClaim := { program := "ytocoegnoencghaagreatdoor", sum := "c61ea7f1800939f8a36680eb8e54d5d30a456ab3daf62684d10ba808cfec94bf", func := "jacinth/jacinthlaw19.KernelNothing", spec := "kernelNothing", inPlace := ["slices.overlaps[jacinth/channel.Message]", "slices.overlaps[jacinth/region.Piece]"], unfollowed := true, recurses := true, named := ["jacinth/rights.names"], apart := false, laid := [("jacinth/rights.names", laid_jacinth_rights_names)] }
def KernelNothingSaid : Prop := kernelNothingRow.holds Tryz.pinned (OpenSpec.ofChange kernelNothingSpec)

/-- ITS FALSE NEIGHBOUR: 'it returns false'. Refute it at one input. -/
def kernelNothingWrong : ChangeSpec := { name := "kernelNothing", fn := fun _ => fun
  | [d1, d2] => { results := [.lit (.bool false)], args := [d1, d2] }
  | _ => none }
def KernelNothingWrongFalsely : Prop := kernelNothingRow.holds Tryz.pinned (OpenSpec.ofChange kernelNothingWrong)

/-- 'jacinthlaw19.KernelHolds': WHATEVER THE INPUT: true; the input reads as it did. -/
def kernelHoldsSpec : ChangeSpec := { name := "kernelHolds", fn := fun _ => fun
  | [d1, d2] => { results := [.lit (.bool true)], args := [d1, d2] }
  | _ => none }
def kernelHoldsRow : OpenClaim := { program := "ytocoegnoencghaagreatdoor", sum := "c61ea7f1800939f8a36680eb8e54d5d30a456ab3daf62684d10ba808cfec94bf", func := "jacinth/jacinthlaw19.KernelHolds", spec := "kernelHolds", inPlace := ["slices.overlaps[jacinth/channel.Message]", "slices.overlaps[jacinth/region.Piece]"], unfollowed := true, recurses := true, named := ["jacinth/rights.names"], apart := false, laid := [("jacinth/rights.names", laid_jacinth_rights_names)] }
def KernelHoldsSaid : Prop := kernelHoldsRow.holds Tryz.pinned (OpenSpec.ofChange kernelHoldsSpec)

/-- ITS FALSE NEIGHBOUR: 'it returns false'. Refute it at one input. -/
def kernelHoldsWrong : ChangeSpec := { name := "kernelHolds", fn := fun _ => fun
  | [d1, d2] => { results := [.lit (.bool false)], args := [d1, d2] }
  | _ => none }
def KernelHoldsWrongFalsely : Prop := kernelHoldsRow.holds Tryz.pinned (OpenSpec.ofChange kernelHoldsWrong)

/- THE SECOND FORM. 'bulk': how many values and letters a reading holds, each counted each time it is reached (what is shared counts as often as it is met; a slice's spare places count too). A statement '..UptoSaid' is the law's where the arguments, and the package variables that the reading takes, are together of bulk at most 1048576: NARROWER than '..Said'. Prove '..Said' where nothing that the law and all that it calls make is longer than what came in: it says more and counts as full. Else prove '..UptoSaid'. A law counts once. -/
mutual
def uptoBulk {H : Type} : DataW H → Nat
  | .lit (.string bytes) => bytes.length + 1
  | .lit _ => 1
  | .nil => 1
  | .ptr d => uptoBulk d + 1
  | .slice elems spare => uptoBulkAll elems + uptoBulkAll spare + 1
  | .agg parts => uptoBulkAll parts + 1
  | .iface _ d => uptoBulk d + 1
  | .map entries => uptoBulkEntries entries + 1
  | .held _ => 1
def uptoBulkAll {H : Type} : List (DataW H) → Nat
  | [] => 0
  | d :: r => uptoBulk d + uptoBulkAll r
def uptoBulkEntries {H : Type} : List (Lit × DataW H) → Nat
  | [] => 0
  | x :: r => uptoBulkEntry x + uptoBulkEntries r
def uptoBulkEntry {H : Type} : Lit × DataW H → Nat
  | (.string bytes, d) => bytes.length + uptoBulk d + 1
  | (_, d) => uptoBulk d + 1
 end
def uptoSmall : (H : Type) → List (DataW H) → Bool := fun _ ds => decide (uptoBulkAll ds ≤ 1048576)
def OpenSpec.upto (s : _root_.Go.ChangeSpec) : _root_.Go.OpenSpec := { _root_.Go.OpenSpec.ofChange s with cond := some uptoSmall }

/-- 'jacinthlaw19.KernelMaps', WHERE WHAT IT READS IS OF BULK AT MOST 1048576: true; the input reads as it did. -/
def kernelMapsUptoRow : OpenClaim := { program := "ytocoegnoencghaagreatdoor", sum := "c61ea7f1800939f8a36680eb8e54d5d30a456ab3daf62684d10ba808cfec94bf", func := "jacinth/jacinthlaw19.KernelMaps", spec := "kernelMaps", inPlace := ["slices.overlaps[jacinth/channel.Message]", "slices.overlaps[jacinth/region.Piece]"], unfollowed := true, recurses := true, named := ["jacinth/rights.names"], apart := false, laid := [("jacinth/rights.names", laid_jacinth_rights_names)], narrowed := true }
def KernelMapsUptoSaid : Prop := kernelMapsUptoRow.holds Tryz.pinned (OpenSpec.upto kernelMapsSpec)

/-- 'jacinthlaw19.KernelPairs', WHERE WHAT IT READS IS OF BULK AT MOST 1048576: true; the input reads as it did. -/
def kernelPairsUptoRow : OpenClaim := { program := "ytocoegnoencghaagreatdoor", sum := "c61ea7f1800939f8a36680eb8e54d5d30a456ab3daf62684d10ba808cfec94bf", func := "jacinth/jacinthlaw19.KernelPairs", spec := "kernelPairs", inPlace := ["slices.overlaps[jacinth/channel.Message]", "slices.overlaps[jacinth/region.Piece]"], unfollowed := true, recurses := true, named := ["jacinth/rights.names"], apart := false, laid := [("jacinth/rights.names", laid_jacinth_rights_names)], narrowed := true }
def KernelPairsUptoSaid : Prop := kernelPairsUptoRow.holds Tryz.pinned (OpenSpec.upto kernelPairsSpec)

/-- 'jacinthlaw19.KernelReads', WHERE WHAT IT READS IS OF BULK AT MOST 1048576: true; the input reads as it did. -/
def kernelReadsUptoRow : OpenClaim := { program := "ytocoegnoencghaagreatdoor", sum := "c61ea7f1800939f8a36680eb8e54d5d30a456ab3daf62684d10ba808cfec94bf", func := "jacinth/jacinthlaw19.KernelReads", spec := "kernelReads", inPlace := ["slices.overlaps[jacinth/channel.Message]", "slices.overlaps[jacinth/region.Piece]"], unfollowed := true, recurses := true, named := ["jacinth/rights.names"], apart := false, laid := [("jacinth/rights.names", laid_jacinth_rights_names)], narrowed := true }
def KernelReadsUptoSaid : Prop := kernelReadsUptoRow.holds Tryz.pinned (OpenSpec.upto kernelReadsSpec)

/-- 'jacinthlaw19.KernelConsumes', WHERE WHAT IT READS IS OF BULK AT MOST 1048576: true; the input reads as it did. -/
def kernelConsumesUptoRow : OpenClaim := { program := "ytocoegnoencghaagreatdoor", sum := "c61ea7f1800939f8a36680eb8e54d5d30a456ab3daf62684d10ba808cfec94bf", func := "jacinth/jacinthlaw19.KernelConsumes", spec := "kernelConsumes", inPlace := ["slices.overlaps[jacinth/channel.Message]", "slices.overlaps[jacinth/region.Piece]"], unfollowed := true, recurses := true, named := ["jacinth/rights.names"], apart := false, laid := [("jacinth/rights.names", laid_jacinth_rights_names)], narrowed := true }
def KernelConsumesUptoSaid : Prop := kernelConsumesUptoRow.holds Tryz.pinned (OpenSpec.upto kernelConsumesSpec)

/-- 'jacinthlaw19.KernelTasks', WHERE WHAT IT READS IS OF BULK AT MOST 1048576: true; the input reads as it did. -/
def kernelTasksUptoRow : OpenClaim := { program := "ytocoegnoencghaagreatdoor", sum := "c61ea7f1800939f8a36680eb8e54d5d30a456ab3daf62684d10ba808cfec94bf", func := "jacinth/jacinthlaw19.KernelTasks", spec := "kernelTasks", inPlace := ["slices.overlaps[jacinth/channel.Message]", "slices.overlaps[jacinth/region.Piece]"], unfollowed := true, recurses := true, named := ["jacinth/rights.names"], apart := false, laid := [("jacinth/rights.names", laid_jacinth_rights_names)], narrowed := true }
def KernelTasksUptoSaid : Prop := kernelTasksUptoRow.holds Tryz.pinned (OpenSpec.upto kernelTasksSpec)

/-- 'jacinthlaw19.KernelTwins', WHERE WHAT IT READS IS OF BULK AT MOST 1048576: true; the input reads as it did. -/
def kernelTwinsUptoRow : OpenClaim := { program := "ytocoegnoencghaagreatdoor", sum := "c61ea7f1800939f8a36680eb8e54d5d30a456ab3daf62684d10ba808cfec94bf", func := "jacinth/jacinthlaw19.KernelTwins", spec := "kernelTwins", inPlace := ["slices.overlaps[jacinth/channel.Message]", "slices.overlaps[jacinth/region.Piece]"], unfollowed := true, recurses := true, named := ["jacinth/rights.names"], apart := false, laid := [("jacinth/rights.names", laid_jacinth_rights_names)], narrowed := true }
def KernelTwinsUptoSaid : Prop := kernelTwinsUptoRow.holds Tryz.pinned (OpenSpec.upto kernelTwinsSpec)

/-- 'jacinthlaw19.KernelShows', WHERE WHAT IT READS IS OF BULK AT MOST 1048576: true; the input reads as it did. -/
def kernelShowsUptoRow : OpenClaim := { program := "ytocoegnoencghaagreatdoor", sum := "c61ea7f1800939f8a36680eb8e54d5d30a456ab3daf62684d10ba808cfec94bf", func := "jacinth/jacinthlaw19.KernelShows", spec := "kernelShows", inPlace := ["slices.overlaps[jacinth/channel.Message]", "slices.overlaps[jacinth/region.Piece]"], unfollowed := true, recurses := true, named := ["jacinth/rights.names"], apart := false, laid := [("jacinth/rights.names", laid_jacinth_rights_names)], narrowed := true }
def KernelShowsUptoSaid : Prop := kernelShowsUptoRow.holds Tryz.pinned (OpenSpec.upto kernelShowsSpec)

/-- 'jacinthlaw19.KernelNothing', WHERE WHAT IT READS IS OF BULK AT MOST 1048576: true; the input reads as it did. -/
def kernelNothingUptoRow : OpenClaim := { program := "ytocoegnoencghaagreatdoor", sum := "c61ea7f1800939f8a36680eb8e54d5d30a456ab3daf62684d10ba808cfec94bf", func := "jacinth/jacinthlaw19.KernelNothing", spec := "kernelNothing", inPlace := ["slices.overlaps[jacinth/channel.Message]", "slices.overlaps[jacinth/region.Piece]"], unfollowed := true, recurses := true, named := ["jacinth/rights.names"], apart := false, laid := [("jacinth/rights.names", laid_jacinth_rights_names)], narrowed := true }
def KernelNothingUptoSaid : Prop := kernelNothingUptoRow.holds Tryz.pinned (OpenSpec.upto kernelNothingSpec)

/-- 'jacinthlaw19.KernelHolds', WHERE WHAT IT READS IS OF BULK AT MOST 1048576: true; the input reads as it did. -/
def kernelHoldsUptoRow : OpenClaim := { program := "ytocoegnoencghaagreatdoor", sum := "c61ea7f1800939f8a36680eb8e54d5d30a456ab3daf62684d10ba808cfec94bf", func := "jacinth/jacinthlaw19.KernelHolds", spec := "kernelHolds", inPlace := ["slices.overlaps[jacinth/channel.Message]", "slices.overlaps[jacinth/region.Piece]"], unfollowed := true, recurses := true, named := ["jacinth/rights.names"], apart := false, laid := [("jacinth/rights.names", laid_jacinth_rights_names)], narrowed := true }
def KernelHoldsUptoSaid : Prop := kernelHoldsUptoRow.holds Tryz.pinned (OpenSpec.upto kernelHoldsSpec)

end Rows
end Go.Proofs.YtocoegnoencghaaGreatDoor
