/-
  No cell of these rows narrows 'for every input' (looked for: loops, veiled, ifaces, maps, wideKeys, modest, calm, conditions, laid).
  DERIVED. THE GIVEN ROWS OF THIS SEAT. 4 by the template 'for every input the law returns true; each argument reads behind the call as it read before'; 0 by the template 'total and deterministic' (their statements: YtgkbbihaaichbaaTotals.lean).
  GIVEN WITH THE SEED: the statements are not yours to turn. If you find one false, say at which input.
  Laid BY PROGRAM, IN A SANDBOX (cutbox-rows.mjs): the forced cells as the released guide's own fill.sh prints them over the translation 46c62aeaa2d01388… (all of the seat's roots in one cut). By AI agents, Wed Nov 11 2026. No macro, syntax, notation, axiom, sorry.
-/
import Derived.Test.YtgkbbihaaichbaaChecked
import GoSem.Claim
import GoSem.ClaimJoined
import GoSem.ClaimMapViews
import Derived.JoinedTies
import Derived.KernelRfl
namespace Go.Proofs.Ytgkbbihaaichbaa
/- THE CELL 'sum', in the pinned program and in every row, IS THE sha256 OF THE DUMP (.gsa) THAT YtgkbbihaaichbaaProg.lean LOADS. Nothing in Lean hashes anything: it is a label: what it is worth is what the hold of that sum in a sandbox is worth. -/
noncomputable def Try.pinned : Pinned := { name := "ytgkbbihaaichbaa", sum := "46c62aeaa2d01388795954ae2855e8b25394f211cf8782f6a61cf8026b2e5d96", checked := Try.checked }
namespace Rows
def none {H : Type} : Left H := { results := [], args := [] }

/-- 'jacinthlaw10.SpacePlaces': WHATEVER THE INPUT: true; the input reads as it did. -/
def spacePlacesSpec : ChangeSpec := { name := "spacePlaces", fn := fun _ => fun
  | [d] => { results := [.lit (.bool true)], args := [d] }
  | _ => none }
def spacePlacesRow : OpenClaim := { program := "ytgkbbihaaichbaa", sum := "46c62aeaa2d01388795954ae2855e8b25394f211cf8782f6a61cf8026b2e5d96", func := "jacinth/jacinthlaw10.SpacePlaces", spec := "spacePlaces", inPlace := ["slices.overlaps[jacinth/region.Piece]"], unfollowed := true, recurses := true, apart := false }
def SpacePlacesSaid : Prop := spacePlacesRow.holds Try.pinned (OpenSpec.ofChange spacePlacesSpec)

/-- ITS FALSE NEIGHBOUR: 'it returns false'. Refute it at one input. -/
def spacePlacesWrong : ChangeSpec := { name := "spacePlaces", fn := fun _ => fun
  | [d] => { results := [.lit (.bool false)], args := [d] }
  | _ => none }
def SpacePlacesWrongFalsely : Prop := spacePlacesRow.holds Try.pinned (OpenSpec.ofChange spacePlacesWrong)

/-- 'jacinthlaw10.SpaceSees': WHATEVER THE INPUT: true; the input reads as it did. -/
def spaceSeesSpec : ChangeSpec := { name := "spaceSees", fn := fun _ => fun
  | [d1, d2, d3] => { results := [.lit (.bool true)], args := [d1, d2, d3] }
  | _ => none }
def spaceSeesRow : OpenClaim := { program := "ytgkbbihaaichbaa", sum := "46c62aeaa2d01388795954ae2855e8b25394f211cf8782f6a61cf8026b2e5d96", func := "jacinth/jacinthlaw10.SpaceSees", spec := "spaceSees", inPlace := ["slices.overlaps[jacinth/region.Piece]"], unfollowed := true, recurses := true, apart := false }
def SpaceSeesSaid : Prop := spaceSeesRow.holds Try.pinned (OpenSpec.ofChange spaceSeesSpec)

/-- ITS FALSE NEIGHBOUR: 'it returns false'. Refute it at one input. -/
def spaceSeesWrong : ChangeSpec := { name := "spaceSees", fn := fun _ => fun
  | [d1, d2, d3] => { results := [.lit (.bool false)], args := [d1, d2, d3] }
  | _ => none }
def SpaceSeesWrongFalsely : Prop := spaceSeesRow.holds Try.pinned (OpenSpec.ofChange spaceSeesWrong)

/-- 'jacinthlaw10.SpaceGuards': WHATEVER THE INPUT: true; the input reads as it did. -/
def spaceGuardsSpec : ChangeSpec := { name := "spaceGuards", fn := fun _ => fun
  | [d] => { results := [.lit (.bool true)], args := [d] }
  | _ => none }
def spaceGuardsRow : OpenClaim := { program := "ytgkbbihaaichbaa", sum := "46c62aeaa2d01388795954ae2855e8b25394f211cf8782f6a61cf8026b2e5d96", func := "jacinth/jacinthlaw10.SpaceGuards", spec := "spaceGuards", inPlace := ["slices.overlaps[jacinth/region.Piece]"], unfollowed := true, recurses := true, apart := false }
def SpaceGuardsSaid : Prop := spaceGuardsRow.holds Try.pinned (OpenSpec.ofChange spaceGuardsSpec)

/-- ITS FALSE NEIGHBOUR: 'it returns false'. Refute it at one input. -/
def spaceGuardsWrong : ChangeSpec := { name := "spaceGuards", fn := fun _ => fun
  | [d] => { results := [.lit (.bool false)], args := [d] }
  | _ => none }
def SpaceGuardsWrongFalsely : Prop := spaceGuardsRow.holds Try.pinned (OpenSpec.ofChange spaceGuardsWrong)

/-- 'jacinthlaw10.SpaceDrops': WHATEVER THE INPUT: true; the input reads as it did. -/
def spaceDropsSpec : ChangeSpec := { name := "spaceDrops", fn := fun _ => fun
  | [d1, d2] => { results := [.lit (.bool true)], args := [d1, d2] }
  | _ => none }
def spaceDropsRow : OpenClaim := { program := "ytgkbbihaaichbaa", sum := "46c62aeaa2d01388795954ae2855e8b25394f211cf8782f6a61cf8026b2e5d96", func := "jacinth/jacinthlaw10.SpaceDrops", spec := "spaceDrops", inPlace := ["slices.overlaps[jacinth/region.Piece]"], unfollowed := true, recurses := true, apart := false }
def SpaceDropsSaid : Prop := spaceDropsRow.holds Try.pinned (OpenSpec.ofChange spaceDropsSpec)

/-- ITS FALSE NEIGHBOUR: 'it returns false'. Refute it at one input. -/
def spaceDropsWrong : ChangeSpec := { name := "spaceDrops", fn := fun _ => fun
  | [d1, d2] => { results := [.lit (.bool false)], args := [d1, d2] }
  | _ => none }
def SpaceDropsWrongFalsely : Prop := spaceDropsRow.holds Try.pinned (OpenSpec.ofChange spaceDropsWrong)

/- THE SECOND FORM. 'bulk': how many values and letters a reading holds, each counted each time it is reached (what is shared counts as often as it is met; a slice's spare places count too). A statement '..UptoSaid' is the law's where the arguments, and the package variables that the reading takes, are together of bulk at most 1048576: NARROWER than '..Said'. Prove '..Said' where nothing that the law and all that it calls make is longer than what came in: it says more and counts as full. Else prove '..UptoSaid'. A law counts once. -/
mutual
def uptoBulk {H : Type} : DataW H → Nat
  | .lit (.string bytes) => bytes.length + 1
  | .lit _ => 1
  | .nil => 1
  | .ptr d => uptoBulk d + 1
  | .slice elems spare => uptoBulkAll elems + uptoBulkAll spare + 1
  | .agg parts => uptoBulkAll parts + 1
  | .iface _ d => uptoBulk d + 1
  | .map entries => uptoBulkEntries entries + 1
  | .held _ => 1
def uptoBulkAll {H : Type} : List (DataW H) → Nat
  | [] => 0
  | d :: r => uptoBulk d + uptoBulkAll r
def uptoBulkEntries {H : Type} : List (Lit × DataW H) → Nat
  | [] => 0
  | x :: r => uptoBulkEntry x + uptoBulkEntries r
def uptoBulkEntry {H : Type} : Lit × DataW H → Nat
  | (.string bytes, d) => bytes.length + uptoBulk d + 1
  | (_, d) => uptoBulk d + 1
 end
def uptoSmall : (H : Type) → List (DataW H) → Bool := fun _ ds => decide (uptoBulkAll ds ≤ 1048576)
def OpenSpec.upto (s : _root_.Go.ChangeSpec) : _root_.Go.OpenSpec := { _root_.Go.OpenSpec.ofChange s with cond := some uptoSmall }

/-- 'jacinthlaw10.SpacePlaces', WHERE WHAT IT READS IS OF BULK AT MOST 1048576: true; the input reads as it did. -/
def spacePlacesUptoRow : OpenClaim := { program := "ytgkbbihaaichbaa", sum := "46c62aeaa2d01388795954ae2855e8b25394f211cf8782f6a61cf8026b2e5d96", func := "jacinth/jacinthlaw10.SpacePlaces", spec := "spacePlaces", inPlace := ["slices.overlaps[jacinth/region.Piece]"], unfollowed := true, recurses := true, apart := false, narrowed := true }
def SpacePlacesUptoSaid : Prop := spacePlacesUptoRow.holds Try.pinned (OpenSpec.upto spacePlacesSpec)

/-- 'jacinthlaw10.SpaceSees', WHERE WHAT IT READS IS OF BULK AT MOST 1048576: true; the input reads as it did. -/
def spaceSeesUptoRow : OpenClaim := { program := "ytgkbbihaaichbaa", sum := "46c62aeaa2d01388795954ae2855e8b25394f211cf8782f6a61cf8026b2e5d96", func := "jacinth/jacinthlaw10.SpaceSees", spec := "spaceSees", inPlace := ["slices.overlaps[jacinth/region.Piece]"], unfollowed := true, recurses := true, apart := false, narrowed := true }
def SpaceSeesUptoSaid : Prop := spaceSeesUptoRow.holds Try.pinned (OpenSpec.upto spaceSeesSpec)

/-- 'jacinthlaw10.SpaceGuards', WHERE WHAT IT READS IS OF BULK AT MOST 1048576: true; the input reads as it did. -/
def spaceGuardsUptoRow : OpenClaim := { program := "ytgkbbihaaichbaa", sum := "46c62aeaa2d01388795954ae2855e8b25394f211cf8782f6a61cf8026b2e5d96", func := "jacinth/jacinthlaw10.SpaceGuards", spec := "spaceGuards", inPlace := ["slices.overlaps[jacinth/region.Piece]"], unfollowed := true, recurses := true, apart := false, narrowed := true }
def SpaceGuardsUptoSaid : Prop := spaceGuardsUptoRow.holds Try.pinned (OpenSpec.upto spaceGuardsSpec)

/-- 'jacinthlaw10.SpaceDrops', WHERE WHAT IT READS IS OF BULK AT MOST 1048576: true; the input reads as it did. -/
def spaceDropsUptoRow : OpenClaim := { program := "ytgkbbihaaichbaa", sum := "46c62aeaa2d01388795954ae2855e8b25394f211cf8782f6a61cf8026b2e5d96", func := "jacinth/jacinthlaw10.SpaceDrops", spec := "spaceDrops", inPlace := ["slices.overlaps[jacinth/region.Piece]"], unfollowed := true, recurses := true, apart := false, narrowed := true }
def SpaceDropsUptoSaid : Prop := spaceDropsUptoRow.holds Try.pinned (OpenSpec.upto spaceDropsSpec)

end Rows
end Go.Proofs.Ytgkbbihaaichbaa
