/-
  No cell of these rows narrows 'for every input' (looked for: loops, veiled, ifaces, maps, wideKeys, modest, calm, conditions, laid).
  DERIVED. THE GIVEN ROWS OF THIS SEAT. 6 by the template 'for every input the law returns true; each argument reads behind the call as it read before'; 0 by the template 'total and deterministic' (their statements: YtgcnebacjkpfmaaTotals.lean).
  GIVEN WITH THE SEED: the statements are not yours to turn. If you find one false, say at which input.
  Laid BY PROGRAM, IN A SANDBOX (cutbox-rows.mjs): the forced cells as the released guide's own fill.sh prints them over the translation 06c32d137b399366… (all of the seat's roots in one cut). By AI agents, Wed Nov 11 2026. No macro, syntax, notation, axiom, sorry.
-/
import Derived.Test.YtgcnebacjkpfmaaChecked
import GoSem.Claim
import GoSem.ClaimJoined
import GoSem.ClaimMapViews
import Derived.JoinedTies
import Derived.KernelRfl
namespace Go.Proofs.Ytgcnebacjkpfmaa
/- THE CELL 'sum', in the pinned program and in every row, IS THE sha256 OF THE DUMP (.gsa) THAT YtgcnebacjkpfmaaProg.lean LOADS. Nothing in Lean hashes anything: it is a label: what it is worth is what the hold of that sum in a sandbox is worth. -/
noncomputable def Try.pinned : Pinned := { name := "ytgcnebacjkpfmaa", sum := "06c32d137b3993662a45dd222407ce26d06699e7a220c1a3904826b3d4834dd5", checked := Try.checked }
namespace Rows
def none {H : Type} : Left H := { results := [], args := [] }

/-- 'jacinthlaw06.HandlesValues': WHATEVER THE INPUT: true; the input reads as it did. -/
def handlesValuesSpec : ChangeSpec := { name := "handlesValues", fn := fun _ => fun
  | [d1, d2, d3] => { results := [.lit (.bool true)], args := [d1, d2, d3] }
  | _ => none }
def handlesValuesRow : OpenClaim := { program := "ytgcnebacjkpfmaa", sum := "06c32d137b3993662a45dd222407ce26d06699e7a220c1a3904826b3d4834dd5", func := "jacinth/jacinthlaw06.HandlesValues", spec := "handlesValues", unfollowed := true, recurses := true, apart := false }
def HandlesValuesSaid : Prop := handlesValuesRow.holds Try.pinned (OpenSpec.ofChange handlesValuesSpec)

/-- ITS FALSE NEIGHBOUR: 'it returns false'. Refute it at one input. -/
def handlesValuesWrong : ChangeSpec := { name := "handlesValues", fn := fun _ => fun
  | [d1, d2, d3] => { results := [.lit (.bool false)], args := [d1, d2, d3] }
  | _ => none }
def HandlesValuesWrongFalsely : Prop := handlesValuesRow.holds Try.pinned (OpenSpec.ofChange handlesValuesWrong)

/-- 'jacinthlaw06.HandlesLowest': WHATEVER THE INPUT: true; the input reads as it did. -/
def handlesLowestSpec : ChangeSpec := { name := "handlesLowest", fn := fun _ => fun
  | [d] => { results := [.lit (.bool true)], args := [d] }
  | _ => none }
def handlesLowestRow : OpenClaim := { program := "ytgcnebacjkpfmaa", sum := "06c32d137b3993662a45dd222407ce26d06699e7a220c1a3904826b3d4834dd5", func := "jacinth/jacinthlaw06.HandlesLowest", spec := "handlesLowest", unfollowed := true, recurses := true, apart := false }
def HandlesLowestSaid : Prop := handlesLowestRow.holds Try.pinned (OpenSpec.ofChange handlesLowestSpec)

/-- ITS FALSE NEIGHBOUR: 'it returns false'. Refute it at one input. -/
def handlesLowestWrong : ChangeSpec := { name := "handlesLowest", fn := fun _ => fun
  | [d] => { results := [.lit (.bool false)], args := [d] }
  | _ => none }
def HandlesLowestWrongFalsely : Prop := handlesLowestRow.holds Try.pinned (OpenSpec.ofChange handlesLowestWrong)

/-- 'jacinthlaw06.HandlesFinds': WHATEVER THE INPUT: true; the input reads as it did. -/
def handlesFindsSpec : ChangeSpec := { name := "handlesFinds", fn := fun _ => fun
  | [d] => { results := [.lit (.bool true)], args := [d] }
  | _ => none }
def handlesFindsRow : OpenClaim := { program := "ytgcnebacjkpfmaa", sum := "06c32d137b3993662a45dd222407ce26d06699e7a220c1a3904826b3d4834dd5", func := "jacinth/jacinthlaw06.HandlesFinds", spec := "handlesFinds", unfollowed := true, recurses := true, apart := false }
def HandlesFindsSaid : Prop := handlesFindsRow.holds Try.pinned (OpenSpec.ofChange handlesFindsSpec)

/-- ITS FALSE NEIGHBOUR: 'it returns false'. Refute it at one input. -/
def handlesFindsWrong : ChangeSpec := { name := "handlesFinds", fn := fun _ => fun
  | [d] => { results := [.lit (.bool false)], args := [d] }
  | _ => none }
def HandlesFindsWrongFalsely : Prop := handlesFindsRow.holds Try.pinned (OpenSpec.ofChange handlesFindsWrong)

/-- 'jacinthlaw06.HandlesAll': WHATEVER THE INPUT: true; the input reads as it did. -/
def handlesAllSpec : ChangeSpec := { name := "handlesAll", fn := fun _ => fun
  | [d1, d2] => { results := [.lit (.bool true)], args := [d1, d2] }
  | _ => none }
def handlesAllRow : OpenClaim := { program := "ytgcnebacjkpfmaa", sum := "06c32d137b3993662a45dd222407ce26d06699e7a220c1a3904826b3d4834dd5", func := "jacinth/jacinthlaw06.HandlesAll", spec := "handlesAll", unfollowed := true, recurses := true, apart := false }
def HandlesAllSaid : Prop := handlesAllRow.holds Try.pinned (OpenSpec.ofChange handlesAllSpec)

/-- ITS FALSE NEIGHBOUR: 'it returns false'. Refute it at one input. -/
def handlesAllWrong : ChangeSpec := { name := "handlesAll", fn := fun _ => fun
  | [d1, d2] => { results := [.lit (.bool false)], args := [d1, d2] }
  | _ => none }
def HandlesAllWrongFalsely : Prop := handlesAllRow.holds Try.pinned (OpenSpec.ofChange handlesAllWrong)

/-- 'jacinthlaw06.HandlesReduced': WHATEVER THE INPUT: true; the input reads as it did. -/
def handlesReducedSpec : ChangeSpec := { name := "handlesReduced", fn := fun _ => fun
  | [d1, d2] => { results := [.lit (.bool true)], args := [d1, d2] }
  | _ => none }
def handlesReducedRow : OpenClaim := { program := "ytgcnebacjkpfmaa", sum := "06c32d137b3993662a45dd222407ce26d06699e7a220c1a3904826b3d4834dd5", func := "jacinth/jacinthlaw06.HandlesReduced", spec := "handlesReduced", unfollowed := true, recurses := true, apart := false }
def HandlesReducedSaid : Prop := handlesReducedRow.holds Try.pinned (OpenSpec.ofChange handlesReducedSpec)

/-- ITS FALSE NEIGHBOUR: 'it returns false'. Refute it at one input. -/
def handlesReducedWrong : ChangeSpec := { name := "handlesReduced", fn := fun _ => fun
  | [d1, d2] => { results := [.lit (.bool false)], args := [d1, d2] }
  | _ => none }
def HandlesReducedWrongFalsely : Prop := handlesReducedRow.holds Try.pinned (OpenSpec.ofChange handlesReducedWrong)

/-- 'jacinthlaw06.HandlesPlays': WHATEVER THE INPUT: true; the input reads as it did. -/
def handlesPlaysSpec : ChangeSpec := { name := "handlesPlays", fn := fun _ => fun
  | [d1, d2] => { results := [.lit (.bool true)], args := [d1, d2] }
  | _ => none }
def handlesPlaysRow : OpenClaim := { program := "ytgcnebacjkpfmaa", sum := "06c32d137b3993662a45dd222407ce26d06699e7a220c1a3904826b3d4834dd5", func := "jacinth/jacinthlaw06.HandlesPlays", spec := "handlesPlays", unfollowed := true, recurses := true, apart := false }
def HandlesPlaysSaid : Prop := handlesPlaysRow.holds Try.pinned (OpenSpec.ofChange handlesPlaysSpec)

/-- ITS FALSE NEIGHBOUR: 'it returns false'. Refute it at one input. -/
def handlesPlaysWrong : ChangeSpec := { name := "handlesPlays", fn := fun _ => fun
  | [d1, d2] => { results := [.lit (.bool false)], args := [d1, d2] }
  | _ => none }
def HandlesPlaysWrongFalsely : Prop := handlesPlaysRow.holds Try.pinned (OpenSpec.ofChange handlesPlaysWrong)

/- THE SECOND FORM. 'bulk': how many values and letters a reading holds, each counted each time it is reached (what is shared counts as often as it is met; a slice's spare places count too). A statement '..UptoSaid' is the law's where the arguments, and the package variables that the reading takes, are together of bulk at most 1048576: NARROWER than '..Said'. Prove '..Said' where nothing that the law and all that it calls make is longer than what came in: it says more and counts as full. Else prove '..UptoSaid'. A law counts once. -/
mutual
def uptoBulk {H : Type} : DataW H → Nat
  | .lit (.string bytes) => bytes.length + 1
  | .lit _ => 1
  | .nil => 1
  | .ptr d => uptoBulk d + 1
  | .slice elems spare => uptoBulkAll elems + uptoBulkAll spare + 1
  | .agg parts => uptoBulkAll parts + 1
  | .iface _ d => uptoBulk d + 1
  | .map entries => uptoBulkEntries entries + 1
  | .held _ => 1
def uptoBulkAll {H : Type} : List (DataW H) → Nat
  | [] => 0
  | d :: r => uptoBulk d + uptoBulkAll r
def uptoBulkEntries {H : Type} : List (Lit × DataW H) → Nat
  | [] => 0
  | x :: r => uptoBulkEntry x + uptoBulkEntries r
def uptoBulkEntry {H : Type} : Lit × DataW H → Nat
  | (.string bytes, d) => bytes.length + uptoBulk d + 1
  | (_, d) => uptoBulk d + 1
 end
def uptoSmall : (H : Type) → List (DataW H) → Bool := fun _ ds => decide (uptoBulkAll ds ≤ 1048576)
def OpenSpec.upto (s : _root_.Go.ChangeSpec) : _root_.Go.OpenSpec := { _root_.Go.OpenSpec.ofChange s with cond := some uptoSmall }

/-- 'jacinthlaw06.HandlesValues', WHERE WHAT IT READS IS OF BULK AT MOST 1048576: true; the input reads as it did. -/
def handlesValuesUptoRow : OpenClaim := { program := "ytgcnebacjkpfmaa", sum := "06c32d137b3993662a45dd222407ce26d06699e7a220c1a3904826b3d4834dd5", func := "jacinth/jacinthlaw06.HandlesValues", spec := "handlesValues", unfollowed := true, recurses := true, apart := false, narrowed := true }
def HandlesValuesUptoSaid : Prop := handlesValuesUptoRow.holds Try.pinned (OpenSpec.upto handlesValuesSpec)

/-- 'jacinthlaw06.HandlesLowest', WHERE WHAT IT READS IS OF BULK AT MOST 1048576: true; the input reads as it did. -/
def handlesLowestUptoRow : OpenClaim := { program := "ytgcnebacjkpfmaa", sum := "06c32d137b3993662a45dd222407ce26d06699e7a220c1a3904826b3d4834dd5", func := "jacinth/jacinthlaw06.HandlesLowest", spec := "handlesLowest", unfollowed := true, recurses := true, apart := false, narrowed := true }
def HandlesLowestUptoSaid : Prop := handlesLowestUptoRow.holds Try.pinned (OpenSpec.upto handlesLowestSpec)

/-- 'jacinthlaw06.HandlesFinds', WHERE WHAT IT READS IS OF BULK AT MOST 1048576: true; the input reads as it did. -/
def handlesFindsUptoRow : OpenClaim := { program := "ytgcnebacjkpfmaa", sum := "06c32d137b3993662a45dd222407ce26d06699e7a220c1a3904826b3d4834dd5", func := "jacinth/jacinthlaw06.HandlesFinds", spec := "handlesFinds", unfollowed := true, recurses := true, apart := false, narrowed := true }
def HandlesFindsUptoSaid : Prop := handlesFindsUptoRow.holds Try.pinned (OpenSpec.upto handlesFindsSpec)

/-- 'jacinthlaw06.HandlesAll', WHERE WHAT IT READS IS OF BULK AT MOST 1048576: true; the input reads as it did. -/
def handlesAllUptoRow : OpenClaim := { program := "ytgcnebacjkpfmaa", sum := "06c32d137b3993662a45dd222407ce26d06699e7a220c1a3904826b3d4834dd5", func := "jacinth/jacinthlaw06.HandlesAll", spec := "handlesAll", unfollowed := true, recurses := true, apart := false, narrowed := true }
def HandlesAllUptoSaid : Prop := handlesAllUptoRow.holds Try.pinned (OpenSpec.upto handlesAllSpec)

/-- 'jacinthlaw06.HandlesReduced', WHERE WHAT IT READS IS OF BULK AT MOST 1048576: true; the input reads as it did. -/
def handlesReducedUptoRow : OpenClaim := { program := "ytgcnebacjkpfmaa", sum := "06c32d137b3993662a45dd222407ce26d06699e7a220c1a3904826b3d4834dd5", func := "jacinth/jacinthlaw06.HandlesReduced", spec := "handlesReduced", unfollowed := true, recurses := true, apart := false, narrowed := true }
def HandlesReducedUptoSaid : Prop := handlesReducedUptoRow.holds Try.pinned (OpenSpec.upto handlesReducedSpec)

/-- 'jacinthlaw06.HandlesPlays', WHERE WHAT IT READS IS OF BULK AT MOST 1048576: true; the input reads as it did. -/
def handlesPlaysUptoRow : OpenClaim := { program := "ytgcnebacjkpfmaa", sum := "06c32d137b3993662a45dd222407ce26d06699e7a220c1a3904826b3d4834dd5", func := "jacinth/jacinthlaw06.HandlesPlays", spec := "handlesPlays", unfollowed := true, recurses := true, apart := false, narrowed := true }
def HandlesPlaysUptoSaid : Prop := handlesPlaysUptoRow.holds Try.pinned (OpenSpec.upto handlesPlaysSpec)

end Rows
end Go.Proofs.Ytgcnebacjkpfmaa
