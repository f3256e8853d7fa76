/-
  No cell of these rows narrows 'for every input' (looked for: loops, veiled, ifaces, maps, wideKeys, modest, calm, conditions, laid).
  DERIVED. THE GIVEN ROWS OF THIS SEAT. 5 by the template 'for every input the law returns true; each argument reads behind the call as it read before'; 0 by the template 'total and deterministic' (their statements: YtlcbfahjejgjlaaTotals.lean).
  GIVEN WITH THE SEED: the statements are not yours to turn. If you find one false, say at which input.
  Laid BY PROGRAM, IN A SANDBOX (cutbox-rows.mjs): the forced cells as the released guide's own fill.sh prints them over the translation 22026973a33456d0… (all of the seat's roots in one cut). By AI agents, Wed Nov 11 2026. No macro, syntax, notation, axiom, sorry.
-/
import Derived.Test.YtlcbfahjejgjlaaChecked
import GoSem.Claim
import GoSem.ClaimJoined
import GoSem.ClaimMapViews
import Derived.JoinedTies
import Derived.KernelRfl
namespace Go.Proofs.Ytlcbfahjejgjlaa
/- THE CELL 'sum', in the pinned program and in every row, IS THE sha256 OF THE DUMP (.gsa) THAT YtlcbfahjejgjlaaProg.lean LOADS. Nothing in Lean hashes anything: it is a label: what it is worth is what the hold of that sum in a sandbox is worth. -/
noncomputable def Try.pinned : Pinned := { name := "ytlcbfahjejgjlaa", sum := "22026973a33456d07d2201ddb63ee7ced810940d7492ad6ac66ea4f812cc10ec", checked := Try.checked }
namespace Rows
def none {H : Type} : Left H := { results := [], args := [] }

/-- 'jacinthlaw08.VmoApart': WHATEVER THE INPUT: true; the input reads as it did. -/
def vmoApartSpec : ChangeSpec := { name := "vmoApart", fn := fun _ => fun
  | [d] => { results := [.lit (.bool true)], args := [d] }
  | _ => none }
def vmoApartRow : OpenClaim := { program := "ytlcbfahjejgjlaa", sum := "22026973a33456d07d2201ddb63ee7ced810940d7492ad6ac66ea4f812cc10ec", func := "jacinth/jacinthlaw08.VmoApart", spec := "vmoApart", unfollowed := true, recurses := true, apart := false }
def VmoApartSaid : Prop := vmoApartRow.holds Try.pinned (OpenSpec.ofChange vmoApartSpec)

/-- ITS FALSE NEIGHBOUR: 'it returns false'. Refute it at one input. -/
def vmoApartWrong : ChangeSpec := { name := "vmoApart", fn := fun _ => fun
  | [d] => { results := [.lit (.bool false)], args := [d] }
  | _ => none }
def VmoApartWrongFalsely : Prop := vmoApartRow.holds Try.pinned (OpenSpec.ofChange vmoApartWrong)

/-- 'jacinthlaw08.VmoDeep': WHATEVER THE INPUT: true; the input reads as it did. -/
def vmoDeepSpec : ChangeSpec := { name := "vmoDeep", fn := fun _ => fun
  | [d1, d2] => { results := [.lit (.bool true)], args := [d1, d2] }
  | _ => none }
def vmoDeepRow : OpenClaim := { program := "ytlcbfahjejgjlaa", sum := "22026973a33456d07d2201ddb63ee7ced810940d7492ad6ac66ea4f812cc10ec", func := "jacinth/jacinthlaw08.VmoDeep", spec := "vmoDeep", unfollowed := true, recurses := true, apart := false }
def VmoDeepSaid : Prop := vmoDeepRow.holds Try.pinned (OpenSpec.ofChange vmoDeepSpec)

/-- ITS FALSE NEIGHBOUR: 'it returns false'. Refute it at one input. -/
def vmoDeepWrong : ChangeSpec := { name := "vmoDeep", fn := fun _ => fun
  | [d1, d2] => { results := [.lit (.bool false)], args := [d1, d2] }
  | _ => none }
def VmoDeepWrongFalsely : Prop := vmoDeepRow.holds Try.pinned (OpenSpec.ofChange vmoDeepWrong)

/-- 'jacinthlaw08.VmoRoom': WHATEVER THE INPUT: true; the input reads as it did. -/
def vmoRoomSpec : ChangeSpec := { name := "vmoRoom", fn := fun _ => fun
  | [d1, d2, d3] => { results := [.lit (.bool true)], args := [d1, d2, d3] }
  | _ => none }
def vmoRoomRow : OpenClaim := { program := "ytlcbfahjejgjlaa", sum := "22026973a33456d07d2201ddb63ee7ced810940d7492ad6ac66ea4f812cc10ec", func := "jacinth/jacinthlaw08.VmoRoom", spec := "vmoRoom", unfollowed := true, recurses := true, apart := false }
def VmoRoomSaid : Prop := vmoRoomRow.holds Try.pinned (OpenSpec.ofChange vmoRoomSpec)

/-- ITS FALSE NEIGHBOUR: 'it returns false'. Refute it at one input. -/
def vmoRoomWrong : ChangeSpec := { name := "vmoRoom", fn := fun _ => fun
  | [d1, d2, d3] => { results := [.lit (.bool false)], args := [d1, d2, d3] }
  | _ => none }
def VmoRoomWrongFalsely : Prop := vmoRoomRow.holds Try.pinned (OpenSpec.ofChange vmoRoomWrong)

/-- 'jacinthlaw08.VmoSizes': WHATEVER THE INPUT: true; the input reads as it did. -/
def vmoSizesSpec : ChangeSpec := { name := "vmoSizes", fn := fun _ => fun
  | [d1, d2, d3] => { results := [.lit (.bool true)], args := [d1, d2, d3] }
  | _ => none }
def vmoSizesRow : OpenClaim := { program := "ytlcbfahjejgjlaa", sum := "22026973a33456d07d2201ddb63ee7ced810940d7492ad6ac66ea4f812cc10ec", func := "jacinth/jacinthlaw08.VmoSizes", spec := "vmoSizes", unfollowed := true, recurses := true, apart := false }
def VmoSizesSaid : Prop := vmoSizesRow.holds Try.pinned (OpenSpec.ofChange vmoSizesSpec)

/-- ITS FALSE NEIGHBOUR: 'it returns false'. Refute it at one input. -/
def vmoSizesWrong : ChangeSpec := { name := "vmoSizes", fn := fun _ => fun
  | [d1, d2, d3] => { results := [.lit (.bool false)], args := [d1, d2, d3] }
  | _ => none }
def VmoSizesWrongFalsely : Prop := vmoSizesRow.holds Try.pinned (OpenSpec.ofChange vmoSizesWrong)

/-- 'jacinthlaw08.VmoEnds': WHATEVER THE INPUT: true; the input reads as it did. -/
def vmoEndsSpec : ChangeSpec := { name := "vmoEnds", fn := fun _ => fun
  | [d1, d2] => { results := [.lit (.bool true)], args := [d1, d2] }
  | _ => none }
def vmoEndsRow : OpenClaim := { program := "ytlcbfahjejgjlaa", sum := "22026973a33456d07d2201ddb63ee7ced810940d7492ad6ac66ea4f812cc10ec", func := "jacinth/jacinthlaw08.VmoEnds", spec := "vmoEnds", unfollowed := true, recurses := true, apart := false }
def VmoEndsSaid : Prop := vmoEndsRow.holds Try.pinned (OpenSpec.ofChange vmoEndsSpec)

/-- ITS FALSE NEIGHBOUR: 'it returns false'. Refute it at one input. -/
def vmoEndsWrong : ChangeSpec := { name := "vmoEnds", fn := fun _ => fun
  | [d1, d2] => { results := [.lit (.bool false)], args := [d1, d2] }
  | _ => none }
def VmoEndsWrongFalsely : Prop := vmoEndsRow.holds Try.pinned (OpenSpec.ofChange vmoEndsWrong)

/- THE SECOND FORM. 'bulk': how many values and letters a reading holds, each counted each time it is reached (what is shared counts as often as it is met; a slice's spare places count too). A statement '..UptoSaid' is the law's where the arguments, and the package variables that the reading takes, are together of bulk at most 1048576: NARROWER than '..Said'. Prove '..Said' where nothing that the law and all that it calls make is longer than what came in: it says more and counts as full. Else prove '..UptoSaid'. A law counts once. -/
mutual
def uptoBulk {H : Type} : DataW H → Nat
  | .lit (.string bytes) => bytes.length + 1
  | .lit _ => 1
  | .nil => 1
  | .ptr d => uptoBulk d + 1
  | .slice elems spare => uptoBulkAll elems + uptoBulkAll spare + 1
  | .agg parts => uptoBulkAll parts + 1
  | .iface _ d => uptoBulk d + 1
  | .map entries => uptoBulkEntries entries + 1
  | .held _ => 1
def uptoBulkAll {H : Type} : List (DataW H) → Nat
  | [] => 0
  | d :: r => uptoBulk d + uptoBulkAll r
def uptoBulkEntries {H : Type} : List (Lit × DataW H) → Nat
  | [] => 0
  | x :: r => uptoBulkEntry x + uptoBulkEntries r
def uptoBulkEntry {H : Type} : Lit × DataW H → Nat
  | (.string bytes, d) => bytes.length + uptoBulk d + 1
  | (_, d) => uptoBulk d + 1
 end
def uptoSmall : (H : Type) → List (DataW H) → Bool := fun _ ds => decide (uptoBulkAll ds ≤ 1048576)
def OpenSpec.upto (s : _root_.Go.ChangeSpec) : _root_.Go.OpenSpec := { _root_.Go.OpenSpec.ofChange s with cond := some uptoSmall }

/-- 'jacinthlaw08.VmoApart', WHERE WHAT IT READS IS OF BULK AT MOST 1048576: true; the input reads as it did. -/
def vmoApartUptoRow : OpenClaim := { program := "ytlcbfahjejgjlaa", sum := "22026973a33456d07d2201ddb63ee7ced810940d7492ad6ac66ea4f812cc10ec", func := "jacinth/jacinthlaw08.VmoApart", spec := "vmoApart", unfollowed := true, recurses := true, apart := false, narrowed := true }
def VmoApartUptoSaid : Prop := vmoApartUptoRow.holds Try.pinned (OpenSpec.upto vmoApartSpec)

/-- 'jacinthlaw08.VmoDeep', WHERE WHAT IT READS IS OF BULK AT MOST 1048576: true; the input reads as it did. -/
def vmoDeepUptoRow : OpenClaim := { program := "ytlcbfahjejgjlaa", sum := "22026973a33456d07d2201ddb63ee7ced810940d7492ad6ac66ea4f812cc10ec", func := "jacinth/jacinthlaw08.VmoDeep", spec := "vmoDeep", unfollowed := true, recurses := true, apart := false, narrowed := true }
def VmoDeepUptoSaid : Prop := vmoDeepUptoRow.holds Try.pinned (OpenSpec.upto vmoDeepSpec)

/-- 'jacinthlaw08.VmoRoom', WHERE WHAT IT READS IS OF BULK AT MOST 1048576: true; the input reads as it did. -/
def vmoRoomUptoRow : OpenClaim := { program := "ytlcbfahjejgjlaa", sum := "22026973a33456d07d2201ddb63ee7ced810940d7492ad6ac66ea4f812cc10ec", func := "jacinth/jacinthlaw08.VmoRoom", spec := "vmoRoom", unfollowed := true, recurses := true, apart := false, narrowed := true }
def VmoRoomUptoSaid : Prop := vmoRoomUptoRow.holds Try.pinned (OpenSpec.upto vmoRoomSpec)

/-- 'jacinthlaw08.VmoSizes', WHERE WHAT IT READS IS OF BULK AT MOST 1048576: true; the input reads as it did. -/
def vmoSizesUptoRow : OpenClaim := { program := "ytlcbfahjejgjlaa", sum := "22026973a33456d07d2201ddb63ee7ced810940d7492ad6ac66ea4f812cc10ec", func := "jacinth/jacinthlaw08.VmoSizes", spec := "vmoSizes", unfollowed := true, recurses := true, apart := false, narrowed := true }
def VmoSizesUptoSaid : Prop := vmoSizesUptoRow.holds Try.pinned (OpenSpec.upto vmoSizesSpec)

/-- 'jacinthlaw08.VmoEnds', WHERE WHAT IT READS IS OF BULK AT MOST 1048576: true; the input reads as it did. -/
def vmoEndsUptoRow : OpenClaim := { program := "ytlcbfahjejgjlaa", sum := "22026973a33456d07d2201ddb63ee7ced810940d7492ad6ac66ea4f812cc10ec", func := "jacinth/jacinthlaw08.VmoEnds", spec := "vmoEnds", unfollowed := true, recurses := true, apart := false, narrowed := true }
def VmoEndsUptoSaid : Prop := vmoEndsUptoRow.holds Try.pinned (OpenSpec.upto vmoEndsSpec)

end Rows
end Go.Proofs.Ytlcbfahjejgjlaa
