/-
  No cell of these rows narrows 'for every input' (looked for: loops, veiled, ifaces, maps, wideKeys, modest, calm, conditions, laid).
  DERIVED. THE GIVEN ROWS OF THIS SEAT. 5 by the template 'for every input the law returns true; each argument reads behind the call as it read before'; 0 by the template 'total and deterministic' (their statements: YthjkmgckkacegaaTotals.lean).
  GIVEN WITH THE SEED: the statements are not yours to turn. If you find one false, say at which input.
  Laid BY PROGRAM, IN A SANDBOX (cutbox-rows.mjs): the forced cells as the released guide's own fill.sh prints them over the translation 3fe722a5341f28c1… (all of the seat's roots in one cut). By AI agents, Wed Nov 11 2026. No macro, syntax, notation, axiom, sorry.
-/
import Derived.Test.YthjkmgckkacegaaChecked
import GoSem.Claim
import GoSem.ClaimJoined
import GoSem.ClaimMapViews
import Derived.JoinedTies
import Derived.KernelRfl
namespace Go.Proofs.Ythjkmgckkacegaa
/- THE CELL 'sum', in the pinned program and in every row, IS THE sha256 OF THE DUMP (.gsa) THAT YthjkmgckkacegaaProg.lean LOADS. Nothing in Lean hashes anything: it is a label: what it is worth is what the hold of that sum in a sandbox is worth. -/
noncomputable def Try.pinned : Pinned := { name := "ythjkmgckkacegaa", sum := "3fe722a5341f28c1ff4917f4d451a3f965104b11f1d9e94fbaf092e744496913", checked := Try.checked }
namespace Rows
def none {H : Type} : Left H := { results := [], args := [] }

/-- 'jacinthlaw16.WaitsFirst': WHATEVER THE INPUT: true; the input reads as it did. -/
def waitsFirstSpec : ChangeSpec := { name := "waitsFirst", fn := fun _ => fun
  | [d1, d2, d3] => { results := [.lit (.bool true)], args := [d1, d2, d3] }
  | _ => none }
def waitsFirstRow : OpenClaim := { program := "ythjkmgckkacegaa", sum := "3fe722a5341f28c1ff4917f4d451a3f965104b11f1d9e94fbaf092e744496913", func := "jacinth/jacinthlaw16.WaitsFirst", spec := "waitsFirst", unfollowed := true, recurses := true, apart := false }
def WaitsFirstSaid : Prop := waitsFirstRow.holds Try.pinned (OpenSpec.ofChange waitsFirstSpec)

/-- ITS FALSE NEIGHBOUR: 'it returns false'. Refute it at one input. -/
def waitsFirstWrong : ChangeSpec := { name := "waitsFirst", fn := fun _ => fun
  | [d1, d2, d3] => { results := [.lit (.bool false)], args := [d1, d2, d3] }
  | _ => none }
def WaitsFirstWrongFalsely : Prop := waitsFirstRow.holds Try.pinned (OpenSpec.ofChange waitsFirstWrong)

/-- 'jacinthlaw16.WaitsForget': WHATEVER THE INPUT: true; the input reads as it did. -/
def waitsForgetSpec : ChangeSpec := { name := "waitsForget", fn := fun _ => fun
  | [d1, d2] => { results := [.lit (.bool true)], args := [d1, d2] }
  | _ => none }
def waitsForgetRow : OpenClaim := { program := "ythjkmgckkacegaa", sum := "3fe722a5341f28c1ff4917f4d451a3f965104b11f1d9e94fbaf092e744496913", func := "jacinth/jacinthlaw16.WaitsForget", spec := "waitsForget", unfollowed := true, recurses := true, apart := false }
def WaitsForgetSaid : Prop := waitsForgetRow.holds Try.pinned (OpenSpec.ofChange waitsForgetSpec)

/-- ITS FALSE NEIGHBOUR: 'it returns false'. Refute it at one input. -/
def waitsForgetWrong : ChangeSpec := { name := "waitsForget", fn := fun _ => fun
  | [d1, d2] => { results := [.lit (.bool false)], args := [d1, d2] }
  | _ => none }
def WaitsForgetWrongFalsely : Prop := waitsForgetRow.holds Try.pinned (OpenSpec.ofChange waitsForgetWrong)

/-- 'jacinthlaw16.WaitsOrder': WHATEVER THE INPUT: true; the input reads as it did. -/
def waitsOrderSpec : ChangeSpec := { name := "waitsOrder", fn := fun _ => fun
  | [d1, d2, d3] => { results := [.lit (.bool true)], args := [d1, d2, d3] }
  | _ => none }
def waitsOrderRow : OpenClaim := { program := "ythjkmgckkacegaa", sum := "3fe722a5341f28c1ff4917f4d451a3f965104b11f1d9e94fbaf092e744496913", func := "jacinth/jacinthlaw16.WaitsOrder", spec := "waitsOrder", unfollowed := true, recurses := true, apart := false }
def WaitsOrderSaid : Prop := waitsOrderRow.holds Try.pinned (OpenSpec.ofChange waitsOrderSpec)

/-- ITS FALSE NEIGHBOUR: 'it returns false'. Refute it at one input. -/
def waitsOrderWrong : ChangeSpec := { name := "waitsOrder", fn := fun _ => fun
  | [d1, d2, d3] => { results := [.lit (.bool false)], args := [d1, d2, d3] }
  | _ => none }
def WaitsOrderWrongFalsely : Prop := waitsOrderRow.holds Try.pinned (OpenSpec.ofChange waitsOrderWrong)

/-- 'jacinthlaw16.WaitsOnce': WHATEVER THE INPUT: true; the input reads as it did. -/
def waitsOnceSpec : ChangeSpec := { name := "waitsOnce", fn := fun _ => fun
  | [d] => { results := [.lit (.bool true)], args := [d] }
  | _ => none }
def waitsOnceRow : OpenClaim := { program := "ythjkmgckkacegaa", sum := "3fe722a5341f28c1ff4917f4d451a3f965104b11f1d9e94fbaf092e744496913", func := "jacinth/jacinthlaw16.WaitsOnce", spec := "waitsOnce", unfollowed := true, recurses := true, apart := false }
def WaitsOnceSaid : Prop := waitsOnceRow.holds Try.pinned (OpenSpec.ofChange waitsOnceSpec)

/-- ITS FALSE NEIGHBOUR: 'it returns false'. Refute it at one input. -/
def waitsOnceWrong : ChangeSpec := { name := "waitsOnce", fn := fun _ => fun
  | [d] => { results := [.lit (.bool false)], args := [d] }
  | _ => none }
def WaitsOnceWrongFalsely : Prop := waitsOnceRow.holds Try.pinned (OpenSpec.ofChange waitsOnceWrong)

/-- 'jacinthlaw16.WaitsPlays': WHATEVER THE INPUT: true; the input reads as it did. -/
def waitsPlaysSpec : ChangeSpec := { name := "waitsPlays", fn := fun _ => fun
  | [d1, d2] => { results := [.lit (.bool true)], args := [d1, d2] }
  | _ => none }
def waitsPlaysRow : OpenClaim := { program := "ythjkmgckkacegaa", sum := "3fe722a5341f28c1ff4917f4d451a3f965104b11f1d9e94fbaf092e744496913", func := "jacinth/jacinthlaw16.WaitsPlays", spec := "waitsPlays", unfollowed := true, recurses := true, apart := false }
def WaitsPlaysSaid : Prop := waitsPlaysRow.holds Try.pinned (OpenSpec.ofChange waitsPlaysSpec)

/-- ITS FALSE NEIGHBOUR: 'it returns false'. Refute it at one input. -/
def waitsPlaysWrong : ChangeSpec := { name := "waitsPlays", fn := fun _ => fun
  | [d1, d2] => { results := [.lit (.bool false)], args := [d1, d2] }
  | _ => none }
def WaitsPlaysWrongFalsely : Prop := waitsPlaysRow.holds Try.pinned (OpenSpec.ofChange waitsPlaysWrong)

/- THE SECOND FORM. 'bulk': how many values and letters a reading holds, each counted each time it is reached (what is shared counts as often as it is met; a slice's spare places count too). A statement '..UptoSaid' is the law's where the arguments, and the package variables that the reading takes, are together of bulk at most 1048576: NARROWER than '..Said'. Prove '..Said' where nothing that the law and all that it calls make is longer than what came in: it says more and counts as full. Else prove '..UptoSaid'. A law counts once. -/
mutual
def uptoBulk {H : Type} : DataW H → Nat
  | .lit (.string bytes) => bytes.length + 1
  | .lit _ => 1
  | .nil => 1
  | .ptr d => uptoBulk d + 1
  | .slice elems spare => uptoBulkAll elems + uptoBulkAll spare + 1
  | .agg parts => uptoBulkAll parts + 1
  | .iface _ d => uptoBulk d + 1
  | .map entries => uptoBulkEntries entries + 1
  | .held _ => 1
def uptoBulkAll {H : Type} : List (DataW H) → Nat
  | [] => 0
  | d :: r => uptoBulk d + uptoBulkAll r
def uptoBulkEntries {H : Type} : List (Lit × DataW H) → Nat
  | [] => 0
  | x :: r => uptoBulkEntry x + uptoBulkEntries r
def uptoBulkEntry {H : Type} : Lit × DataW H → Nat
  | (.string bytes, d) => bytes.length + uptoBulk d + 1
  | (_, d) => uptoBulk d + 1
 end
def uptoSmall : (H : Type) → List (DataW H) → Bool := fun _ ds => decide (uptoBulkAll ds ≤ 1048576)
def OpenSpec.upto (s : _root_.Go.ChangeSpec) : _root_.Go.OpenSpec := { _root_.Go.OpenSpec.ofChange s with cond := some uptoSmall }

/-- 'jacinthlaw16.WaitsFirst', WHERE WHAT IT READS IS OF BULK AT MOST 1048576: true; the input reads as it did. -/
def waitsFirstUptoRow : OpenClaim := { program := "ythjkmgckkacegaa", sum := "3fe722a5341f28c1ff4917f4d451a3f965104b11f1d9e94fbaf092e744496913", func := "jacinth/jacinthlaw16.WaitsFirst", spec := "waitsFirst", unfollowed := true, recurses := true, apart := false, narrowed := true }
def WaitsFirstUptoSaid : Prop := waitsFirstUptoRow.holds Try.pinned (OpenSpec.upto waitsFirstSpec)

/-- 'jacinthlaw16.WaitsForget', WHERE WHAT IT READS IS OF BULK AT MOST 1048576: true; the input reads as it did. -/
def waitsForgetUptoRow : OpenClaim := { program := "ythjkmgckkacegaa", sum := "3fe722a5341f28c1ff4917f4d451a3f965104b11f1d9e94fbaf092e744496913", func := "jacinth/jacinthlaw16.WaitsForget", spec := "waitsForget", unfollowed := true, recurses := true, apart := false, narrowed := true }
def WaitsForgetUptoSaid : Prop := waitsForgetUptoRow.holds Try.pinned (OpenSpec.upto waitsForgetSpec)

/-- 'jacinthlaw16.WaitsOrder', WHERE WHAT IT READS IS OF BULK AT MOST 1048576: true; the input reads as it did. -/
def waitsOrderUptoRow : OpenClaim := { program := "ythjkmgckkacegaa", sum := "3fe722a5341f28c1ff4917f4d451a3f965104b11f1d9e94fbaf092e744496913", func := "jacinth/jacinthlaw16.WaitsOrder", spec := "waitsOrder", unfollowed := true, recurses := true, apart := false, narrowed := true }
def WaitsOrderUptoSaid : Prop := waitsOrderUptoRow.holds Try.pinned (OpenSpec.upto waitsOrderSpec)

/-- 'jacinthlaw16.WaitsOnce', WHERE WHAT IT READS IS OF BULK AT MOST 1048576: true; the input reads as it did. -/
def waitsOnceUptoRow : OpenClaim := { program := "ythjkmgckkacegaa", sum := "3fe722a5341f28c1ff4917f4d451a3f965104b11f1d9e94fbaf092e744496913", func := "jacinth/jacinthlaw16.WaitsOnce", spec := "waitsOnce", unfollowed := true, recurses := true, apart := false, narrowed := true }
def WaitsOnceUptoSaid : Prop := waitsOnceUptoRow.holds Try.pinned (OpenSpec.upto waitsOnceSpec)

/-- 'jacinthlaw16.WaitsPlays', WHERE WHAT IT READS IS OF BULK AT MOST 1048576: true; the input reads as it did. -/
def waitsPlaysUptoRow : OpenClaim := { program := "ythjkmgckkacegaa", sum := "3fe722a5341f28c1ff4917f4d451a3f965104b11f1d9e94fbaf092e744496913", func := "jacinth/jacinthlaw16.WaitsPlays", spec := "waitsPlays", unfollowed := true, recurses := true, apart := false, narrowed := true }
def WaitsPlaysUptoSaid : Prop := waitsPlaysUptoRow.holds Try.pinned (OpenSpec.upto waitsPlaysSpec)

end Rows
end Go.Proofs.Ythjkmgckkacegaa
