/-
  DERIVED. GIVEN WITH THE SEED: THE CARDS: each row of YtcdkbkgpgemfgaaGreatDoorRows.lean that lists a variable, with what it lists TIED to the program's text (the seventh form; the later family's looks); each row that meets fmt, with fmt's text TOLD by the authors' own Lean function (tested against real Go, not proved from fmt's source: count such statements apart). THE CARD IS WHAT COUNTS. Prove the row's statement (the work); the ties are given (YtcdkbkgpgemfgaaGreatDoorTie.lean); close each card by the builder's one call (the guide's Derived/Test/ToyasCard.lean, 'card_holds'). Laid BY PROGRAM, IN A SANDBOX (cutbox-door.mjs). By AI agents, Wed Nov 11 2026. No macro, syntax, notation, axiom, sorry.
-/
import Derived.Test.YtcdkbkgpgemfgaaGreatDoorRows
import GoSem.ClaimSeven
namespace Go.Proofs.YtcdkbkgpgemfgaaGreatDoor
namespace Rows

/-- THE TIED CARD OF 'jacinthtop.WholeLeak'. -/
def wholeLeakCard : Claim7 := { stood := { row := wholeLeakRow, standIns := [], harness := (true, "15d6c13f6515e2767827fff798568ec47145bcadd3560caaafbf91408c6565b5"), looks := false }, kinds := [], alts := [], laidByText := true, laidKinds := [.data], laidTests := true, laidLooks := .later }
def WholeLeakCardSaid : Prop := Claim7.holds Tryz.pinned (.plain (OpenSpec.ofChange wholeLeakSpec)) wholeLeakCard

/-- THE TIED CARD OF 'jacinthlaw21.AuditWithin'. -/
def auditWithinCard : Claim7 := { stood := { row := auditWithinRow, standIns := [], harness := (true, "15d6c13f6515e2767827fff798568ec47145bcadd3560caaafbf91408c6565b5"), looks := false }, kinds := [], alts := [], laidByText := true, laidKinds := [.data], laidTests := true, laidLooks := .later }
def AuditWithinCardSaid : Prop := Claim7.holds Tryz.pinned (.plain (OpenSpec.ofChange auditWithinSpec)) auditWithinCard

/-- THE TIED CARD OF 'jacinthlaw19.KernelNothing'. -/
def kernelNothingCard : Claim7 := { stood := { row := kernelNothingRow, standIns := [], harness := (true, "15d6c13f6515e2767827fff798568ec47145bcadd3560caaafbf91408c6565b5"), looks := false }, kinds := [], alts := [], laidByText := true, laidKinds := [.data], laidTests := true, laidLooks := .later }
def KernelNothingCardSaid : Prop := Claim7.holds Tryz.pinned (.plain (OpenSpec.ofChange kernelNothingSpec)) kernelNothingCard

/-- THE TIED CARD OF 'jacinthlaw20.MachineNothing'. -/
def machineNothingCard : Claim7 := { stood := { row := machineNothingRow, standIns := [], harness := (true, "15d6c13f6515e2767827fff798568ec47145bcadd3560caaafbf91408c6565b5"), looks := false }, kinds := [], alts := [], laidByText := true, laidKinds := [.data], laidTests := true, laidLooks := .later }
def MachineNothingCardSaid : Prop := Claim7.holds Tryz.pinned (.plain (OpenSpec.ofChange machineNothingSpec)) machineNothingCard

/-- THE SECOND FORM's CARD OF 'jacinthtop.WholeLeak'. -/
def wholeLeakUptoCard : Claim7 := { stood := { row := wholeLeakUptoRow, standIns := [], harness := (true, "15d6c13f6515e2767827fff798568ec47145bcadd3560caaafbf91408c6565b5"), looks := false }, kinds := [], alts := [], laidByText := true, laidKinds := [.data], laidTests := true, laidLooks := .later }
def WholeLeakUptoCardSaid : Prop := Claim7.holds Tryz.pinned (.plain (OpenSpec.upto wholeLeakSpec)) wholeLeakUptoCard

/-- THE SECOND FORM's CARD OF 'jacinthlaw21.AuditWithin'. -/
def auditWithinUptoCard : Claim7 := { stood := { row := auditWithinUptoRow, standIns := [], harness := (true, "15d6c13f6515e2767827fff798568ec47145bcadd3560caaafbf91408c6565b5"), looks := false }, kinds := [], alts := [], laidByText := true, laidKinds := [.data], laidTests := true, laidLooks := .later }
def AuditWithinUptoCardSaid : Prop := Claim7.holds Tryz.pinned (.plain (OpenSpec.upto auditWithinSpec)) auditWithinUptoCard

/-- THE SECOND FORM's CARD OF 'jacinthlaw19.KernelNothing'. -/
def kernelNothingUptoCard : Claim7 := { stood := { row := kernelNothingUptoRow, standIns := [], harness := (true, "15d6c13f6515e2767827fff798568ec47145bcadd3560caaafbf91408c6565b5"), looks := false }, kinds := [], alts := [], laidByText := true, laidKinds := [.data], laidTests := true, laidLooks := .later }
def KernelNothingUptoCardSaid : Prop := Claim7.holds Tryz.pinned (.plain (OpenSpec.upto kernelNothingSpec)) kernelNothingUptoCard

/-- THE SECOND FORM's CARD OF 'jacinthlaw20.MachineNothing'. -/
def machineNothingUptoCard : Claim7 := { stood := { row := machineNothingUptoRow, standIns := [], harness := (true, "15d6c13f6515e2767827fff798568ec47145bcadd3560caaafbf91408c6565b5"), looks := false }, kinds := [], alts := [], laidByText := true, laidKinds := [.data], laidTests := true, laidLooks := .later }
def MachineNothingUptoCardSaid : Prop := Claim7.holds Tryz.pinned (.plain (OpenSpec.upto machineNothingSpec)) machineNothingUptoCard
end Rows
end Go.Proofs.YtcdkbkgpgemfgaaGreatDoor
