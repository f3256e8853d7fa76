/-
  DERIVED. GIVEN WITH THE SEED: THE CARDS: each row of YtfehhjjfmbjlfaaGreatDoorRows.lean that lists a variable, with what it lists TIED to the program's text (the seventh form; the later family's looks); each row that meets fmt, with fmt's text TOLD by the authors' own Lean function (tested against real Go, not proved from fmt's source: count such statements apart). THE CARD IS WHAT COUNTS. Prove the row's statement (the work); the ties are given (YtfehhjjfmbjlfaaGreatDoorTie.lean); close each card by the builder's one call (the guide's Derived/Test/ToyasCard.lean, 'card_holds'). Laid BY PROGRAM, IN A SANDBOX (cutbox-door.mjs). By AI agents, Wed Nov 11 2026. No macro, syntax, notation, axiom, sorry.
-/
import Derived.Test.YtfehhjjfmbjlfaaGreatDoorRows
import GoSem.ClaimSeven
namespace Go.Proofs.YtfehhjjfmbjlfaaGreatDoor
namespace Rows

/-- THE TIED CARD OF 'jacinthlaw19.KernelPairs'. -/
def kernelPairsCard : Claim7 := { stood := { row := kernelPairsRow, standIns := [], harness := (true, "f24315382ff8d2f4a8d95fad1a557e81ae4ee38a7fc2f50bbb211df21be94e6d"), looks := false }, kinds := [], alts := [], laidByText := true, laidKinds := [.data], laidTests := true, laidLooks := .later }
def KernelPairsCardSaid : Prop := Claim7.holds Tryz.pinned (.plain (OpenSpec.ofChange kernelPairsSpec)) kernelPairsCard

/-- THE TIED CARD OF 'jacinthlaw19.KernelConsumes'. -/
def kernelConsumesCard : Claim7 := { stood := { row := kernelConsumesRow, standIns := [], harness := (true, "f24315382ff8d2f4a8d95fad1a557e81ae4ee38a7fc2f50bbb211df21be94e6d"), looks := false }, kinds := [], alts := [], laidByText := true, laidKinds := [.data], laidTests := true, laidLooks := .later }
def KernelConsumesCardSaid : Prop := Claim7.holds Tryz.pinned (.plain (OpenSpec.ofChange kernelConsumesSpec)) kernelConsumesCard

/-- THE TIED CARD OF 'jacinthlaw21.AuditQueues'. -/
def auditQueuesCard : Claim7 := { stood := { row := auditQueuesRow, standIns := [], harness := (true, "f24315382ff8d2f4a8d95fad1a557e81ae4ee38a7fc2f50bbb211df21be94e6d"), looks := false }, kinds := [], alts := [], laidByText := true, laidKinds := [.data], laidTests := true, laidLooks := .later }
def AuditQueuesCardSaid : Prop := Claim7.holds Tryz.pinned (.plain (OpenSpec.ofChange auditQueuesSpec)) auditQueuesCard

/-- THE SECOND FORM's CARD OF 'jacinthlaw19.KernelPairs'. -/
def kernelPairsUptoCard : Claim7 := { stood := { row := kernelPairsUptoRow, standIns := [], harness := (true, "f24315382ff8d2f4a8d95fad1a557e81ae4ee38a7fc2f50bbb211df21be94e6d"), looks := false }, kinds := [], alts := [], laidByText := true, laidKinds := [.data], laidTests := true, laidLooks := .later }
def KernelPairsUptoCardSaid : Prop := Claim7.holds Tryz.pinned (.plain (OpenSpec.upto kernelPairsSpec)) kernelPairsUptoCard

/-- THE SECOND FORM's CARD OF 'jacinthlaw19.KernelConsumes'. -/
def kernelConsumesUptoCard : Claim7 := { stood := { row := kernelConsumesUptoRow, standIns := [], harness := (true, "f24315382ff8d2f4a8d95fad1a557e81ae4ee38a7fc2f50bbb211df21be94e6d"), looks := false }, kinds := [], alts := [], laidByText := true, laidKinds := [.data], laidTests := true, laidLooks := .later }
def KernelConsumesUptoCardSaid : Prop := Claim7.holds Tryz.pinned (.plain (OpenSpec.upto kernelConsumesSpec)) kernelConsumesUptoCard

/-- THE SECOND FORM's CARD OF 'jacinthlaw21.AuditQueues'. -/
def auditQueuesUptoCard : Claim7 := { stood := { row := auditQueuesUptoRow, standIns := [], harness := (true, "f24315382ff8d2f4a8d95fad1a557e81ae4ee38a7fc2f50bbb211df21be94e6d"), looks := false }, kinds := [], alts := [], laidByText := true, laidKinds := [.data], laidTests := true, laidLooks := .later }
def AuditQueuesUptoCardSaid : Prop := Claim7.holds Tryz.pinned (.plain (OpenSpec.upto auditQueuesSpec)) auditQueuesUptoCard
end Rows
end Go.Proofs.YtfehhjjfmbjlfaaGreatDoor
