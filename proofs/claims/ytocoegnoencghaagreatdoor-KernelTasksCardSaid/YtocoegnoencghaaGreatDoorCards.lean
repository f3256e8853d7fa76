/-
  DERIVED. GIVEN WITH THE SEED: THE CARDS: each row of YtocoegnoencghaaGreatDoorRows.lean that lists a variable, with what it lists TIED to the program's text (the seventh form; the later family's looks); each row that meets fmt, with fmt's text TOLD by the authors' own Lean function (tested against real Go, not proved from fmt's source: count such statements apart). THE CARD IS WHAT COUNTS. Prove the row's statement (the work); the ties are given (YtocoegnoencghaaGreatDoorTie.lean); close each card by the builder's one call (the guide's Derived/Test/ToyasCard.lean, 'card_holds'). Laid BY PROGRAM, IN A SANDBOX (cutbox-door.mjs). By AI agents, Wed Nov 11 2026. No macro, syntax, notation, axiom, sorry.
-/
import Derived.Test.YtocoegnoencghaaGreatDoorRows
import GoSem.ClaimSeven
namespace Go.Proofs.YtocoegnoencghaaGreatDoor
namespace Rows

/-- THE TIED CARD OF 'jacinthlaw19.KernelMaps'. -/
def kernelMapsCard : Claim7 := { stood := { row := kernelMapsRow, standIns := [], harness := (true, "40ec8dd167ec6a4dca4f50e00fb65cddd65e9408ec2f7171173e2b95226318f2"), looks := false }, kinds := [], alts := [], laidByText := true, laidKinds := [.data], laidTests := true, laidLooks := .later }
def KernelMapsCardSaid : Prop := Claim7.holds Tryz.pinned (.plain (OpenSpec.ofChange kernelMapsSpec)) kernelMapsCard

/-- THE TIED CARD OF 'jacinthlaw19.KernelPairs'. -/
def kernelPairsCard : Claim7 := { stood := { row := kernelPairsRow, standIns := [], harness := (true, "40ec8dd167ec6a4dca4f50e00fb65cddd65e9408ec2f7171173e2b95226318f2"), looks := false }, kinds := [], alts := [], laidByText := true, laidKinds := [.data], laidTests := true, laidLooks := .later }
def KernelPairsCardSaid : Prop := Claim7.holds Tryz.pinned (.plain (OpenSpec.ofChange kernelPairsSpec)) kernelPairsCard

/-- THE TIED CARD OF 'jacinthlaw19.KernelReads'. -/
def kernelReadsCard : Claim7 := { stood := { row := kernelReadsRow, standIns := [], harness := (true, "40ec8dd167ec6a4dca4f50e00fb65cddd65e9408ec2f7171173e2b95226318f2"), looks := false }, kinds := [], alts := [], laidByText := true, laidKinds := [.data], laidTests := true, laidLooks := .later }
def KernelReadsCardSaid : Prop := Claim7.holds Tryz.pinned (.plain (OpenSpec.ofChange kernelReadsSpec)) kernelReadsCard

/-- THE TIED CARD OF 'jacinthlaw19.KernelConsumes'. -/
def kernelConsumesCard : Claim7 := { stood := { row := kernelConsumesRow, standIns := [], harness := (true, "40ec8dd167ec6a4dca4f50e00fb65cddd65e9408ec2f7171173e2b95226318f2"), looks := false }, kinds := [], alts := [], laidByText := true, laidKinds := [.data], laidTests := true, laidLooks := .later }
def KernelConsumesCardSaid : Prop := Claim7.holds Tryz.pinned (.plain (OpenSpec.ofChange kernelConsumesSpec)) kernelConsumesCard

/-- THE TIED CARD OF 'jacinthlaw19.KernelTasks'. -/
def kernelTasksCard : Claim7 := { stood := { row := kernelTasksRow, standIns := [], harness := (true, "40ec8dd167ec6a4dca4f50e00fb65cddd65e9408ec2f7171173e2b95226318f2"), looks := false }, kinds := [], alts := [], laidByText := true, laidKinds := [.data], laidTests := true, laidLooks := .later }
def KernelTasksCardSaid : Prop := Claim7.holds Tryz.pinned (.plain (OpenSpec.ofChange kernelTasksSpec)) kernelTasksCard

/-- THE TIED CARD OF 'jacinthlaw19.KernelTwins'. -/
def kernelTwinsCard : Claim7 := { stood := { row := kernelTwinsRow, standIns := [], harness := (true, "40ec8dd167ec6a4dca4f50e00fb65cddd65e9408ec2f7171173e2b95226318f2"), looks := false }, kinds := [], alts := [], laidByText := true, laidKinds := [.data], laidTests := true, laidLooks := .later }
def KernelTwinsCardSaid : Prop := Claim7.holds Tryz.pinned (.plain (OpenSpec.ofChange kernelTwinsSpec)) kernelTwinsCard

/-- THE TIED CARD OF 'jacinthlaw19.KernelShows'. -/
def kernelShowsCard : Claim7 := { stood := { row := kernelShowsRow, standIns := [], harness := (true, "40ec8dd167ec6a4dca4f50e00fb65cddd65e9408ec2f7171173e2b95226318f2"), looks := false }, kinds := [], alts := [], laidByText := true, laidKinds := [.data], laidTests := true, laidLooks := .later }
def KernelShowsCardSaid : Prop := Claim7.holds Tryz.pinned (.plain (OpenSpec.ofChange kernelShowsSpec)) kernelShowsCard

/-- THE TIED CARD OF 'jacinthlaw19.KernelNothing'. -/
def kernelNothingCard : Claim7 := { stood := { row := kernelNothingRow, standIns := [], harness := (true, "40ec8dd167ec6a4dca4f50e00fb65cddd65e9408ec2f7171173e2b95226318f2"), looks := false }, kinds := [], alts := [], laidByText := true, laidKinds := [.data], laidTests := true, laidLooks := .later }
def KernelNothingCardSaid : Prop := Claim7.holds Tryz.pinned (.plain (OpenSpec.ofChange kernelNothingSpec)) kernelNothingCard

/-- THE TIED CARD OF 'jacinthlaw19.KernelHolds'. -/
def kernelHoldsCard : Claim7 := { stood := { row := kernelHoldsRow, standIns := [], harness := (true, "40ec8dd167ec6a4dca4f50e00fb65cddd65e9408ec2f7171173e2b95226318f2"), looks := false }, kinds := [], alts := [], laidByText := true, laidKinds := [.data], laidTests := true, laidLooks := .later }
def KernelHoldsCardSaid : Prop := Claim7.holds Tryz.pinned (.plain (OpenSpec.ofChange kernelHoldsSpec)) kernelHoldsCard

/-- THE SECOND FORM's CARD OF 'jacinthlaw19.KernelMaps'. -/
def kernelMapsUptoCard : Claim7 := { stood := { row := kernelMapsUptoRow, standIns := [], harness := (true, "40ec8dd167ec6a4dca4f50e00fb65cddd65e9408ec2f7171173e2b95226318f2"), looks := false }, kinds := [], alts := [], laidByText := true, laidKinds := [.data], laidTests := true, laidLooks := .later }
def KernelMapsUptoCardSaid : Prop := Claim7.holds Tryz.pinned (.plain (OpenSpec.upto kernelMapsSpec)) kernelMapsUptoCard

/-- THE SECOND FORM's CARD OF 'jacinthlaw19.KernelPairs'. -/
def kernelPairsUptoCard : Claim7 := { stood := { row := kernelPairsUptoRow, standIns := [], harness := (true, "40ec8dd167ec6a4dca4f50e00fb65cddd65e9408ec2f7171173e2b95226318f2"), looks := false }, kinds := [], alts := [], laidByText := true, laidKinds := [.data], laidTests := true, laidLooks := .later }
def KernelPairsUptoCardSaid : Prop := Claim7.holds Tryz.pinned (.plain (OpenSpec.upto kernelPairsSpec)) kernelPairsUptoCard

/-- THE SECOND FORM's CARD OF 'jacinthlaw19.KernelReads'. -/
def kernelReadsUptoCard : Claim7 := { stood := { row := kernelReadsUptoRow, standIns := [], harness := (true, "40ec8dd167ec6a4dca4f50e00fb65cddd65e9408ec2f7171173e2b95226318f2"), looks := false }, kinds := [], alts := [], laidByText := true, laidKinds := [.data], laidTests := true, laidLooks := .later }
def KernelReadsUptoCardSaid : Prop := Claim7.holds Tryz.pinned (.plain (OpenSpec.upto kernelReadsSpec)) kernelReadsUptoCard

/-- THE SECOND FORM's CARD OF 'jacinthlaw19.KernelConsumes'. -/
def kernelConsumesUptoCard : Claim7 := { stood := { row := kernelConsumesUptoRow, standIns := [], harness := (true, "40ec8dd167ec6a4dca4f50e00fb65cddd65e9408ec2f7171173e2b95226318f2"), looks := false }, kinds := [], alts := [], laidByText := true, laidKinds := [.data], laidTests := true, laidLooks := .later }
def KernelConsumesUptoCardSaid : Prop := Claim7.holds Tryz.pinned (.plain (OpenSpec.upto kernelConsumesSpec)) kernelConsumesUptoCard

/-- THE SECOND FORM's CARD OF 'jacinthlaw19.KernelTasks'. -/
def kernelTasksUptoCard : Claim7 := { stood := { row := kernelTasksUptoRow, standIns := [], harness := (true, "40ec8dd167ec6a4dca4f50e00fb65cddd65e9408ec2f7171173e2b95226318f2"), looks := false }, kinds := [], alts := [], laidByText := true, laidKinds := [.data], laidTests := true, laidLooks := .later }
def KernelTasksUptoCardSaid : Prop := Claim7.holds Tryz.pinned (.plain (OpenSpec.upto kernelTasksSpec)) kernelTasksUptoCard

/-- THE SECOND FORM's CARD OF 'jacinthlaw19.KernelTwins'. -/
def kernelTwinsUptoCard : Claim7 := { stood := { row := kernelTwinsUptoRow, standIns := [], harness := (true, "40ec8dd167ec6a4dca4f50e00fb65cddd65e9408ec2f7171173e2b95226318f2"), looks := false }, kinds := [], alts := [], laidByText := true, laidKinds := [.data], laidTests := true, laidLooks := .later }
def KernelTwinsUptoCardSaid : Prop := Claim7.holds Tryz.pinned (.plain (OpenSpec.upto kernelTwinsSpec)) kernelTwinsUptoCard

/-- THE SECOND FORM's CARD OF 'jacinthlaw19.KernelShows'. -/
def kernelShowsUptoCard : Claim7 := { stood := { row := kernelShowsUptoRow, standIns := [], harness := (true, "40ec8dd167ec6a4dca4f50e00fb65cddd65e9408ec2f7171173e2b95226318f2"), looks := false }, kinds := [], alts := [], laidByText := true, laidKinds := [.data], laidTests := true, laidLooks := .later }
def KernelShowsUptoCardSaid : Prop := Claim7.holds Tryz.pinned (.plain (OpenSpec.upto kernelShowsSpec)) kernelShowsUptoCard

/-- THE SECOND FORM's CARD OF 'jacinthlaw19.KernelNothing'. -/
def kernelNothingUptoCard : Claim7 := { stood := { row := kernelNothingUptoRow, standIns := [], harness := (true, "40ec8dd167ec6a4dca4f50e00fb65cddd65e9408ec2f7171173e2b95226318f2"), looks := false }, kinds := [], alts := [], laidByText := true, laidKinds := [.data], laidTests := true, laidLooks := .later }
def KernelNothingUptoCardSaid : Prop := Claim7.holds Tryz.pinned (.plain (OpenSpec.upto kernelNothingSpec)) kernelNothingUptoCard

/-- THE SECOND FORM's CARD OF 'jacinthlaw19.KernelHolds'. -/
def kernelHoldsUptoCard : Claim7 := { stood := { row := kernelHoldsUptoRow, standIns := [], harness := (true, "40ec8dd167ec6a4dca4f50e00fb65cddd65e9408ec2f7171173e2b95226318f2"), looks := false }, kinds := [], alts := [], laidByText := true, laidKinds := [.data], laidTests := true, laidLooks := .later }
def KernelHoldsUptoCardSaid : Prop := Claim7.holds Tryz.pinned (.plain (OpenSpec.upto kernelHoldsSpec)) kernelHoldsUptoCard
end Rows
end Go.Proofs.YtocoegnoencghaaGreatDoor
