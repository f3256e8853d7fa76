/-
  DERIVED. GIVEN WITH THE SEED: THE CARDS: each row of YtbbenmflickapaaDoorRows.lean that lists a variable, with what it lists TIED to the program's text (the seventh form; the later family's looks); each row that meets fmt, with fmt's text TOLD by the authors' own Lean function (tested against real Go, not proved from fmt's source: count such statements apart). THE CARD IS WHAT COUNTS. Prove the row's statement (the work); the ties are given (YtbbenmflickapaaDoorTie.lean); close each card by the builder's one call (the guide's Derived/Test/ToyasCard.lean, 'card_holds'). Laid BY PROGRAM, IN A SANDBOX (cutbox-door.mjs). By AI agents, Wed Nov 11 2026. No macro, syntax, notation, axiom, sorry.
-/
import Derived.Test.YtbbenmflickapaaDoorRows
import GoSem.ClaimSeven
namespace Go.Proofs.YtbbenmflickapaaDoor
namespace Rows

/-- THE TIED CARD OF 'jacinthlaw18.ObjectChain'. -/
def objectChainCard : Claim7 := { stood := { row := objectChainRow, standIns := [], harness := (true, "70b0389a7ec42dc99fc33eeefe6d2ec41a5d858243cf569ac12d2d1f7aa09d2a"), looks := false }, kinds := [], alts := [], laidByText := true, laidKinds := [.data], laidTests := true, laidLooks := .later }
def ObjectChainCardSaid : Prop := Claim7.holds Tryd.pinned (.plain (OpenSpec.ofChange objectChainSpec)) objectChainCard

/-- THE TIED CARD OF 'jacinthlaw18.ObjectPeers'. -/
def objectPeersCard : Claim7 := { stood := { row := objectPeersRow, standIns := [], harness := (true, "70b0389a7ec42dc99fc33eeefe6d2ec41a5d858243cf569ac12d2d1f7aa09d2a"), looks := false }, kinds := [], alts := [], laidByText := true, laidKinds := [.data], laidTests := true, laidLooks := .later }
def ObjectPeersCardSaid : Prop := Claim7.holds Tryd.pinned (.plain (OpenSpec.ofChange objectPeersSpec)) objectPeersCard

/-- THE TIED CARD OF 'jacinthlaw18.ObjectRefs'. -/
def objectRefsCard : Claim7 := { stood := { row := objectRefsRow, standIns := [], harness := (true, "70b0389a7ec42dc99fc33eeefe6d2ec41a5d858243cf569ac12d2d1f7aa09d2a"), looks := false }, kinds := [], alts := [], laidByText := true, laidKinds := [.data], laidTests := true, laidLooks := .later }
def ObjectRefsCardSaid : Prop := Claim7.holds Tryd.pinned (.plain (OpenSpec.ofChange objectRefsSpec)) objectRefsCard

/-- THE TIED CARD OF 'jacinthlaw18.ObjectHeld'. -/
def objectHeldCard : Claim7 := { stood := { row := objectHeldRow, standIns := [], harness := (true, "70b0389a7ec42dc99fc33eeefe6d2ec41a5d858243cf569ac12d2d1f7aa09d2a"), looks := false }, kinds := [], alts := [], laidByText := true, laidKinds := [.data], laidTests := true, laidLooks := .later }
def ObjectHeldCardSaid : Prop := Claim7.holds Tryd.pinned (.plain (OpenSpec.ofChange objectHeldSpec)) objectHeldCard

/-- THE SECOND FORM's CARD OF 'jacinthlaw18.ObjectChain'. -/
def objectChainUptoCard : Claim7 := { stood := { row := objectChainUptoRow, standIns := [], harness := (true, "70b0389a7ec42dc99fc33eeefe6d2ec41a5d858243cf569ac12d2d1f7aa09d2a"), looks := false }, kinds := [], alts := [], laidByText := true, laidKinds := [.data], laidTests := true, laidLooks := .later }
def ObjectChainUptoCardSaid : Prop := Claim7.holds Tryd.pinned (.plain (OpenSpec.upto objectChainSpec)) objectChainUptoCard

/-- THE SECOND FORM's CARD OF 'jacinthlaw18.ObjectPeers'. -/
def objectPeersUptoCard : Claim7 := { stood := { row := objectPeersUptoRow, standIns := [], harness := (true, "70b0389a7ec42dc99fc33eeefe6d2ec41a5d858243cf569ac12d2d1f7aa09d2a"), looks := false }, kinds := [], alts := [], laidByText := true, laidKinds := [.data], laidTests := true, laidLooks := .later }
def ObjectPeersUptoCardSaid : Prop := Claim7.holds Tryd.pinned (.plain (OpenSpec.upto objectPeersSpec)) objectPeersUptoCard

/-- THE SECOND FORM's CARD OF 'jacinthlaw18.ObjectRefs'. -/
def objectRefsUptoCard : Claim7 := { stood := { row := objectRefsUptoRow, standIns := [], harness := (true, "70b0389a7ec42dc99fc33eeefe6d2ec41a5d858243cf569ac12d2d1f7aa09d2a"), looks := false }, kinds := [], alts := [], laidByText := true, laidKinds := [.data], laidTests := true, laidLooks := .later }
def ObjectRefsUptoCardSaid : Prop := Claim7.holds Tryd.pinned (.plain (OpenSpec.upto objectRefsSpec)) objectRefsUptoCard

/-- THE SECOND FORM's CARD OF 'jacinthlaw18.ObjectHeld'. -/
def objectHeldUptoCard : Claim7 := { stood := { row := objectHeldUptoRow, standIns := [], harness := (true, "70b0389a7ec42dc99fc33eeefe6d2ec41a5d858243cf569ac12d2d1f7aa09d2a"), looks := false }, kinds := [], alts := [], laidByText := true, laidKinds := [.data], laidTests := true, laidLooks := .later }
def ObjectHeldUptoCardSaid : Prop := Claim7.holds Tryd.pinned (.plain (OpenSpec.upto objectHeldSpec)) objectHeldUptoCard
end Rows
end Go.Proofs.YtbbenmflickapaaDoor
