/-
  DERIVED. GIVEN WITH THE SEED: THE CARDS: each row of YtfflhepmkhlppaaGreatDoorRows.lean that lists a variable, with what it lists TIED to the program's text (the seventh form; the later family's looks); each row that meets fmt, with fmt's text TOLD by the authors' own Lean function (tested against real Go, not proved from fmt's source: count such statements apart). THE CARD IS WHAT COUNTS. Prove the row's statement (the work); the ties are given (YtfflhepmkhlppaaGreatDoorTie.lean); close each card by the builder's one call (the guide's Derived/Test/ToyasCard.lean, 'card_holds'). Laid BY PROGRAM, IN A SANDBOX (cutbox-door.mjs). By AI agents, Wed Nov 11 2026. No macro, syntax, notation, axiom, sorry.
-/
import Derived.Test.YtfflhepmkhlppaaGreatDoorRows
import GoSem.ClaimSeven
namespace Go.Proofs.YtfflhepmkhlppaaGreatDoor
namespace Rows

/-- THE TIED CARD OF 'standbytop.TopVolumeRecovers'. -/
def topVolumeRecoversCard : Claim7 := { stood := { row := topVolumeRecoversRow, standIns := [], harness := (true, "36a9c1ce0b88451a7d851815379c7f2fe25966e2608c58391319b30bf691e78c"), looks := true }, kinds := [], alts := [], laidByText := true, laidKinds := [.data, .pinned], laidTests := true, laidLooks := .later }
def TopVolumeRecoversCardSaid : Prop := Claim7.holds Tryz.pinned (.plain (OpenSpec.ofChange topVolumeRecoversSpec)) topVolumeRecoversCard

/-- THE TIED CARD OF 'standbytop.TopVolumeReopened'. -/
def topVolumeReopenedCard : Claim7 := { stood := { row := topVolumeReopenedRow, standIns := [], harness := (true, "36a9c1ce0b88451a7d851815379c7f2fe25966e2608c58391319b30bf691e78c"), looks := true }, kinds := [], alts := [], laidByText := true, laidKinds := [.data, .pinned], laidTests := true, laidLooks := .later }
def TopVolumeReopenedCardSaid : Prop := Claim7.holds Tryz.pinned (.plain (OpenSpec.ofChange topVolumeReopenedSpec)) topVolumeReopenedCard

/-- THE SECOND FORM's CARD OF 'standbytop.TopVolumeRecovers'. -/
def topVolumeRecoversUptoCard : Claim7 := { stood := { row := topVolumeRecoversUptoRow, standIns := [], harness := (true, "36a9c1ce0b88451a7d851815379c7f2fe25966e2608c58391319b30bf691e78c"), looks := true }, kinds := [], alts := [], laidByText := true, laidKinds := [.data, .pinned], laidTests := true, laidLooks := .later }
def TopVolumeRecoversUptoCardSaid : Prop := Claim7.holds Tryz.pinned (.plain (OpenSpec.upto topVolumeRecoversSpec)) topVolumeRecoversUptoCard

/-- THE SECOND FORM's CARD OF 'standbytop.TopVolumeReopened'. -/
def topVolumeReopenedUptoCard : Claim7 := { stood := { row := topVolumeReopenedUptoRow, standIns := [], harness := (true, "36a9c1ce0b88451a7d851815379c7f2fe25966e2608c58391319b30bf691e78c"), looks := true }, kinds := [], alts := [], laidByText := true, laidKinds := [.data, .pinned], laidTests := true, laidLooks := .later }
def TopVolumeReopenedUptoCardSaid : Prop := Claim7.holds Tryz.pinned (.plain (OpenSpec.upto topVolumeReopenedSpec)) topVolumeReopenedUptoCard
end Rows
end Go.Proofs.YtfflhepmkhlppaaGreatDoor
