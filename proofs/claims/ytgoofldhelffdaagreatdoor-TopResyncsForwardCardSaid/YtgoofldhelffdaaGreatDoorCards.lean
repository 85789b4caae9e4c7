/-
  DERIVED. GIVEN WITH THE SEED: THE CARDS: each row of YtgoofldhelffdaaGreatDoorRows.lean that lists a variable, with what it lists TIED to the program's text (the seventh form; the later family's looks); each row that meets fmt, with fmt's text TOLD by the authors' own Lean function (tested against real Go, not proved from fmt's source: count such statements apart). THE CARD IS WHAT COUNTS. Prove the row's statement (the work); the ties are given (YtgoofldhelffdaaGreatDoorTie.lean); close each card by the builder's one call (the guide's Derived/Test/ToyasCard.lean, 'card_holds'). Laid BY PROGRAM, IN A SANDBOX (cutbox-door.mjs). By AI agents, Wed Nov 11 2026. No macro, syntax, notation, axiom, sorry.
-/
import Derived.Test.YtgoofldhelffdaaGreatDoorRows
import GoSem.ClaimSeven
namespace Go.Proofs.YtgoofldhelffdaaGreatDoor
namespace Rows

/-- THE TIED CARD OF 'standbytop.TopResyncsForward'. -/
def topResyncsForwardCard : Claim7 := { stood := { row := topResyncsForwardRow, standIns := [], harness := (true, "51ee034aef9e1d43e68fd1dc3670ca52cededed4cc84087727de18e1b7028dad"), looks := false }, kinds := [], alts := [], laidByText := true, laidKinds := [.data], laidTests := true, laidLooks := .later }
def TopResyncsForwardCardSaid : Prop := Claim7.holds Tryz.pinned (.plain (OpenSpec.ofChange topResyncsForwardSpec)) topResyncsForwardCard

/-- THE TIED CARD OF 'standbytop.TopResyncsLeast'. -/
def topResyncsLeastCard : Claim7 := { stood := { row := topResyncsLeastRow, standIns := [], harness := (true, "51ee034aef9e1d43e68fd1dc3670ca52cededed4cc84087727de18e1b7028dad"), looks := false }, kinds := [], alts := [], laidByText := true, laidKinds := [.data], laidTests := true, laidLooks := .later }
def TopResyncsLeastCardSaid : Prop := Claim7.holds Tryz.pinned (.plain (OpenSpec.ofChange topResyncsLeastSpec)) topResyncsLeastCard

/-- THE SECOND FORM's CARD OF 'standbytop.TopResyncsForward'. -/
def topResyncsForwardUptoCard : Claim7 := { stood := { row := topResyncsForwardUptoRow, standIns := [], harness := (true, "51ee034aef9e1d43e68fd1dc3670ca52cededed4cc84087727de18e1b7028dad"), looks := false }, kinds := [], alts := [], laidByText := true, laidKinds := [.data], laidTests := true, laidLooks := .later }
def TopResyncsForwardUptoCardSaid : Prop := Claim7.holds Tryz.pinned (.plain (OpenSpec.upto topResyncsForwardSpec)) topResyncsForwardUptoCard

/-- THE SECOND FORM's CARD OF 'standbytop.TopResyncsLeast'. -/
def topResyncsLeastUptoCard : Claim7 := { stood := { row := topResyncsLeastUptoRow, standIns := [], harness := (true, "51ee034aef9e1d43e68fd1dc3670ca52cededed4cc84087727de18e1b7028dad"), looks := false }, kinds := [], alts := [], laidByText := true, laidKinds := [.data], laidTests := true, laidLooks := .later }
def TopResyncsLeastUptoCardSaid : Prop := Claim7.holds Tryz.pinned (.plain (OpenSpec.upto topResyncsLeastSpec)) topResyncsLeastUptoCard
end Rows
end Go.Proofs.YtgoofldhelffdaaGreatDoor
