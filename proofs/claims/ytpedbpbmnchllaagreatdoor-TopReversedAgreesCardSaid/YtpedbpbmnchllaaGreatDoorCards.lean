/-
  DERIVED. GIVEN WITH THE SEED: THE CARDS: each row of YtpedbpbmnchllaaGreatDoorRows.lean that lists a variable, with what it lists TIED to the program's text (the seventh form; the later family's looks); each row that meets fmt, with fmt's text TOLD by the authors' own Lean function (tested against real Go, not proved from fmt's source: count such statements apart). THE CARD IS WHAT COUNTS. Prove the row's statement (the work); the ties are given (YtpedbpbmnchllaaGreatDoorTie.lean); close each card by the builder's one call (the guide's Derived/Test/ToyasCard.lean, 'card_holds'). Laid BY PROGRAM, IN A SANDBOX (cutbox-door.mjs). By AI agents, Wed Nov 11 2026. No macro, syntax, notation, axiom, sorry.
-/
import Derived.Test.YtpedbpbmnchllaaGreatDoorRows
import GoSem.ClaimSeven
namespace Go.Proofs.YtpedbpbmnchllaaGreatDoor
namespace Rows

/-- THE TIED CARD OF 'standbytop.TopFailbackReversed'. -/
def topFailbackReversedCard : Claim7 := { stood := { row := topFailbackReversedRow, standIns := [], harness := (true, "be5db38aec56f33aeb66c46546e9d36974ef3c2aff73e813bd08d86a6fafac29"), looks := true }, kinds := [], alts := [], laidByText := true, laidKinds := [.data], laidTests := true, laidLooks := .later }
def TopFailbackReversedCardSaid : Prop := Claim7.holds Tryz.pinned (.plain (OpenSpec.ofChange topFailbackReversedSpec)) topFailbackReversedCard

/-- THE TIED CARD OF 'standbytop.TopReversedAgrees'. -/
def topReversedAgreesCard : Claim7 := { stood := { row := topReversedAgreesRow, standIns := [], harness := (true, "be5db38aec56f33aeb66c46546e9d36974ef3c2aff73e813bd08d86a6fafac29"), looks := true }, kinds := [], alts := [], laidByText := true, laidKinds := [.data], laidTests := true, laidLooks := .later }
def TopReversedAgreesCardSaid : Prop := Claim7.holds Tryz.pinned (.plain (OpenSpec.ofChange topReversedAgreesSpec)) topReversedAgreesCard

/-- THE SECOND FORM's CARD OF 'standbytop.TopFailbackReversed'. -/
def topFailbackReversedUptoCard : Claim7 := { stood := { row := topFailbackReversedUptoRow, standIns := [], harness := (true, "be5db38aec56f33aeb66c46546e9d36974ef3c2aff73e813bd08d86a6fafac29"), looks := true }, kinds := [], alts := [], laidByText := true, laidKinds := [.data], laidTests := true, laidLooks := .later }
def TopFailbackReversedUptoCardSaid : Prop := Claim7.holds Tryz.pinned (.plain (OpenSpec.upto topFailbackReversedSpec)) topFailbackReversedUptoCard

/-- THE SECOND FORM's CARD OF 'standbytop.TopReversedAgrees'. -/
def topReversedAgreesUptoCard : Claim7 := { stood := { row := topReversedAgreesUptoRow, standIns := [], harness := (true, "be5db38aec56f33aeb66c46546e9d36974ef3c2aff73e813bd08d86a6fafac29"), looks := true }, kinds := [], alts := [], laidByText := true, laidKinds := [.data], laidTests := true, laidLooks := .later }
def TopReversedAgreesUptoCardSaid : Prop := Claim7.holds Tryz.pinned (.plain (OpenSpec.upto topReversedAgreesSpec)) topReversedAgreesUptoCard
end Rows
end Go.Proofs.YtpedbpbmnchllaaGreatDoor
