/-
  DERIVED. GIVEN WITH THE SEED: THE CARDS: each row of YtmgoflhjblombaaDoorRows.lean that lists a variable, with what it lists TIED to the program's text (the seventh form; the later family's looks); each row that meets fmt, with fmt's text TOLD by the authors' own Lean function (tested against real Go, not proved from fmt's source: count such statements apart). THE CARD IS WHAT COUNTS. Prove the row's statement (the work); the ties are given (YtmgoflhjblombaaDoorTie.lean); close each card by the builder's one call (the guide's Derived/Test/ToyasCard.lean, 'card_holds'). Laid BY PROGRAM, IN A SANDBOX (cutbox-door.mjs). By AI agents, Wed Nov 11 2026. No macro, syntax, notation, axiom, sorry.
-/
import Derived.Test.YtmgoflhjblombaaDoorRows
import GoSem.ClaimSeven
namespace Go.Proofs.YtmgoflhjblombaaDoor
namespace Rows

/-- THE TIED CARD OF 'standbylaw14.JournalFormats'. -/
def journalFormatsCard : Claim7 := { stood := { row := journalFormatsRow, standIns := [], harness := (true, "7281464d7292f567b01b05ac68a1ce64c2491a81f75bddf0b89f8a600bbb4c25"), looks := true }, kinds := [], alts := [], laidByText := true, laidKinds := [.data, .pinned], laidTests := true, laidLooks := .later }
def JournalFormatsCardSaid : Prop := Claim7.holds Tryd.pinned (.plain (OpenSpec.ofChange journalFormatsSpec)) journalFormatsCard

/-- THE TIED CARD OF 'standbylaw14.JournalAppends'. -/
def journalAppendsCard : Claim7 := { stood := { row := journalAppendsRow, standIns := [], harness := (true, "7281464d7292f567b01b05ac68a1ce64c2491a81f75bddf0b89f8a600bbb4c25"), looks := true }, kinds := [], alts := [], laidByText := true, laidKinds := [.data, .pinned], laidTests := true, laidLooks := .later }
def JournalAppendsCardSaid : Prop := Claim7.holds Tryd.pinned (.plain (OpenSpec.ofChange journalAppendsSpec)) journalAppendsCard

/-- THE SECOND FORM's CARD OF 'standbylaw14.JournalFormats'. -/
def journalFormatsUptoCard : Claim7 := { stood := { row := journalFormatsUptoRow, standIns := [], harness := (true, "7281464d7292f567b01b05ac68a1ce64c2491a81f75bddf0b89f8a600bbb4c25"), looks := true }, kinds := [], alts := [], laidByText := true, laidKinds := [.data, .pinned], laidTests := true, laidLooks := .later }
def JournalFormatsUptoCardSaid : Prop := Claim7.holds Tryd.pinned (.plain (OpenSpec.upto journalFormatsSpec)) journalFormatsUptoCard

/-- THE SECOND FORM's CARD OF 'standbylaw14.JournalAppends'. -/
def journalAppendsUptoCard : Claim7 := { stood := { row := journalAppendsUptoRow, standIns := [], harness := (true, "7281464d7292f567b01b05ac68a1ce64c2491a81f75bddf0b89f8a600bbb4c25"), looks := true }, kinds := [], alts := [], laidByText := true, laidKinds := [.data, .pinned], laidTests := true, laidLooks := .later }
def JournalAppendsUptoCardSaid : Prop := Claim7.holds Tryd.pinned (.plain (OpenSpec.upto journalAppendsSpec)) journalAppendsUptoCard
end Rows
end Go.Proofs.YtmgoflhjblombaaDoor
