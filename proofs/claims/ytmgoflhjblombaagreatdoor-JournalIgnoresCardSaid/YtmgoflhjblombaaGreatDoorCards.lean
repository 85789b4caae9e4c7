/-
  DERIVED. GIVEN WITH THE SEED: THE CARDS: each row of YtmgoflhjblombaaGreatDoorRows.lean that lists a variable, with what it lists TIED to the program's text (the seventh form; the later family's looks); each row that meets fmt, with fmt's text TOLD by the authors' own Lean function (tested against real Go, not proved from fmt's source: count such statements apart). THE CARD IS WHAT COUNTS. Prove the row's statement (the work); the ties are given (YtmgoflhjblombaaGreatDoorTie.lean); close each card by the builder's one call (the guide's Derived/Test/ToyasCard.lean, 'card_holds'). Laid BY PROGRAM, IN A SANDBOX (cutbox-door.mjs). By AI agents, Wed Nov 11 2026. No macro, syntax, notation, axiom, sorry.
-/
import Derived.Test.YtmgoflhjblombaaGreatDoorRows
import GoSem.ClaimSeven
namespace Go.Proofs.YtmgoflhjblombaaGreatDoor
namespace Rows

/-- THE TIED CARD OF 'standbylaw14.JournalOpens'. -/
def journalOpensCard : Claim7 := { stood := { row := journalOpensRow, standIns := [], harness := (true, "43260021a0d7cee288651ca08a2f0d482400991b7f048a6354954cf3793be374"), looks := true }, kinds := [], alts := [], laidByText := true, laidKinds := [.data, .pinned], laidTests := true, laidLooks := .later }
def JournalOpensCardSaid : Prop := Claim7.holds Tryz.pinned (.plain (OpenSpec.ofChange journalOpensSpec)) journalOpensCard

/-- THE TIED CARD OF 'standbylaw14.JournalRecovers'. -/
def journalRecoversCard : Claim7 := { stood := { row := journalRecoversRow, standIns := [], harness := (true, "43260021a0d7cee288651ca08a2f0d482400991b7f048a6354954cf3793be374"), looks := true }, kinds := [], alts := [], laidByText := true, laidKinds := [.data, .pinned], laidTests := true, laidLooks := .later }
def JournalRecoversCardSaid : Prop := Claim7.holds Tryz.pinned (.plain (OpenSpec.ofChange journalRecoversSpec)) journalRecoversCard

/-- THE TIED CARD OF 'standbylaw14.JournalIgnores'. -/
def journalIgnoresCard : Claim7 := { stood := { row := journalIgnoresRow, standIns := [], harness := (true, "43260021a0d7cee288651ca08a2f0d482400991b7f048a6354954cf3793be374"), looks := true }, kinds := [], alts := [], laidByText := true, laidKinds := [.data, .pinned], laidTests := true, laidLooks := .later }
def JournalIgnoresCardSaid : Prop := Claim7.holds Tryz.pinned (.plain (OpenSpec.ofChange journalIgnoresSpec)) journalIgnoresCard

/-- THE TIED CARD OF 'standbylaw14.JournalKeeps'. -/
def journalKeepsCard : Claim7 := { stood := { row := journalKeepsRow, standIns := [], harness := (true, "43260021a0d7cee288651ca08a2f0d482400991b7f048a6354954cf3793be374"), looks := true }, kinds := [], alts := [], laidByText := true, laidKinds := [.data, .pinned], laidTests := true, laidLooks := .later }
def JournalKeepsCardSaid : Prop := Claim7.holds Tryz.pinned (.plain (OpenSpec.ofChange journalKeepsSpec)) journalKeepsCard

/-- THE TIED CARD OF 'standbylaw14.JournalReturns'. -/
def journalReturnsCard : Claim7 := { stood := { row := journalReturnsRow, standIns := [], harness := (true, "43260021a0d7cee288651ca08a2f0d482400991b7f048a6354954cf3793be374"), looks := true }, kinds := [], alts := [], laidByText := true, laidKinds := [.data, .pinned], laidTests := true, laidLooks := .later }
def JournalReturnsCardSaid : Prop := Claim7.holds Tryz.pinned (.plain (OpenSpec.ofChange journalReturnsSpec)) journalReturnsCard

/-- THE SECOND FORM's CARD OF 'standbylaw14.JournalOpens'. -/
def journalOpensUptoCard : Claim7 := { stood := { row := journalOpensUptoRow, standIns := [], harness := (true, "43260021a0d7cee288651ca08a2f0d482400991b7f048a6354954cf3793be374"), looks := true }, kinds := [], alts := [], laidByText := true, laidKinds := [.data, .pinned], laidTests := true, laidLooks := .later }
def JournalOpensUptoCardSaid : Prop := Claim7.holds Tryz.pinned (.plain (OpenSpec.upto journalOpensSpec)) journalOpensUptoCard

/-- THE SECOND FORM's CARD OF 'standbylaw14.JournalRecovers'. -/
def journalRecoversUptoCard : Claim7 := { stood := { row := journalRecoversUptoRow, standIns := [], harness := (true, "43260021a0d7cee288651ca08a2f0d482400991b7f048a6354954cf3793be374"), looks := true }, kinds := [], alts := [], laidByText := true, laidKinds := [.data, .pinned], laidTests := true, laidLooks := .later }
def JournalRecoversUptoCardSaid : Prop := Claim7.holds Tryz.pinned (.plain (OpenSpec.upto journalRecoversSpec)) journalRecoversUptoCard

/-- THE SECOND FORM's CARD OF 'standbylaw14.JournalIgnores'. -/
def journalIgnoresUptoCard : Claim7 := { stood := { row := journalIgnoresUptoRow, standIns := [], harness := (true, "43260021a0d7cee288651ca08a2f0d482400991b7f048a6354954cf3793be374"), looks := true }, kinds := [], alts := [], laidByText := true, laidKinds := [.data, .pinned], laidTests := true, laidLooks := .later }
def JournalIgnoresUptoCardSaid : Prop := Claim7.holds Tryz.pinned (.plain (OpenSpec.upto journalIgnoresSpec)) journalIgnoresUptoCard

/-- THE SECOND FORM's CARD OF 'standbylaw14.JournalKeeps'. -/
def journalKeepsUptoCard : Claim7 := { stood := { row := journalKeepsUptoRow, standIns := [], harness := (true, "43260021a0d7cee288651ca08a2f0d482400991b7f048a6354954cf3793be374"), looks := true }, kinds := [], alts := [], laidByText := true, laidKinds := [.data, .pinned], laidTests := true, laidLooks := .later }
def JournalKeepsUptoCardSaid : Prop := Claim7.holds Tryz.pinned (.plain (OpenSpec.upto journalKeepsSpec)) journalKeepsUptoCard

/-- THE SECOND FORM's CARD OF 'standbylaw14.JournalReturns'. -/
def journalReturnsUptoCard : Claim7 := { stood := { row := journalReturnsUptoRow, standIns := [], harness := (true, "43260021a0d7cee288651ca08a2f0d482400991b7f048a6354954cf3793be374"), looks := true }, kinds := [], alts := [], laidByText := true, laidKinds := [.data, .pinned], laidTests := true, laidLooks := .later }
def JournalReturnsUptoCardSaid : Prop := Claim7.holds Tryz.pinned (.plain (OpenSpec.upto journalReturnsSpec)) journalReturnsUptoCard
end Rows
end Go.Proofs.YtmgoflhjblombaaGreatDoor
