/-
  DERIVED. GIVEN WITH THE SEED: THE CARDS: each row of YtbnkggbpocaaiaaGreatDoorRows.lean that lists a variable, with what it lists TIED to the program's text (the seventh form; the later family's looks); each row that meets fmt, with fmt's text TOLD by the authors' own Lean function (tested against real Go, not proved from fmt's source: count such statements apart). THE CARD IS WHAT COUNTS. Prove the row's statement (the work); the ties are given (YtbnkggbpocaaiaaGreatDoorTie.lean); close each card by the builder's one call (the guide's Derived/Test/ToyasCard.lean, 'card_holds'). Laid BY PROGRAM, IN A SANDBOX (cutbox-door.mjs). By AI agents, Wed Nov 11 2026. No macro, syntax, notation, axiom, sorry.
-/
import Derived.Test.YtbnkggbpocaaiaaGreatDoorRows
import GoSem.ClaimSeven
namespace Go.Proofs.YtbnkggbpocaaiaaGreatDoor
namespace Rows

/-- THE TIED CARD OF 'standbylaw19.VolumeFormats'. -/
def volumeFormatsCard : Claim7 := { stood := { row := volumeFormatsRow, standIns := [], harness := (true, "d2948610f4875987482a62628e10353ad89043d2b85c8f515f1d376e99899e2e"), looks := true }, kinds := [], alts := [], laidByText := true, laidKinds := [.data, .pinned], laidTests := true, laidLooks := .later }
def VolumeFormatsCardSaid : Prop := Claim7.holds Tryz.pinned (.plain (OpenSpec.ofChange volumeFormatsSpec)) volumeFormatsCard

/-- THE TIED CARD OF 'standbylaw19.VolumeWrites'. -/
def volumeWritesCard : Claim7 := { stood := { row := volumeWritesRow, standIns := [], harness := (true, "d2948610f4875987482a62628e10353ad89043d2b85c8f515f1d376e99899e2e"), looks := true }, kinds := [], alts := [], laidByText := true, laidKinds := [.data, .pinned], laidTests := true, laidLooks := .later }
def VolumeWritesCardSaid : Prop := Claim7.holds Tryz.pinned (.plain (OpenSpec.ofChange volumeWritesSpec)) volumeWritesCard

/-- THE TIED CARD OF 'standbylaw19.VolumeFrees'. -/
def volumeFreesCard : Claim7 := { stood := { row := volumeFreesRow, standIns := [], harness := (true, "d2948610f4875987482a62628e10353ad89043d2b85c8f515f1d376e99899e2e"), looks := true }, kinds := [], alts := [], laidByText := true, laidKinds := [.data, .pinned], laidTests := true, laidLooks := .later }
def VolumeFreesCardSaid : Prop := Claim7.holds Tryz.pinned (.plain (OpenSpec.ofChange volumeFreesSpec)) volumeFreesCard

/-- THE TIED CARD OF 'standbylaw19.VolumeFlushes'. -/
def volumeFlushesCard : Claim7 := { stood := { row := volumeFlushesRow, standIns := [], harness := (true, "d2948610f4875987482a62628e10353ad89043d2b85c8f515f1d376e99899e2e"), looks := true }, kinds := [], alts := [], laidByText := true, laidKinds := [.data, .pinned], laidTests := true, laidLooks := .later }
def VolumeFlushesCardSaid : Prop := Claim7.holds Tryz.pinned (.plain (OpenSpec.ofChange volumeFlushesSpec)) volumeFlushesCard

/-- THE TIED CARD OF 'standbylaw19.VolumeReads'. -/
def volumeReadsCard : Claim7 := { stood := { row := volumeReadsRow, standIns := [], harness := (true, "d2948610f4875987482a62628e10353ad89043d2b85c8f515f1d376e99899e2e"), looks := true }, kinds := [], alts := [], laidByText := true, laidKinds := [.data, .pinned], laidTests := true, laidLooks := .later }
def VolumeReadsCardSaid : Prop := Claim7.holds Tryz.pinned (.plain (OpenSpec.ofChange volumeReadsSpec)) volumeReadsCard

/-- THE TIED CARD OF 'standbylaw19.VolumeOpens'. -/
def volumeOpensCard : Claim7 := { stood := { row := volumeOpensRow, standIns := [], harness := (true, "d2948610f4875987482a62628e10353ad89043d2b85c8f515f1d376e99899e2e"), looks := true }, kinds := [], alts := [], laidByText := true, laidKinds := [.data, .pinned], laidTests := true, laidLooks := .later }
def VolumeOpensCardSaid : Prop := Claim7.holds Tryz.pinned (.plain (OpenSpec.ofChange volumeOpensSpec)) volumeOpensCard

/-- THE TIED CARD OF 'standbylaw19.VolumeReopens'. -/
def volumeReopensCard : Claim7 := { stood := { row := volumeReopensRow, standIns := [], harness := (true, "d2948610f4875987482a62628e10353ad89043d2b85c8f515f1d376e99899e2e"), looks := true }, kinds := [], alts := [], laidByText := true, laidKinds := [.data, .pinned], laidTests := true, laidLooks := .later }
def VolumeReopensCardSaid : Prop := Claim7.holds Tryz.pinned (.plain (OpenSpec.ofChange volumeReopensSpec)) volumeReopensCard

/-- THE TIED CARD OF 'standbylaw19.VolumeRecovers'. -/
def volumeRecoversCard : Claim7 := { stood := { row := volumeRecoversRow, standIns := [], harness := (true, "d2948610f4875987482a62628e10353ad89043d2b85c8f515f1d376e99899e2e"), looks := true }, kinds := [], alts := [], laidByText := true, laidKinds := [.data, .pinned], laidTests := true, laidLooks := .later }
def VolumeRecoversCardSaid : Prop := Claim7.holds Tryz.pinned (.plain (OpenSpec.ofChange volumeRecoversSpec)) volumeRecoversCard

/-- THE SECOND FORM's CARD OF 'standbylaw19.VolumeFormats'. -/
def volumeFormatsUptoCard : Claim7 := { stood := { row := volumeFormatsUptoRow, standIns := [], harness := (true, "d2948610f4875987482a62628e10353ad89043d2b85c8f515f1d376e99899e2e"), looks := true }, kinds := [], alts := [], laidByText := true, laidKinds := [.data, .pinned], laidTests := true, laidLooks := .later }
def VolumeFormatsUptoCardSaid : Prop := Claim7.holds Tryz.pinned (.plain (OpenSpec.upto volumeFormatsSpec)) volumeFormatsUptoCard

/-- THE SECOND FORM's CARD OF 'standbylaw19.VolumeWrites'. -/
def volumeWritesUptoCard : Claim7 := { stood := { row := volumeWritesUptoRow, standIns := [], harness := (true, "d2948610f4875987482a62628e10353ad89043d2b85c8f515f1d376e99899e2e"), looks := true }, kinds := [], alts := [], laidByText := true, laidKinds := [.data, .pinned], laidTests := true, laidLooks := .later }
def VolumeWritesUptoCardSaid : Prop := Claim7.holds Tryz.pinned (.plain (OpenSpec.upto volumeWritesSpec)) volumeWritesUptoCard

/-- THE SECOND FORM's CARD OF 'standbylaw19.VolumeFrees'. -/
def volumeFreesUptoCard : Claim7 := { stood := { row := volumeFreesUptoRow, standIns := [], harness := (true, "d2948610f4875987482a62628e10353ad89043d2b85c8f515f1d376e99899e2e"), looks := true }, kinds := [], alts := [], laidByText := true, laidKinds := [.data, .pinned], laidTests := true, laidLooks := .later }
def VolumeFreesUptoCardSaid : Prop := Claim7.holds Tryz.pinned (.plain (OpenSpec.upto volumeFreesSpec)) volumeFreesUptoCard

/-- THE SECOND FORM's CARD OF 'standbylaw19.VolumeFlushes'. -/
def volumeFlushesUptoCard : Claim7 := { stood := { row := volumeFlushesUptoRow, standIns := [], harness := (true, "d2948610f4875987482a62628e10353ad89043d2b85c8f515f1d376e99899e2e"), looks := true }, kinds := [], alts := [], laidByText := true, laidKinds := [.data, .pinned], laidTests := true, laidLooks := .later }
def VolumeFlushesUptoCardSaid : Prop := Claim7.holds Tryz.pinned (.plain (OpenSpec.upto volumeFlushesSpec)) volumeFlushesUptoCard

/-- THE SECOND FORM's CARD OF 'standbylaw19.VolumeReads'. -/
def volumeReadsUptoCard : Claim7 := { stood := { row := volumeReadsUptoRow, standIns := [], harness := (true, "d2948610f4875987482a62628e10353ad89043d2b85c8f515f1d376e99899e2e"), looks := true }, kinds := [], alts := [], laidByText := true, laidKinds := [.data, .pinned], laidTests := true, laidLooks := .later }
def VolumeReadsUptoCardSaid : Prop := Claim7.holds Tryz.pinned (.plain (OpenSpec.upto volumeReadsSpec)) volumeReadsUptoCard

/-- THE SECOND FORM's CARD OF 'standbylaw19.VolumeOpens'. -/
def volumeOpensUptoCard : Claim7 := { stood := { row := volumeOpensUptoRow, standIns := [], harness := (true, "d2948610f4875987482a62628e10353ad89043d2b85c8f515f1d376e99899e2e"), looks := true }, kinds := [], alts := [], laidByText := true, laidKinds := [.data, .pinned], laidTests := true, laidLooks := .later }
def VolumeOpensUptoCardSaid : Prop := Claim7.holds Tryz.pinned (.plain (OpenSpec.upto volumeOpensSpec)) volumeOpensUptoCard

/-- THE SECOND FORM's CARD OF 'standbylaw19.VolumeReopens'. -/
def volumeReopensUptoCard : Claim7 := { stood := { row := volumeReopensUptoRow, standIns := [], harness := (true, "d2948610f4875987482a62628e10353ad89043d2b85c8f515f1d376e99899e2e"), looks := true }, kinds := [], alts := [], laidByText := true, laidKinds := [.data, .pinned], laidTests := true, laidLooks := .later }
def VolumeReopensUptoCardSaid : Prop := Claim7.holds Tryz.pinned (.plain (OpenSpec.upto volumeReopensSpec)) volumeReopensUptoCard

/-- THE SECOND FORM's CARD OF 'standbylaw19.VolumeRecovers'. -/
def volumeRecoversUptoCard : Claim7 := { stood := { row := volumeRecoversUptoRow, standIns := [], harness := (true, "d2948610f4875987482a62628e10353ad89043d2b85c8f515f1d376e99899e2e"), looks := true }, kinds := [], alts := [], laidByText := true, laidKinds := [.data, .pinned], laidTests := true, laidLooks := .later }
def VolumeRecoversUptoCardSaid : Prop := Claim7.holds Tryz.pinned (.plain (OpenSpec.upto volumeRecoversSpec)) volumeRecoversUptoCard
end Rows
end Go.Proofs.YtbnkggbpocaaiaaGreatDoor
