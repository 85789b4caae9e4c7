/-
  DERIVED. GIVEN WITH THE SEED: THE CARDS: each row of YtdiblbjchhjccaaDoorRows.lean that lists a variable, with what it lists TIED to the program's text (the seventh form; the later family's looks); each row that meets fmt, with fmt's text TOLD by the authors' own Lean function (tested against real Go, not proved from fmt's source: count such statements apart). THE CARD IS WHAT COUNTS. Prove the row's statement (the work); the ties are given (YtdiblbjchhjccaaDoorTie.lean); close each card by the builder's one call (the guide's Derived/Test/ToyasCard.lean, 'card_holds'). Laid BY PROGRAM, IN A SANDBOX (cutbox-door.mjs). By AI agents, Wed Nov 11 2026. No macro, syntax, notation, axiom, sorry.
-/
import Derived.Test.YtdiblbjchhjccaaDoorRows
import GoSem.ClaimSeven
namespace Go.Proofs.YtdiblbjchhjccaaDoor
namespace Rows

/-- THE TIED CARD OF 'standbylaw12.SuperblockFormats'. -/
def superblockFormatsCard : Claim7 := { stood := { row := superblockFormatsRow, standIns := [], harness := (true, "3a31e29a8a103315c78a4a60b4ee9778962c967c851e5ef7c6b335867e0e86a8"), looks := false }, kinds := [], alts := [], laidByText := true, laidKinds := [.data, .pinned], laidTests := true, laidLooks := .later }
def SuperblockFormatsCardSaid : Prop := Claim7.holds Tryd.pinned (.plain (OpenSpec.ofChange superblockFormatsSpec)) superblockFormatsCard

/-- THE TIED CARD OF 'standbylaw12.SuperblockLoads'. -/
def superblockLoadsCard : Claim7 := { stood := { row := superblockLoadsRow, standIns := [], harness := (true, "3a31e29a8a103315c78a4a60b4ee9778962c967c851e5ef7c6b335867e0e86a8"), looks := false }, kinds := [], alts := [], laidByText := true, laidKinds := [.data, .pinned], laidTests := true, laidLooks := .later }
def SuperblockLoadsCardSaid : Prop := Claim7.holds Tryd.pinned (.plain (OpenSpec.ofChange superblockLoadsSpec)) superblockLoadsCard

/-- THE TIED CARD OF 'standbylaw12.SuperblockStores'. -/
def superblockStoresCard : Claim7 := { stood := { row := superblockStoresRow, standIns := [], harness := (true, "3a31e29a8a103315c78a4a60b4ee9778962c967c851e5ef7c6b335867e0e86a8"), looks := false }, kinds := [], alts := [], laidByText := true, laidKinds := [.data, .pinned], laidTests := true, laidLooks := .later }
def SuperblockStoresCardSaid : Prop := Claim7.holds Tryd.pinned (.plain (OpenSpec.ofChange superblockStoresSpec)) superblockStoresCard

/-- THE TIED CARD OF 'standbylaw12.SuperblockInterrupts'. -/
def superblockInterruptsCard : Claim7 := { stood := { row := superblockInterruptsRow, standIns := [], harness := (true, "3a31e29a8a103315c78a4a60b4ee9778962c967c851e5ef7c6b335867e0e86a8"), looks := false }, kinds := [], alts := [], laidByText := true, laidKinds := [.data, .pinned], laidTests := true, laidLooks := .later }
def SuperblockInterruptsCardSaid : Prop := Claim7.holds Tryd.pinned (.plain (OpenSpec.ofChange superblockInterruptsSpec)) superblockInterruptsCard

/-- THE TIED CARD OF 'standbylaw12.SuperblockGrows'. -/
def superblockGrowsCard : Claim7 := { stood := { row := superblockGrowsRow, standIns := [], harness := (true, "3a31e29a8a103315c78a4a60b4ee9778962c967c851e5ef7c6b335867e0e86a8"), looks := false }, kinds := [], alts := [], laidByText := true, laidKinds := [.data, .pinned], laidTests := true, laidLooks := .later }
def SuperblockGrowsCardSaid : Prop := Claim7.holds Tryd.pinned (.plain (OpenSpec.ofChange superblockGrowsSpec)) superblockGrowsCard

/-- THE TIED CARD OF 'standbylaw12.SuperblockKeeps'. -/
def superblockKeepsCard : Claim7 := { stood := { row := superblockKeepsRow, standIns := [], harness := (true, "3a31e29a8a103315c78a4a60b4ee9778962c967c851e5ef7c6b335867e0e86a8"), looks := false }, kinds := [], alts := [], laidByText := true, laidKinds := [.data, .pinned], laidTests := true, laidLooks := .later }
def SuperblockKeepsCardSaid : Prop := Claim7.holds Tryd.pinned (.plain (OpenSpec.ofChange superblockKeepsSpec)) superblockKeepsCard

/-- THE TIED CARD OF 'standbylaw12.SuperblockBegins'. -/
def superblockBeginsCard : Claim7 := { stood := { row := superblockBeginsRow, standIns := [], harness := (true, "3a31e29a8a103315c78a4a60b4ee9778962c967c851e5ef7c6b335867e0e86a8"), looks := false }, kinds := [], alts := [], laidByText := true, laidKinds := [.data, .pinned], laidTests := true, laidLooks := .later }
def SuperblockBeginsCardSaid : Prop := Claim7.holds Tryd.pinned (.plain (OpenSpec.ofChange superblockBeginsSpec)) superblockBeginsCard

/-- THE SECOND FORM's CARD OF 'standbylaw12.SuperblockFormats'. -/
def superblockFormatsUptoCard : Claim7 := { stood := { row := superblockFormatsUptoRow, standIns := [], harness := (true, "3a31e29a8a103315c78a4a60b4ee9778962c967c851e5ef7c6b335867e0e86a8"), looks := false }, kinds := [], alts := [], laidByText := true, laidKinds := [.data, .pinned], laidTests := true, laidLooks := .later }
def SuperblockFormatsUptoCardSaid : Prop := Claim7.holds Tryd.pinned (.plain (OpenSpec.upto superblockFormatsSpec)) superblockFormatsUptoCard

/-- THE SECOND FORM's CARD OF 'standbylaw12.SuperblockLoads'. -/
def superblockLoadsUptoCard : Claim7 := { stood := { row := superblockLoadsUptoRow, standIns := [], harness := (true, "3a31e29a8a103315c78a4a60b4ee9778962c967c851e5ef7c6b335867e0e86a8"), looks := false }, kinds := [], alts := [], laidByText := true, laidKinds := [.data, .pinned], laidTests := true, laidLooks := .later }
def SuperblockLoadsUptoCardSaid : Prop := Claim7.holds Tryd.pinned (.plain (OpenSpec.upto superblockLoadsSpec)) superblockLoadsUptoCard

/-- THE SECOND FORM's CARD OF 'standbylaw12.SuperblockStores'. -/
def superblockStoresUptoCard : Claim7 := { stood := { row := superblockStoresUptoRow, standIns := [], harness := (true, "3a31e29a8a103315c78a4a60b4ee9778962c967c851e5ef7c6b335867e0e86a8"), looks := false }, kinds := [], alts := [], laidByText := true, laidKinds := [.data, .pinned], laidTests := true, laidLooks := .later }
def SuperblockStoresUptoCardSaid : Prop := Claim7.holds Tryd.pinned (.plain (OpenSpec.upto superblockStoresSpec)) superblockStoresUptoCard

/-- THE SECOND FORM's CARD OF 'standbylaw12.SuperblockInterrupts'. -/
def superblockInterruptsUptoCard : Claim7 := { stood := { row := superblockInterruptsUptoRow, standIns := [], harness := (true, "3a31e29a8a103315c78a4a60b4ee9778962c967c851e5ef7c6b335867e0e86a8"), looks := false }, kinds := [], alts := [], laidByText := true, laidKinds := [.data, .pinned], laidTests := true, laidLooks := .later }
def SuperblockInterruptsUptoCardSaid : Prop := Claim7.holds Tryd.pinned (.plain (OpenSpec.upto superblockInterruptsSpec)) superblockInterruptsUptoCard

/-- THE SECOND FORM's CARD OF 'standbylaw12.SuperblockGrows'. -/
def superblockGrowsUptoCard : Claim7 := { stood := { row := superblockGrowsUptoRow, standIns := [], harness := (true, "3a31e29a8a103315c78a4a60b4ee9778962c967c851e5ef7c6b335867e0e86a8"), looks := false }, kinds := [], alts := [], laidByText := true, laidKinds := [.data, .pinned], laidTests := true, laidLooks := .later }
def SuperblockGrowsUptoCardSaid : Prop := Claim7.holds Tryd.pinned (.plain (OpenSpec.upto superblockGrowsSpec)) superblockGrowsUptoCard

/-- THE SECOND FORM's CARD OF 'standbylaw12.SuperblockKeeps'. -/
def superblockKeepsUptoCard : Claim7 := { stood := { row := superblockKeepsUptoRow, standIns := [], harness := (true, "3a31e29a8a103315c78a4a60b4ee9778962c967c851e5ef7c6b335867e0e86a8"), looks := false }, kinds := [], alts := [], laidByText := true, laidKinds := [.data, .pinned], laidTests := true, laidLooks := .later }
def SuperblockKeepsUptoCardSaid : Prop := Claim7.holds Tryd.pinned (.plain (OpenSpec.upto superblockKeepsSpec)) superblockKeepsUptoCard

/-- THE SECOND FORM's CARD OF 'standbylaw12.SuperblockBegins'. -/
def superblockBeginsUptoCard : Claim7 := { stood := { row := superblockBeginsUptoRow, standIns := [], harness := (true, "3a31e29a8a103315c78a4a60b4ee9778962c967c851e5ef7c6b335867e0e86a8"), looks := false }, kinds := [], alts := [], laidByText := true, laidKinds := [.data, .pinned], laidTests := true, laidLooks := .later }
def SuperblockBeginsUptoCardSaid : Prop := Claim7.holds Tryd.pinned (.plain (OpenSpec.upto superblockBeginsSpec)) superblockBeginsUptoCard
end Rows
end Go.Proofs.YtdiblbjchhjccaaDoor
