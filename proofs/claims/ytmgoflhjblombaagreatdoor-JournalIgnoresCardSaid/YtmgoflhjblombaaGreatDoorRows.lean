/-
  NARROWER THAN 'FOR EVERY INPUT', by the rows' own cells (each row's printed sentence says how): JournalOpens: laid · JournalRecovers: laid · JournalIgnores: laid · JournalKeeps: laid · JournalReturns: laid.
  DERIVED. THE GIVEN ROWS OF THIS SEAT. 5 by the template 'for every input the law returns true; each argument reads behind the call as it read before'; 0 by the template 'total and deterministic' (their statements: YtmgoflhjblombaaGreatDoorTotals.lean).
  GIVEN WITH THE SEED: the statements are not yours to turn. If you find one false, say at which input.
  Laid BY PROGRAM, IN A SANDBOX (cutbox-rows.mjs): the forced cells as the released guide's own fill.sh prints them over the translation 843ec4674b38f940… (all of the seat's roots in one cut). By AI agents, Wed Nov 11 2026. No macro, syntax, notation, axiom, sorry.
-/
import Derived.Test.YtmgoflhjblombaaGreatDoorChecked
import GoSem.PinnedTables
import GoSem.Claim
import GoSem.ClaimJoined
import GoSem.ClaimMapViews
import Derived.JoinedTies
import Derived.KernelRfl
namespace Go.Proofs.YtmgoflhjblombaaGreatDoor
/- THE CELL 'sum', in the pinned program and in every row, IS THE sha256 OF THE DUMP (.gsa) THAT YtmgoflhjblombaaGreatDoorProg.lean LOADS. Nothing in Lean hashes anything: it is a label: what it is worth is what the hold of that sum in a sandbox is worth. -/
noncomputable def Tryz.pinned : Pinned := { name := "ytmgoflhjblombaagreatdoor", sum := "843ec4674b38f940612fd609403621f945faf105936c06da2d76fde5225fc098", checked := Tryz.checked }
namespace Rows
def none {H : Type} : Left H := { results := [], args := [] }

/- WHAT THE LISTED PACKAGE-LEVEL VARIABLES READ AS WHEN THE CALL BEGINS. Each datum BY PROGRAM (the guide's laid-datum.mjs) off the statement by which the dump's own 'gosem.cut.vars' lays the variable. In a bare row this is a premise. The card (YtmgoflhjblombaaGreatDoorCards.lean) ties it to the program's text. -/
def laid_unicode_utf8_acceptRanges {H : Type} : DataW H := .agg [.agg [.lit (.int .u8 128), .lit (.int .u8 191)], .agg [.lit (.int .u8 160), .lit (.int .u8 191)], .agg [.lit (.int .u8 128), .lit (.int .u8 159)], .agg [.lit (.int .u8 144), .lit (.int .u8 191)], .agg [.lit (.int .u8 128), .lit (.int .u8 143)], .agg [.lit (.int .u8 0), .lit (.int .u8 0)], .agg [.lit (.int .u8 0), .lit (.int .u8 0)], .agg [.lit (.int .u8 0), .lit (.int .u8 0)], .agg [.lit (.int .u8 0), .lit (.int .u8 0)], .agg [.lit (.int .u8 0), .lit (.int .u8 0)], .agg [.lit (.int .u8 0), .lit (.int .u8 0)], .agg [.lit (.int .u8 0), .lit (.int .u8 0)], .agg [.lit (.int .u8 0), .lit (.int .u8 0)], .agg [.lit (.int .u8 0), .lit (.int .u8 0)], .agg [.lit (.int .u8 0), .lit (.int .u8 0)], .agg [.lit (.int .u8 0), .lit (.int .u8 0)]]
/-- One of Go's own tables, pinned by name: the form's constant. -/
def laid_unicode_utf8_first : DataW Unit := Go.Pinned.utf8First

/-- 'standbylaw14.JournalOpens': WHATEVER THE INPUT: true; the input reads as it did. -/
def journalOpensSpec : ChangeSpec := { name := "journalOpens", fn := fun _ => fun
  | [d1, d2] => { results := [.lit (.bool true)], args := [d1, d2] }
  | _ => none }
def journalOpensRow : OpenClaim := { program := "ytmgoflhjblombaagreatdoor", sum := "843ec4674b38f940612fd609403621f945faf105936c06da2d76fde5225fc098", func := "standby/standbylaw14.JournalOpens", spec := "journalOpens", unfollowed := true, recurses := true, named := ["unicode/utf8.first", "unicode/utf8.acceptRanges"], apart := false, laid := [("unicode/utf8.acceptRanges", laid_unicode_utf8_acceptRanges), ("unicode/utf8.first", laid_unicode_utf8_first)] }
def JournalOpensSaid : Prop := journalOpensRow.holds Tryz.pinned (OpenSpec.ofChange journalOpensSpec)

/-- ITS FALSE NEIGHBOUR: 'it returns false'. Refute it at one input. -/
def journalOpensWrong : ChangeSpec := { name := "journalOpens", fn := fun _ => fun
  | [d1, d2] => { results := [.lit (.bool false)], args := [d1, d2] }
  | _ => none }
def JournalOpensWrongFalsely : Prop := journalOpensRow.holds Tryz.pinned (OpenSpec.ofChange journalOpensWrong)

/-- 'standbylaw14.JournalRecovers': WHATEVER THE INPUT: true; the input reads as it did. -/
def journalRecoversSpec : ChangeSpec := { name := "journalRecovers", fn := fun _ => fun
  | [d1, d2] => { results := [.lit (.bool true)], args := [d1, d2] }
  | _ => none }
def journalRecoversRow : OpenClaim := { program := "ytmgoflhjblombaagreatdoor", sum := "843ec4674b38f940612fd609403621f945faf105936c06da2d76fde5225fc098", func := "standby/standbylaw14.JournalRecovers", spec := "journalRecovers", unfollowed := true, recurses := true, named := ["unicode/utf8.first", "unicode/utf8.acceptRanges"], apart := false, laid := [("unicode/utf8.acceptRanges", laid_unicode_utf8_acceptRanges), ("unicode/utf8.first", laid_unicode_utf8_first)] }
def JournalRecoversSaid : Prop := journalRecoversRow.holds Tryz.pinned (OpenSpec.ofChange journalRecoversSpec)

/-- ITS FALSE NEIGHBOUR: 'it returns false'. Refute it at one input. -/
def journalRecoversWrong : ChangeSpec := { name := "journalRecovers", fn := fun _ => fun
  | [d1, d2] => { results := [.lit (.bool false)], args := [d1, d2] }
  | _ => none }
def JournalRecoversWrongFalsely : Prop := journalRecoversRow.holds Tryz.pinned (OpenSpec.ofChange journalRecoversWrong)

/-- 'standbylaw14.JournalIgnores': WHATEVER THE INPUT: true; the input reads as it did. -/
def journalIgnoresSpec : ChangeSpec := { name := "journalIgnores", fn := fun _ => fun
  | [d1, d2, d3] => { results := [.lit (.bool true)], args := [d1, d2, d3] }
  | _ => none }
def journalIgnoresRow : OpenClaim := { program := "ytmgoflhjblombaagreatdoor", sum := "843ec4674b38f940612fd609403621f945faf105936c06da2d76fde5225fc098", func := "standby/standbylaw14.JournalIgnores", spec := "journalIgnores", unfollowed := true, recurses := true, named := ["unicode/utf8.first", "unicode/utf8.acceptRanges"], apart := false, laid := [("unicode/utf8.acceptRanges", laid_unicode_utf8_acceptRanges), ("unicode/utf8.first", laid_unicode_utf8_first)] }
def JournalIgnoresSaid : Prop := journalIgnoresRow.holds Tryz.pinned (OpenSpec.ofChange journalIgnoresSpec)

/-- ITS FALSE NEIGHBOUR: 'it returns false'. Refute it at one input. -/
def journalIgnoresWrong : ChangeSpec := { name := "journalIgnores", fn := fun _ => fun
  | [d1, d2, d3] => { results := [.lit (.bool false)], args := [d1, d2, d3] }
  | _ => none }
def JournalIgnoresWrongFalsely : Prop := journalIgnoresRow.holds Tryz.pinned (OpenSpec.ofChange journalIgnoresWrong)

/-- 'standbylaw14.JournalKeeps': WHATEVER THE INPUT: true; the input reads as it did. -/
def journalKeepsSpec : ChangeSpec := { name := "journalKeeps", fn := fun _ => fun
  | [d1, d2] => { results := [.lit (.bool true)], args := [d1, d2] }
  | _ => none }
def journalKeepsRow : OpenClaim := { program := "ytmgoflhjblombaagreatdoor", sum := "843ec4674b38f940612fd609403621f945faf105936c06da2d76fde5225fc098", func := "standby/standbylaw14.JournalKeeps", spec := "journalKeeps", unfollowed := true, recurses := true, named := ["unicode/utf8.first", "unicode/utf8.acceptRanges"], apart := false, laid := [("unicode/utf8.acceptRanges", laid_unicode_utf8_acceptRanges), ("unicode/utf8.first", laid_unicode_utf8_first)] }
def JournalKeepsSaid : Prop := journalKeepsRow.holds Tryz.pinned (OpenSpec.ofChange journalKeepsSpec)

/-- ITS FALSE NEIGHBOUR: 'it returns false'. Refute it at one input. -/
def journalKeepsWrong : ChangeSpec := { name := "journalKeeps", fn := fun _ => fun
  | [d1, d2] => { results := [.lit (.bool false)], args := [d1, d2] }
  | _ => none }
def JournalKeepsWrongFalsely : Prop := journalKeepsRow.holds Tryz.pinned (OpenSpec.ofChange journalKeepsWrong)

/-- 'standbylaw14.JournalReturns': WHATEVER THE INPUT: true; the input reads as it did. -/
def journalReturnsSpec : ChangeSpec := { name := "journalReturns", fn := fun _ => fun
  | [d1, d2] => { results := [.lit (.bool true)], args := [d1, d2] }
  | _ => none }
def journalReturnsRow : OpenClaim := { program := "ytmgoflhjblombaagreatdoor", sum := "843ec4674b38f940612fd609403621f945faf105936c06da2d76fde5225fc098", func := "standby/standbylaw14.JournalReturns", spec := "journalReturns", unfollowed := true, recurses := true, named := ["unicode/utf8.first", "unicode/utf8.acceptRanges"], apart := false, laid := [("unicode/utf8.acceptRanges", laid_unicode_utf8_acceptRanges), ("unicode/utf8.first", laid_unicode_utf8_first)] }
def JournalReturnsSaid : Prop := journalReturnsRow.holds Tryz.pinned (OpenSpec.ofChange journalReturnsSpec)

/-- ITS FALSE NEIGHBOUR: 'it returns false'. Refute it at one input. -/
def journalReturnsWrong : ChangeSpec := { name := "journalReturns", fn := fun _ => fun
  | [d1, d2] => { results := [.lit (.bool false)], args := [d1, d2] }
  | _ => none }
def JournalReturnsWrongFalsely : Prop := journalReturnsRow.holds Tryz.pinned (OpenSpec.ofChange journalReturnsWrong)

/- THE SECOND FORM. 'bulk': how many values and letters a reading holds, each counted each time it is reached (what is shared counts as often as it is met; a slice's spare places count too). A statement '..UptoSaid' is the law's where the arguments, and the package variables that the reading takes, are together of bulk at most 1048576: NARROWER than '..Said'. Prove '..Said' where nothing that the law and all that it calls make is longer than what came in: it says more and counts as full. Else prove '..UptoSaid'. A law counts once. -/
mutual
def uptoBulk {H : Type} : DataW H → Nat
  | .lit (.string bytes) => bytes.length + 1
  | .lit _ => 1
  | .nil => 1
  | .ptr d => uptoBulk d + 1
  | .slice elems spare => uptoBulkAll elems + uptoBulkAll spare + 1
  | .agg parts => uptoBulkAll parts + 1
  | .iface _ d => uptoBulk d + 1
  | .map entries => uptoBulkEntries entries + 1
  | .held _ => 1
def uptoBulkAll {H : Type} : List (DataW H) → Nat
  | [] => 0
  | d :: r => uptoBulk d + uptoBulkAll r
def uptoBulkEntries {H : Type} : List (Lit × DataW H) → Nat
  | [] => 0
  | x :: r => uptoBulkEntry x + uptoBulkEntries r
def uptoBulkEntry {H : Type} : Lit × DataW H → Nat
  | (.string bytes, d) => bytes.length + uptoBulk d + 1
  | (_, d) => uptoBulk d + 1
 end
def uptoSmall : (H : Type) → List (DataW H) → Bool := fun _ ds => decide (uptoBulkAll ds ≤ 1048576)
def OpenSpec.upto (s : _root_.Go.ChangeSpec) : _root_.Go.OpenSpec := { _root_.Go.OpenSpec.ofChange s with cond := some uptoSmall }

/-- 'standbylaw14.JournalOpens', WHERE WHAT IT READS IS OF BULK AT MOST 1048576: true; the input reads as it did. -/
def journalOpensUptoRow : OpenClaim := { program := "ytmgoflhjblombaagreatdoor", sum := "843ec4674b38f940612fd609403621f945faf105936c06da2d76fde5225fc098", func := "standby/standbylaw14.JournalOpens", spec := "journalOpens", unfollowed := true, recurses := true, named := ["unicode/utf8.first", "unicode/utf8.acceptRanges"], apart := false, laid := [("unicode/utf8.acceptRanges", laid_unicode_utf8_acceptRanges), ("unicode/utf8.first", laid_unicode_utf8_first)], narrowed := true }
def JournalOpensUptoSaid : Prop := journalOpensUptoRow.holds Tryz.pinned (OpenSpec.upto journalOpensSpec)

/-- 'standbylaw14.JournalRecovers', WHERE WHAT IT READS IS OF BULK AT MOST 1048576: true; the input reads as it did. -/
def journalRecoversUptoRow : OpenClaim := { program := "ytmgoflhjblombaagreatdoor", sum := "843ec4674b38f940612fd609403621f945faf105936c06da2d76fde5225fc098", func := "standby/standbylaw14.JournalRecovers", spec := "journalRecovers", unfollowed := true, recurses := true, named := ["unicode/utf8.first", "unicode/utf8.acceptRanges"], apart := false, laid := [("unicode/utf8.acceptRanges", laid_unicode_utf8_acceptRanges), ("unicode/utf8.first", laid_unicode_utf8_first)], narrowed := true }
def JournalRecoversUptoSaid : Prop := journalRecoversUptoRow.holds Tryz.pinned (OpenSpec.upto journalRecoversSpec)

/-- 'standbylaw14.JournalIgnores', WHERE WHAT IT READS IS OF BULK AT MOST 1048576: true; the input reads as it did. -/
def journalIgnoresUptoRow : OpenClaim := { program := "ytmgoflhjblombaagreatdoor", sum := "843ec4674b38f940612fd609403621f945faf105936c06da2d76fde5225fc098", func := "standby/standbylaw14.JournalIgnores", spec := "journalIgnores", unfollowed := true, recurses := true, named := ["unicode/utf8.first", "unicode/utf8.acceptRanges"], apart := false, laid := [("unicode/utf8.acceptRanges", laid_unicode_utf8_acceptRanges), ("unicode/utf8.first", laid_unicode_utf8_first)], narrowed := true }
def JournalIgnoresUptoSaid : Prop := journalIgnoresUptoRow.holds Tryz.pinned (OpenSpec.upto journalIgnoresSpec)

/-- 'standbylaw14.JournalKeeps', WHERE WHAT IT READS IS OF BULK AT MOST 1048576: true; the input reads as it did. -/
def journalKeepsUptoRow : OpenClaim := { program := "ytmgoflhjblombaagreatdoor", sum := "843ec4674b38f940612fd609403621f945faf105936c06da2d76fde5225fc098", func := "standby/standbylaw14.JournalKeeps", spec := "journalKeeps", unfollowed := true, recurses := true, named := ["unicode/utf8.first", "unicode/utf8.acceptRanges"], apart := false, laid := [("unicode/utf8.acceptRanges", laid_unicode_utf8_acceptRanges), ("unicode/utf8.first", laid_unicode_utf8_first)], narrowed := true }
def JournalKeepsUptoSaid : Prop := journalKeepsUptoRow.holds Tryz.pinned (OpenSpec.upto journalKeepsSpec)

/-- 'standbylaw14.JournalReturns', WHERE WHAT IT READS IS OF BULK AT MOST 1048576: true; the input reads as it did. -/
def journalReturnsUptoRow : OpenClaim := { program := "ytmgoflhjblombaagreatdoor", sum := "843ec4674b38f940612fd609403621f945faf105936c06da2d76fde5225fc098", func := "standby/standbylaw14.JournalReturns", spec := "journalReturns", unfollowed := true, recurses := true, named := ["unicode/utf8.first", "unicode/utf8.acceptRanges"], apart := false, laid := [("unicode/utf8.acceptRanges", laid_unicode_utf8_acceptRanges), ("unicode/utf8.first", laid_unicode_utf8_first)], narrowed := true }
def JournalReturnsUptoSaid : Prop := journalReturnsUptoRow.holds Tryz.pinned (OpenSpec.upto journalReturnsSpec)

end Rows
end Go.Proofs.YtmgoflhjblombaaGreatDoor
