/-
  NARROWER THAN 'FOR EVERY INPUT', by the rows' own cells (each row's printed sentence says how): VolumeFormats: laid · VolumeWrites: laid · VolumeFrees: laid · VolumeFlushes: laid · VolumeReads: laid · VolumeOpens: laid · VolumeReopens: laid · VolumeRecovers: laid.
  DERIVED. THE GIVEN ROWS OF THIS SEAT. 8 by the template 'for every input the law returns true; each argument reads behind the call as it read before'; 0 by the template 'total and deterministic' (their statements: YtbnkggbpocaaiaaGreatDoorTotals.lean).
  GIVEN WITH THE SEED: the statements are not yours to turn. If you find one false, say at which input.
  Laid BY PROGRAM, IN A SANDBOX (cutbox-rows.mjs): the forced cells as the released guide's own fill.sh prints them over the translation c25726e18abcb460… (all of the seat's roots in one cut). By AI agents, Wed Nov 11 2026. No macro, syntax, notation, axiom, sorry.
-/
import Derived.Test.YtbnkggbpocaaiaaGreatDoorChecked
import GoSem.PinnedTables
import GoSem.Claim
import GoSem.ClaimJoined
import GoSem.ClaimMapViews
import Derived.JoinedTies
import Derived.KernelRfl
namespace Go.Proofs.YtbnkggbpocaaiaaGreatDoor
/- THE CELL 'sum', in the pinned program and in every row, IS THE sha256 OF THE DUMP (.gsa) THAT YtbnkggbpocaaiaaGreatDoorProg.lean LOADS. Nothing in Lean hashes anything: it is a label: what it is worth is what the hold of that sum in a sandbox is worth. -/
noncomputable def Tryz.pinned : Pinned := { name := "ytbnkggbpocaaiaagreatdoor", sum := "c25726e18abcb4600f7aeae0098643316d766480d755dec0b58dc6e0c1264f37", checked := Tryz.checked }
namespace Rows
def none {H : Type} : Left H := { results := [], args := [] }

/- WHAT THE LISTED PACKAGE-LEVEL VARIABLES READ AS WHEN THE CALL BEGINS. Each datum BY PROGRAM (the guide's laid-datum.mjs) off the statement by which the dump's own 'gosem.cut.vars' lays the variable. In a bare row this is a premise. The card (YtbnkggbpocaaiaaGreatDoorCards.lean) ties it to the program's text. -/
def laid_unicode_utf8_acceptRanges {H : Type} : DataW H := .agg [.agg [.lit (.int .u8 128), .lit (.int .u8 191)], .agg [.lit (.int .u8 160), .lit (.int .u8 191)], .agg [.lit (.int .u8 128), .lit (.int .u8 159)], .agg [.lit (.int .u8 144), .lit (.int .u8 191)], .agg [.lit (.int .u8 128), .lit (.int .u8 143)], .agg [.lit (.int .u8 0), .lit (.int .u8 0)], .agg [.lit (.int .u8 0), .lit (.int .u8 0)], .agg [.lit (.int .u8 0), .lit (.int .u8 0)], .agg [.lit (.int .u8 0), .lit (.int .u8 0)], .agg [.lit (.int .u8 0), .lit (.int .u8 0)], .agg [.lit (.int .u8 0), .lit (.int .u8 0)], .agg [.lit (.int .u8 0), .lit (.int .u8 0)], .agg [.lit (.int .u8 0), .lit (.int .u8 0)], .agg [.lit (.int .u8 0), .lit (.int .u8 0)], .agg [.lit (.int .u8 0), .lit (.int .u8 0)], .agg [.lit (.int .u8 0), .lit (.int .u8 0)]]
/-- One of Go's own tables, pinned by name: the form's constant. -/
def laid_unicode_utf8_first : DataW Unit := Go.Pinned.utf8First

/-- 'standbylaw19.VolumeFormats': WHATEVER THE INPUT: true; the input reads as it did. -/
def volumeFormatsSpec : ChangeSpec := { name := "volumeFormats", fn := fun _ => fun
  | [d1, d2] => { results := [.lit (.bool true)], args := [d1, d2] }
  | _ => none }
def volumeFormatsRow : OpenClaim := { program := "ytbnkggbpocaaiaagreatdoor", sum := "c25726e18abcb4600f7aeae0098643316d766480d755dec0b58dc6e0c1264f37", func := "standby/standbylaw19.VolumeFormats", spec := "volumeFormats", unfollowed := true, recurses := true, named := ["unicode/utf8.first", "unicode/utf8.acceptRanges"], apart := false, laid := [("unicode/utf8.acceptRanges", laid_unicode_utf8_acceptRanges), ("unicode/utf8.first", laid_unicode_utf8_first)] }
def VolumeFormatsSaid : Prop := volumeFormatsRow.holds Tryz.pinned (OpenSpec.ofChange volumeFormatsSpec)

/-- ITS FALSE NEIGHBOUR: 'it returns false'. Refute it at one input. -/
def volumeFormatsWrong : ChangeSpec := { name := "volumeFormats", fn := fun _ => fun
  | [d1, d2] => { results := [.lit (.bool false)], args := [d1, d2] }
  | _ => none }
def VolumeFormatsWrongFalsely : Prop := volumeFormatsRow.holds Tryz.pinned (OpenSpec.ofChange volumeFormatsWrong)

/-- 'standbylaw19.VolumeWrites': WHATEVER THE INPUT: true; the input reads as it did. -/
def volumeWritesSpec : ChangeSpec := { name := "volumeWrites", fn := fun _ => fun
  | [d1, d2] => { results := [.lit (.bool true)], args := [d1, d2] }
  | _ => none }
def volumeWritesRow : OpenClaim := { program := "ytbnkggbpocaaiaagreatdoor", sum := "c25726e18abcb4600f7aeae0098643316d766480d755dec0b58dc6e0c1264f37", func := "standby/standbylaw19.VolumeWrites", spec := "volumeWrites", unfollowed := true, recurses := true, named := ["unicode/utf8.first", "unicode/utf8.acceptRanges"], apart := false, laid := [("unicode/utf8.acceptRanges", laid_unicode_utf8_acceptRanges), ("unicode/utf8.first", laid_unicode_utf8_first)] }
def VolumeWritesSaid : Prop := volumeWritesRow.holds Tryz.pinned (OpenSpec.ofChange volumeWritesSpec)

/-- ITS FALSE NEIGHBOUR: 'it returns false'. Refute it at one input. -/
def volumeWritesWrong : ChangeSpec := { name := "volumeWrites", fn := fun _ => fun
  | [d1, d2] => { results := [.lit (.bool false)], args := [d1, d2] }
  | _ => none }
def VolumeWritesWrongFalsely : Prop := volumeWritesRow.holds Tryz.pinned (OpenSpec.ofChange volumeWritesWrong)

/-- 'standbylaw19.VolumeFrees': WHATEVER THE INPUT: true; the input reads as it did. -/
def volumeFreesSpec : ChangeSpec := { name := "volumeFrees", fn := fun _ => fun
  | [d] => { results := [.lit (.bool true)], args := [d] }
  | _ => none }
def volumeFreesRow : OpenClaim := { program := "ytbnkggbpocaaiaagreatdoor", sum := "c25726e18abcb4600f7aeae0098643316d766480d755dec0b58dc6e0c1264f37", func := "standby/standbylaw19.VolumeFrees", spec := "volumeFrees", unfollowed := true, recurses := true, named := ["unicode/utf8.first", "unicode/utf8.acceptRanges"], apart := false, laid := [("unicode/utf8.acceptRanges", laid_unicode_utf8_acceptRanges), ("unicode/utf8.first", laid_unicode_utf8_first)] }
def VolumeFreesSaid : Prop := volumeFreesRow.holds Tryz.pinned (OpenSpec.ofChange volumeFreesSpec)

/-- ITS FALSE NEIGHBOUR: 'it returns false'. Refute it at one input. -/
def volumeFreesWrong : ChangeSpec := { name := "volumeFrees", fn := fun _ => fun
  | [d] => { results := [.lit (.bool false)], args := [d] }
  | _ => none }
def VolumeFreesWrongFalsely : Prop := volumeFreesRow.holds Tryz.pinned (OpenSpec.ofChange volumeFreesWrong)

/-- 'standbylaw19.VolumeFlushes': WHATEVER THE INPUT: true; the input reads as it did. -/
def volumeFlushesSpec : ChangeSpec := { name := "volumeFlushes", fn := fun _ => fun
  | [d1, d2, d3] => { results := [.lit (.bool true)], args := [d1, d2, d3] }
  | _ => none }
def volumeFlushesRow : OpenClaim := { program := "ytbnkggbpocaaiaagreatdoor", sum := "c25726e18abcb4600f7aeae0098643316d766480d755dec0b58dc6e0c1264f37", func := "standby/standbylaw19.VolumeFlushes", spec := "volumeFlushes", unfollowed := true, recurses := true, named := ["unicode/utf8.first", "unicode/utf8.acceptRanges"], apart := false, laid := [("unicode/utf8.acceptRanges", laid_unicode_utf8_acceptRanges), ("unicode/utf8.first", laid_unicode_utf8_first)] }
def VolumeFlushesSaid : Prop := volumeFlushesRow.holds Tryz.pinned (OpenSpec.ofChange volumeFlushesSpec)

/-- ITS FALSE NEIGHBOUR: 'it returns false'. Refute it at one input. -/
def volumeFlushesWrong : ChangeSpec := { name := "volumeFlushes", fn := fun _ => fun
  | [d1, d2, d3] => { results := [.lit (.bool false)], args := [d1, d2, d3] }
  | _ => none }
def VolumeFlushesWrongFalsely : Prop := volumeFlushesRow.holds Tryz.pinned (OpenSpec.ofChange volumeFlushesWrong)

/-- 'standbylaw19.VolumeReads': WHATEVER THE INPUT: true; the input reads as it did. -/
def volumeReadsSpec : ChangeSpec := { name := "volumeReads", fn := fun _ => fun
  | [d1, d2, d3] => { results := [.lit (.bool true)], args := [d1, d2, d3] }
  | _ => none }
def volumeReadsRow : OpenClaim := { program := "ytbnkggbpocaaiaagreatdoor", sum := "c25726e18abcb4600f7aeae0098643316d766480d755dec0b58dc6e0c1264f37", func := "standby/standbylaw19.VolumeReads", spec := "volumeReads", unfollowed := true, recurses := true, named := ["unicode/utf8.first", "unicode/utf8.acceptRanges"], apart := false, laid := [("unicode/utf8.acceptRanges", laid_unicode_utf8_acceptRanges), ("unicode/utf8.first", laid_unicode_utf8_first)] }
def VolumeReadsSaid : Prop := volumeReadsRow.holds Tryz.pinned (OpenSpec.ofChange volumeReadsSpec)

/-- ITS FALSE NEIGHBOUR: 'it returns false'. Refute it at one input. -/
def volumeReadsWrong : ChangeSpec := { name := "volumeReads", fn := fun _ => fun
  | [d1, d2, d3] => { results := [.lit (.bool false)], args := [d1, d2, d3] }
  | _ => none }
def VolumeReadsWrongFalsely : Prop := volumeReadsRow.holds Tryz.pinned (OpenSpec.ofChange volumeReadsWrong)

/-- 'standbylaw19.VolumeOpens': WHATEVER THE INPUT: true; the input reads as it did. -/
def volumeOpensSpec : ChangeSpec := { name := "volumeOpens", fn := fun _ => fun
  | [d1, d2, d3] => { results := [.lit (.bool true)], args := [d1, d2, d3] }
  | _ => none }
def volumeOpensRow : OpenClaim := { program := "ytbnkggbpocaaiaagreatdoor", sum := "c25726e18abcb4600f7aeae0098643316d766480d755dec0b58dc6e0c1264f37", func := "standby/standbylaw19.VolumeOpens", spec := "volumeOpens", unfollowed := true, recurses := true, named := ["unicode/utf8.first", "unicode/utf8.acceptRanges"], apart := false, laid := [("unicode/utf8.acceptRanges", laid_unicode_utf8_acceptRanges), ("unicode/utf8.first", laid_unicode_utf8_first)] }
def VolumeOpensSaid : Prop := volumeOpensRow.holds Tryz.pinned (OpenSpec.ofChange volumeOpensSpec)

/-- ITS FALSE NEIGHBOUR: 'it returns false'. Refute it at one input. -/
def volumeOpensWrong : ChangeSpec := { name := "volumeOpens", fn := fun _ => fun
  | [d1, d2, d3] => { results := [.lit (.bool false)], args := [d1, d2, d3] }
  | _ => none }
def VolumeOpensWrongFalsely : Prop := volumeOpensRow.holds Tryz.pinned (OpenSpec.ofChange volumeOpensWrong)

/-- 'standbylaw19.VolumeReopens': WHATEVER THE INPUT: true; the input reads as it did. -/
def volumeReopensSpec : ChangeSpec := { name := "volumeReopens", fn := fun _ => fun
  | [d] => { results := [.lit (.bool true)], args := [d] }
  | _ => none }
def volumeReopensRow : OpenClaim := { program := "ytbnkggbpocaaiaagreatdoor", sum := "c25726e18abcb4600f7aeae0098643316d766480d755dec0b58dc6e0c1264f37", func := "standby/standbylaw19.VolumeReopens", spec := "volumeReopens", unfollowed := true, recurses := true, named := ["unicode/utf8.first", "unicode/utf8.acceptRanges"], apart := false, laid := [("unicode/utf8.acceptRanges", laid_unicode_utf8_acceptRanges), ("unicode/utf8.first", laid_unicode_utf8_first)] }
def VolumeReopensSaid : Prop := volumeReopensRow.holds Tryz.pinned (OpenSpec.ofChange volumeReopensSpec)

/-- ITS FALSE NEIGHBOUR: 'it returns false'. Refute it at one input. -/
def volumeReopensWrong : ChangeSpec := { name := "volumeReopens", fn := fun _ => fun
  | [d] => { results := [.lit (.bool false)], args := [d] }
  | _ => none }
def VolumeReopensWrongFalsely : Prop := volumeReopensRow.holds Tryz.pinned (OpenSpec.ofChange volumeReopensWrong)

/-- 'standbylaw19.VolumeRecovers': WHATEVER THE INPUT: true; the input reads as it did. -/
def volumeRecoversSpec : ChangeSpec := { name := "volumeRecovers", fn := fun _ => fun
  | [d1, d2, d3] => { results := [.lit (.bool true)], args := [d1, d2, d3] }
  | _ => none }
def volumeRecoversRow : OpenClaim := { program := "ytbnkggbpocaaiaagreatdoor", sum := "c25726e18abcb4600f7aeae0098643316d766480d755dec0b58dc6e0c1264f37", func := "standby/standbylaw19.VolumeRecovers", spec := "volumeRecovers", unfollowed := true, recurses := true, named := ["unicode/utf8.first", "unicode/utf8.acceptRanges"], apart := false, laid := [("unicode/utf8.acceptRanges", laid_unicode_utf8_acceptRanges), ("unicode/utf8.first", laid_unicode_utf8_first)] }
def VolumeRecoversSaid : Prop := volumeRecoversRow.holds Tryz.pinned (OpenSpec.ofChange volumeRecoversSpec)

/-- ITS FALSE NEIGHBOUR: 'it returns false'. Refute it at one input. -/
def volumeRecoversWrong : ChangeSpec := { name := "volumeRecovers", fn := fun _ => fun
  | [d1, d2, d3] => { results := [.lit (.bool false)], args := [d1, d2, d3] }
  | _ => none }
def VolumeRecoversWrongFalsely : Prop := volumeRecoversRow.holds Tryz.pinned (OpenSpec.ofChange volumeRecoversWrong)

/- THE SECOND FORM. 'bulk': how many values and letters a reading holds, each counted each time it is reached (what is shared counts as often as it is met; a slice's spare places count too). A statement '..UptoSaid' is the law's where the arguments, and the package variables that the reading takes, are together of bulk at most 1048576: NARROWER than '..Said'. Prove '..Said' where nothing that the law and all that it calls make is longer than what came in: it says more and counts as full. Else prove '..UptoSaid'. A law counts once. -/
mutual
def uptoBulk {H : Type} : DataW H → Nat
  | .lit (.string bytes) => bytes.length + 1
  | .lit _ => 1
  | .nil => 1
  | .ptr d => uptoBulk d + 1
  | .slice elems spare => uptoBulkAll elems + uptoBulkAll spare + 1
  | .agg parts => uptoBulkAll parts + 1
  | .iface _ d => uptoBulk d + 1
  | .map entries => uptoBulkEntries entries + 1
  | .held _ => 1
def uptoBulkAll {H : Type} : List (DataW H) → Nat
  | [] => 0
  | d :: r => uptoBulk d + uptoBulkAll r
def uptoBulkEntries {H : Type} : List (Lit × DataW H) → Nat
  | [] => 0
  | x :: r => uptoBulkEntry x + uptoBulkEntries r
def uptoBulkEntry {H : Type} : Lit × DataW H → Nat
  | (.string bytes, d) => bytes.length + uptoBulk d + 1
  | (_, d) => uptoBulk d + 1
 end
def uptoSmall : (H : Type) → List (DataW H) → Bool := fun _ ds => decide (uptoBulkAll ds ≤ 1048576)
def OpenSpec.upto (s : _root_.Go.ChangeSpec) : _root_.Go.OpenSpec := { _root_.Go.OpenSpec.ofChange s with cond := some uptoSmall }

/-- 'standbylaw19.VolumeFormats', WHERE WHAT IT READS IS OF BULK AT MOST 1048576: true; the input reads as it did. -/
def volumeFormatsUptoRow : OpenClaim := { program := "ytbnkggbpocaaiaagreatdoor", sum := "c25726e18abcb4600f7aeae0098643316d766480d755dec0b58dc6e0c1264f37", func := "standby/standbylaw19.VolumeFormats", spec := "volumeFormats", unfollowed := true, recurses := true, named := ["unicode/utf8.first", "unicode/utf8.acceptRanges"], apart := false, laid := [("unicode/utf8.acceptRanges", laid_unicode_utf8_acceptRanges), ("unicode/utf8.first", laid_unicode_utf8_first)], narrowed := true }
def VolumeFormatsUptoSaid : Prop := volumeFormatsUptoRow.holds Tryz.pinned (OpenSpec.upto volumeFormatsSpec)

/-- 'standbylaw19.VolumeWrites', WHERE WHAT IT READS IS OF BULK AT MOST 1048576: true; the input reads as it did. -/
def volumeWritesUptoRow : OpenClaim := { program := "ytbnkggbpocaaiaagreatdoor", sum := "c25726e18abcb4600f7aeae0098643316d766480d755dec0b58dc6e0c1264f37", func := "standby/standbylaw19.VolumeWrites", spec := "volumeWrites", unfollowed := true, recurses := true, named := ["unicode/utf8.first", "unicode/utf8.acceptRanges"], apart := false, laid := [("unicode/utf8.acceptRanges", laid_unicode_utf8_acceptRanges), ("unicode/utf8.first", laid_unicode_utf8_first)], narrowed := true }
def VolumeWritesUptoSaid : Prop := volumeWritesUptoRow.holds Tryz.pinned (OpenSpec.upto volumeWritesSpec)

/-- 'standbylaw19.VolumeFrees', WHERE WHAT IT READS IS OF BULK AT MOST 1048576: true; the input reads as it did. -/
def volumeFreesUptoRow : OpenClaim := { program := "ytbnkggbpocaaiaagreatdoor", sum := "c25726e18abcb4600f7aeae0098643316d766480d755dec0b58dc6e0c1264f37", func := "standby/standbylaw19.VolumeFrees", spec := "volumeFrees", unfollowed := true, recurses := true, named := ["unicode/utf8.first", "unicode/utf8.acceptRanges"], apart := false, laid := [("unicode/utf8.acceptRanges", laid_unicode_utf8_acceptRanges), ("unicode/utf8.first", laid_unicode_utf8_first)], narrowed := true }
def VolumeFreesUptoSaid : Prop := volumeFreesUptoRow.holds Tryz.pinned (OpenSpec.upto volumeFreesSpec)

/-- 'standbylaw19.VolumeFlushes', WHERE WHAT IT READS IS OF BULK AT MOST 1048576: true; the input reads as it did. -/
def volumeFlushesUptoRow : OpenClaim := { program := "ytbnkggbpocaaiaagreatdoor", sum := "c25726e18abcb4600f7aeae0098643316d766480d755dec0b58dc6e0c1264f37", func := "standby/standbylaw19.VolumeFlushes", spec := "volumeFlushes", unfollowed := true, recurses := true, named := ["unicode/utf8.first", "unicode/utf8.acceptRanges"], apart := false, laid := [("unicode/utf8.acceptRanges", laid_unicode_utf8_acceptRanges), ("unicode/utf8.first", laid_unicode_utf8_first)], narrowed := true }
def VolumeFlushesUptoSaid : Prop := volumeFlushesUptoRow.holds Tryz.pinned (OpenSpec.upto volumeFlushesSpec)

/-- 'standbylaw19.VolumeReads', WHERE WHAT IT READS IS OF BULK AT MOST 1048576: true; the input reads as it did. -/
def volumeReadsUptoRow : OpenClaim := { program := "ytbnkggbpocaaiaagreatdoor", sum := "c25726e18abcb4600f7aeae0098643316d766480d755dec0b58dc6e0c1264f37", func := "standby/standbylaw19.VolumeReads", spec := "volumeReads", unfollowed := true, recurses := true, named := ["unicode/utf8.first", "unicode/utf8.acceptRanges"], apart := false, laid := [("unicode/utf8.acceptRanges", laid_unicode_utf8_acceptRanges), ("unicode/utf8.first", laid_unicode_utf8_first)], narrowed := true }
def VolumeReadsUptoSaid : Prop := volumeReadsUptoRow.holds Tryz.pinned (OpenSpec.upto volumeReadsSpec)

/-- 'standbylaw19.VolumeOpens', WHERE WHAT IT READS IS OF BULK AT MOST 1048576: true; the input reads as it did. -/
def volumeOpensUptoRow : OpenClaim := { program := "ytbnkggbpocaaiaagreatdoor", sum := "c25726e18abcb4600f7aeae0098643316d766480d755dec0b58dc6e0c1264f37", func := "standby/standbylaw19.VolumeOpens", spec := "volumeOpens", unfollowed := true, recurses := true, named := ["unicode/utf8.first", "unicode/utf8.acceptRanges"], apart := false, laid := [("unicode/utf8.acceptRanges", laid_unicode_utf8_acceptRanges), ("unicode/utf8.first", laid_unicode_utf8_first)], narrowed := true }
def VolumeOpensUptoSaid : Prop := volumeOpensUptoRow.holds Tryz.pinned (OpenSpec.upto volumeOpensSpec)

/-- 'standbylaw19.VolumeReopens', WHERE WHAT IT READS IS OF BULK AT MOST 1048576: true; the input reads as it did. -/
def volumeReopensUptoRow : OpenClaim := { program := "ytbnkggbpocaaiaagreatdoor", sum := "c25726e18abcb4600f7aeae0098643316d766480d755dec0b58dc6e0c1264f37", func := "standby/standbylaw19.VolumeReopens", spec := "volumeReopens", unfollowed := true, recurses := true, named := ["unicode/utf8.first", "unicode/utf8.acceptRanges"], apart := false, laid := [("unicode/utf8.acceptRanges", laid_unicode_utf8_acceptRanges), ("unicode/utf8.first", laid_unicode_utf8_first)], narrowed := true }
def VolumeReopensUptoSaid : Prop := volumeReopensUptoRow.holds Tryz.pinned (OpenSpec.upto volumeReopensSpec)

/-- 'standbylaw19.VolumeRecovers', WHERE WHAT IT READS IS OF BULK AT MOST 1048576: true; the input reads as it did. -/
def volumeRecoversUptoRow : OpenClaim := { program := "ytbnkggbpocaaiaagreatdoor", sum := "c25726e18abcb4600f7aeae0098643316d766480d755dec0b58dc6e0c1264f37", func := "standby/standbylaw19.VolumeRecovers", spec := "volumeRecovers", unfollowed := true, recurses := true, named := ["unicode/utf8.first", "unicode/utf8.acceptRanges"], apart := false, laid := [("unicode/utf8.acceptRanges", laid_unicode_utf8_acceptRanges), ("unicode/utf8.first", laid_unicode_utf8_first)], narrowed := true }
def VolumeRecoversUptoSaid : Prop := volumeRecoversUptoRow.holds Tryz.pinned (OpenSpec.upto volumeRecoversSpec)

end Rows
end Go.Proofs.YtbnkggbpocaaiaaGreatDoor
