/-
  No cell of these rows narrows 'for every input' (looked for: loops, veiled, ifaces, maps, wideKeys, modest, calm, conditions, laid).
  DERIVED. THE GIVEN ROWS OF THIS SEAT. 6 by the template 'for every input the law returns true; each argument reads behind the call as it read before'; 0 by the template 'total and deterministic' (their statements: YtfbjhkpdlihgeaaTotals.lean).
  GIVEN WITH THE SEED: the statements are not yours to turn. If you find one false, say at which input.
  Laid BY PROGRAM, IN A SANDBOX (cutbox-rows.mjs): the forced cells as the released guide's own fill.sh prints them over the translation 2a01310854aaa86d… (all of the seat's roots in one cut). By AI agents, Wed Nov 11 2026. No macro, syntax, notation, axiom, sorry.
-/
import Derived.Test.YtfbjhkpdlihgeaaChecked
import GoSem.Claim
import GoSem.ClaimJoined
import GoSem.ClaimMapViews
import Derived.JoinedTies
import Derived.KernelRfl
namespace Go.Proofs.Ytfbjhkpdlihgeaa
/- THE CELL 'sum', in the pinned program and in every row, IS THE sha256 OF THE DUMP (.gsa) THAT YtfbjhkpdlihgeaaProg.lean LOADS. Nothing in Lean hashes anything: it is a label: what it is worth is what the hold of that sum in a sandbox is worth. -/
noncomputable def Try.pinned : Pinned := { name := "ytfbjhkpdlihgeaa", sum := "2a01310854aaa86d58b86497ab82768d4a498393b509a0701692cef8d37449e3", checked := Try.checked }
namespace Rows
def none {H : Type} : Left H := { results := [], args := [] }

/-- 'standbylaw31.BatchHeaders': WHATEVER THE INPUT: true; the input reads as it did. -/
def batchHeadersSpec : ChangeSpec := { name := "batchHeaders", fn := fun _ => fun
  | [d] => { results := [.lit (.bool true)], args := [d] }
  | _ => none }
def batchHeadersRow : OpenClaim := { program := "ytfbjhkpdlihgeaa", sum := "2a01310854aaa86d58b86497ab82768d4a498393b509a0701692cef8d37449e3", func := "standby/standbylaw31.BatchHeaders", spec := "batchHeaders", unfollowed := true, recurses := true, apart := false }
def BatchHeadersSaid : Prop := batchHeadersRow.holds Try.pinned (OpenSpec.ofChange batchHeadersSpec)

/-- ITS FALSE NEIGHBOUR: 'it returns false'. Refute it at one input. -/
def batchHeadersWrong : ChangeSpec := { name := "batchHeaders", fn := fun _ => fun
  | [d] => { results := [.lit (.bool false)], args := [d] }
  | _ => none }
def BatchHeadersWrongFalsely : Prop := batchHeadersRow.holds Try.pinned (OpenSpec.ofChange batchHeadersWrong)

/-- 'standbylaw31.BatchAdds': WHATEVER THE INPUT: true; the input reads as it did. -/
def batchAddsSpec : ChangeSpec := { name := "batchAdds", fn := fun _ => fun
  | [d1, d2] => { results := [.lit (.bool true)], args := [d1, d2] }
  | _ => none }
def batchAddsRow : OpenClaim := { program := "ytfbjhkpdlihgeaa", sum := "2a01310854aaa86d58b86497ab82768d4a498393b509a0701692cef8d37449e3", func := "standby/standbylaw31.BatchAdds", spec := "batchAdds", unfollowed := true, recurses := true, apart := false }
def BatchAddsSaid : Prop := batchAddsRow.holds Try.pinned (OpenSpec.ofChange batchAddsSpec)

/-- ITS FALSE NEIGHBOUR: 'it returns false'. Refute it at one input. -/
def batchAddsWrong : ChangeSpec := { name := "batchAdds", fn := fun _ => fun
  | [d1, d2] => { results := [.lit (.bool false)], args := [d1, d2] }
  | _ => none }
def BatchAddsWrongFalsely : Prop := batchAddsRow.holds Try.pinned (OpenSpec.ofChange batchAddsWrong)

/-- 'standbylaw31.BatchReturns': WHATEVER THE INPUT: true; the input reads as it did. -/
def batchReturnsSpec : ChangeSpec := { name := "batchReturns", fn := fun _ => fun
  | [d1, d2, d3] => { results := [.lit (.bool true)], args := [d1, d2, d3] }
  | _ => none }
def batchReturnsRow : OpenClaim := { program := "ytfbjhkpdlihgeaa", sum := "2a01310854aaa86d58b86497ab82768d4a498393b509a0701692cef8d37449e3", func := "standby/standbylaw31.BatchReturns", spec := "batchReturns", unfollowed := true, recurses := true, apart := false }
def BatchReturnsSaid : Prop := batchReturnsRow.holds Try.pinned (OpenSpec.ofChange batchReturnsSpec)

/-- ITS FALSE NEIGHBOUR: 'it returns false'. Refute it at one input. -/
def batchReturnsWrong : ChangeSpec := { name := "batchReturns", fn := fun _ => fun
  | [d1, d2, d3] => { results := [.lit (.bool false)], args := [d1, d2, d3] }
  | _ => none }
def BatchReturnsWrongFalsely : Prop := batchReturnsRow.holds Try.pinned (OpenSpec.ofChange batchReturnsWrong)

/-- 'standbylaw31.BatchMisses': WHATEVER THE INPUT: true; the input reads as it did. -/
def batchMissesSpec : ChangeSpec := { name := "batchMisses", fn := fun _ => fun
  | [d1, d2, d3] => { results := [.lit (.bool true)], args := [d1, d2, d3] }
  | _ => none }
def batchMissesRow : OpenClaim := { program := "ytfbjhkpdlihgeaa", sum := "2a01310854aaa86d58b86497ab82768d4a498393b509a0701692cef8d37449e3", func := "standby/standbylaw31.BatchMisses", spec := "batchMisses", unfollowed := true, recurses := true, apart := false }
def BatchMissesSaid : Prop := batchMissesRow.holds Try.pinned (OpenSpec.ofChange batchMissesSpec)

/-- ITS FALSE NEIGHBOUR: 'it returns false'. Refute it at one input. -/
def batchMissesWrong : ChangeSpec := { name := "batchMisses", fn := fun _ => fun
  | [d1, d2, d3] => { results := [.lit (.bool false)], args := [d1, d2, d3] }
  | _ => none }
def BatchMissesWrongFalsely : Prop := batchMissesRow.holds Try.pinned (OpenSpec.ofChange batchMissesWrong)

/-- 'standbylaw31.BatchPieces': WHATEVER THE INPUT: true; the input reads as it did. -/
def batchPiecesSpec : ChangeSpec := { name := "batchPieces", fn := fun _ => fun
  | [d1, d2] => { results := [.lit (.bool true)], args := [d1, d2] }
  | _ => none }
def batchPiecesRow : OpenClaim := { program := "ytfbjhkpdlihgeaa", sum := "2a01310854aaa86d58b86497ab82768d4a498393b509a0701692cef8d37449e3", func := "standby/standbylaw31.BatchPieces", spec := "batchPieces", unfollowed := true, recurses := true, apart := false }
def BatchPiecesSaid : Prop := batchPiecesRow.holds Try.pinned (OpenSpec.ofChange batchPiecesSpec)

/-- ITS FALSE NEIGHBOUR: 'it returns false'. Refute it at one input. -/
def batchPiecesWrong : ChangeSpec := { name := "batchPieces", fn := fun _ => fun
  | [d1, d2] => { results := [.lit (.bool false)], args := [d1, d2] }
  | _ => none }
def BatchPiecesWrongFalsely : Prop := batchPiecesRow.holds Try.pinned (OpenSpec.ofChange batchPiecesWrong)

/-- 'standbylaw31.BatchRefuses': WHATEVER THE INPUT: true; the input reads as it did. -/
def batchRefusesSpec : ChangeSpec := { name := "batchRefuses", fn := fun _ => fun
  | [d1, d2, d3] => { results := [.lit (.bool true)], args := [d1, d2, d3] }
  | _ => none }
def batchRefusesRow : OpenClaim := { program := "ytfbjhkpdlihgeaa", sum := "2a01310854aaa86d58b86497ab82768d4a498393b509a0701692cef8d37449e3", func := "standby/standbylaw31.BatchRefuses", spec := "batchRefuses", unfollowed := true, recurses := true, apart := false }
def BatchRefusesSaid : Prop := batchRefusesRow.holds Try.pinned (OpenSpec.ofChange batchRefusesSpec)

/-- ITS FALSE NEIGHBOUR: 'it returns false'. Refute it at one input. -/
def batchRefusesWrong : ChangeSpec := { name := "batchRefuses", fn := fun _ => fun
  | [d1, d2, d3] => { results := [.lit (.bool false)], args := [d1, d2, d3] }
  | _ => none }
def BatchRefusesWrongFalsely : Prop := batchRefusesRow.holds Try.pinned (OpenSpec.ofChange batchRefusesWrong)

/- THE SECOND FORM. 'bulk': how many values and letters a reading holds, each counted each time it is reached (what is shared counts as often as it is met; a slice's spare places count too). A statement '..UptoSaid' is the law's where the arguments, and the package variables that the reading takes, are together of bulk at most 1048576: NARROWER than '..Said'. Prove '..Said' where nothing that the law and all that it calls make is longer than what came in: it says more and counts as full. Else prove '..UptoSaid'. A law counts once. -/
mutual
def uptoBulk {H : Type} : DataW H → Nat
  | .lit (.string bytes) => bytes.length + 1
  | .lit _ => 1
  | .nil => 1
  | .ptr d => uptoBulk d + 1
  | .slice elems spare => uptoBulkAll elems + uptoBulkAll spare + 1
  | .agg parts => uptoBulkAll parts + 1
  | .iface _ d => uptoBulk d + 1
  | .map entries => uptoBulkEntries entries + 1
  | .held _ => 1
def uptoBulkAll {H : Type} : List (DataW H) → Nat
  | [] => 0
  | d :: r => uptoBulk d + uptoBulkAll r
def uptoBulkEntries {H : Type} : List (Lit × DataW H) → Nat
  | [] => 0
  | x :: r => uptoBulkEntry x + uptoBulkEntries r
def uptoBulkEntry {H : Type} : Lit × DataW H → Nat
  | (.string bytes, d) => bytes.length + uptoBulk d + 1
  | (_, d) => uptoBulk d + 1
 end
def uptoSmall : (H : Type) → List (DataW H) → Bool := fun _ ds => decide (uptoBulkAll ds ≤ 1048576)
def OpenSpec.upto (s : _root_.Go.ChangeSpec) : _root_.Go.OpenSpec := { _root_.Go.OpenSpec.ofChange s with cond := some uptoSmall }

/-- 'standbylaw31.BatchHeaders', WHERE WHAT IT READS IS OF BULK AT MOST 1048576: true; the input reads as it did. -/
def batchHeadersUptoRow : OpenClaim := { program := "ytfbjhkpdlihgeaa", sum := "2a01310854aaa86d58b86497ab82768d4a498393b509a0701692cef8d37449e3", func := "standby/standbylaw31.BatchHeaders", spec := "batchHeaders", unfollowed := true, recurses := true, apart := false, narrowed := true }
def BatchHeadersUptoSaid : Prop := batchHeadersUptoRow.holds Try.pinned (OpenSpec.upto batchHeadersSpec)

/-- 'standbylaw31.BatchAdds', WHERE WHAT IT READS IS OF BULK AT MOST 1048576: true; the input reads as it did. -/
def batchAddsUptoRow : OpenClaim := { program := "ytfbjhkpdlihgeaa", sum := "2a01310854aaa86d58b86497ab82768d4a498393b509a0701692cef8d37449e3", func := "standby/standbylaw31.BatchAdds", spec := "batchAdds", unfollowed := true, recurses := true, apart := false, narrowed := true }
def BatchAddsUptoSaid : Prop := batchAddsUptoRow.holds Try.pinned (OpenSpec.upto batchAddsSpec)

/-- 'standbylaw31.BatchReturns', WHERE WHAT IT READS IS OF BULK AT MOST 1048576: true; the input reads as it did. -/
def batchReturnsUptoRow : OpenClaim := { program := "ytfbjhkpdlihgeaa", sum := "2a01310854aaa86d58b86497ab82768d4a498393b509a0701692cef8d37449e3", func := "standby/standbylaw31.BatchReturns", spec := "batchReturns", unfollowed := true, recurses := true, apart := false, narrowed := true }
def BatchReturnsUptoSaid : Prop := batchReturnsUptoRow.holds Try.pinned (OpenSpec.upto batchReturnsSpec)

/-- 'standbylaw31.BatchMisses', WHERE WHAT IT READS IS OF BULK AT MOST 1048576: true; the input reads as it did. -/
def batchMissesUptoRow : OpenClaim := { program := "ytfbjhkpdlihgeaa", sum := "2a01310854aaa86d58b86497ab82768d4a498393b509a0701692cef8d37449e3", func := "standby/standbylaw31.BatchMisses", spec := "batchMisses", unfollowed := true, recurses := true, apart := false, narrowed := true }
def BatchMissesUptoSaid : Prop := batchMissesUptoRow.holds Try.pinned (OpenSpec.upto batchMissesSpec)

/-- 'standbylaw31.BatchPieces', WHERE WHAT IT READS IS OF BULK AT MOST 1048576: true; the input reads as it did. -/
def batchPiecesUptoRow : OpenClaim := { program := "ytfbjhkpdlihgeaa", sum := "2a01310854aaa86d58b86497ab82768d4a498393b509a0701692cef8d37449e3", func := "standby/standbylaw31.BatchPieces", spec := "batchPieces", unfollowed := true, recurses := true, apart := false, narrowed := true }
def BatchPiecesUptoSaid : Prop := batchPiecesUptoRow.holds Try.pinned (OpenSpec.upto batchPiecesSpec)

/-- 'standbylaw31.BatchRefuses', WHERE WHAT IT READS IS OF BULK AT MOST 1048576: true; the input reads as it did. -/
def batchRefusesUptoRow : OpenClaim := { program := "ytfbjhkpdlihgeaa", sum := "2a01310854aaa86d58b86497ab82768d4a498393b509a0701692cef8d37449e3", func := "standby/standbylaw31.BatchRefuses", spec := "batchRefuses", unfollowed := true, recurses := true, apart := false, narrowed := true }
def BatchRefusesUptoSaid : Prop := batchRefusesUptoRow.holds Try.pinned (OpenSpec.upto batchRefusesSpec)

end Rows
end Go.Proofs.Ytfbjhkpdlihgeaa
