/-
  No cell of these rows narrows 'for every input' (looked for: loops, veiled, ifaces, maps, wideKeys, modest, calm, conditions, laid).
  DERIVED. THE GIVEN ROWS OF THIS SEAT. 2 by the template 'for every input the law returns true; each argument reads behind the call as it read before'; 0 by the template 'total and deterministic' (their statements: YtfbjhkpdlihgeaaGreatTotals.lean).
  GIVEN WITH THE SEED: the statements are not yours to turn. If you find one false, say at which input.
  Laid BY PROGRAM, IN A SANDBOX (cutbox-rows.mjs): the forced cells as the released guide's own fill.sh prints them over the translation ada0e9de08a23671… (all of the seat's roots in one cut). By AI agents, Wed Nov 11 2026. No macro, syntax, notation, axiom, sorry.
-/
import Derived.Test.YtfbjhkpdlihgeaaGreatChecked
import GoSem.Claim
import GoSem.ClaimJoined
import GoSem.ClaimMapViews
import Derived.JoinedTies
import Derived.KernelRfl
namespace Go.Proofs.YtfbjhkpdlihgeaaGreat
/- THE CELL 'sum', in the pinned program and in every row, IS THE sha256 OF THE DUMP (.gsa) THAT YtfbjhkpdlihgeaaGreatProg.lean LOADS. Nothing in Lean hashes anything: it is a label: what it is worth is what the hold of that sum in a sandbox is worth. -/
noncomputable def Tryz.pinned : Pinned := { name := "ytfbjhkpdlihgeaagreat", sum := "ada0e9de08a23671433656daa2aee04c108062c87f05cd5d44bacecf0e1d86ac", checked := Tryz.checked }
namespace Rows
def none {H : Type} : Left H := { results := [], args := [] }

/-- 'standbylaw31.BatchSplits': WHATEVER THE INPUT: true; the input reads as it did. -/
def batchSplitsSpec : ChangeSpec := { name := "batchSplits", fn := fun _ => fun
  | [d1, d2] => { results := [.lit (.bool true)], args := [d1, d2] }
  | _ => none }
def batchSplitsRow : OpenClaim := { program := "ytfbjhkpdlihgeaagreat", sum := "ada0e9de08a23671433656daa2aee04c108062c87f05cd5d44bacecf0e1d86ac", func := "standby/standbylaw31.BatchSplits", spec := "batchSplits", unfollowed := true, recurses := true, apart := false }
def BatchSplitsSaid : Prop := batchSplitsRow.holds Tryz.pinned (OpenSpec.ofChange batchSplitsSpec)

/-- ITS FALSE NEIGHBOUR: 'it returns false'. Refute it at one input. -/
def batchSplitsWrong : ChangeSpec := { name := "batchSplits", fn := fun _ => fun
  | [d1, d2] => { results := [.lit (.bool false)], args := [d1, d2] }
  | _ => none }
def BatchSplitsWrongFalsely : Prop := batchSplitsRow.holds Tryz.pinned (OpenSpec.ofChange batchSplitsWrong)

/-- 'standbylaw31.BatchCycles': WHATEVER THE INPUT: true; the input reads as it did. -/
def batchCyclesSpec : ChangeSpec := { name := "batchCycles", fn := fun _ => fun
  | [d] => { results := [.lit (.bool true)], args := [d] }
  | _ => none }
def batchCyclesRow : OpenClaim := { program := "ytfbjhkpdlihgeaagreat", sum := "ada0e9de08a23671433656daa2aee04c108062c87f05cd5d44bacecf0e1d86ac", func := "standby/standbylaw31.BatchCycles", spec := "batchCycles", unfollowed := true, recurses := true, apart := false }
def BatchCyclesSaid : Prop := batchCyclesRow.holds Tryz.pinned (OpenSpec.ofChange batchCyclesSpec)

/-- ITS FALSE NEIGHBOUR: 'it returns false'. Refute it at one input. -/
def batchCyclesWrong : ChangeSpec := { name := "batchCycles", fn := fun _ => fun
  | [d] => { results := [.lit (.bool false)], args := [d] }
  | _ => none }
def BatchCyclesWrongFalsely : Prop := batchCyclesRow.holds Tryz.pinned (OpenSpec.ofChange batchCyclesWrong)

/- THE SECOND FORM. 'bulk': how many values and letters a reading holds, each counted each time it is reached (what is shared counts as often as it is met; a slice's spare places count too). A statement '..UptoSaid' is the law's where the arguments, and the package variables that the reading takes, are together of bulk at most 1048576: NARROWER than '..Said'. Prove '..Said' where nothing that the law and all that it calls make is longer than what came in: it says more and counts as full. Else prove '..UptoSaid'. A law counts once. -/
mutual
def uptoBulk {H : Type} : DataW H → Nat
  | .lit (.string bytes) => bytes.length + 1
  | .lit _ => 1
  | .nil => 1
  | .ptr d => uptoBulk d + 1
  | .slice elems spare => uptoBulkAll elems + uptoBulkAll spare + 1
  | .agg parts => uptoBulkAll parts + 1
  | .iface _ d => uptoBulk d + 1
  | .map entries => uptoBulkEntries entries + 1
  | .held _ => 1
def uptoBulkAll {H : Type} : List (DataW H) → Nat
  | [] => 0
  | d :: r => uptoBulk d + uptoBulkAll r
def uptoBulkEntries {H : Type} : List (Lit × DataW H) → Nat
  | [] => 0
  | x :: r => uptoBulkEntry x + uptoBulkEntries r
def uptoBulkEntry {H : Type} : Lit × DataW H → Nat
  | (.string bytes, d) => bytes.length + uptoBulk d + 1
  | (_, d) => uptoBulk d + 1
 end
def uptoSmall : (H : Type) → List (DataW H) → Bool := fun _ ds => decide (uptoBulkAll ds ≤ 1048576)
def OpenSpec.upto (s : _root_.Go.ChangeSpec) : _root_.Go.OpenSpec := { _root_.Go.OpenSpec.ofChange s with cond := some uptoSmall }

/-- 'standbylaw31.BatchSplits', WHERE WHAT IT READS IS OF BULK AT MOST 1048576: true; the input reads as it did. -/
def batchSplitsUptoRow : OpenClaim := { program := "ytfbjhkpdlihgeaagreat", sum := "ada0e9de08a23671433656daa2aee04c108062c87f05cd5d44bacecf0e1d86ac", func := "standby/standbylaw31.BatchSplits", spec := "batchSplits", unfollowed := true, recurses := true, apart := false, narrowed := true }
def BatchSplitsUptoSaid : Prop := batchSplitsUptoRow.holds Tryz.pinned (OpenSpec.upto batchSplitsSpec)

/-- 'standbylaw31.BatchCycles', WHERE WHAT IT READS IS OF BULK AT MOST 1048576: true; the input reads as it did. -/
def batchCyclesUptoRow : OpenClaim := { program := "ytfbjhkpdlihgeaagreat", sum := "ada0e9de08a23671433656daa2aee04c108062c87f05cd5d44bacecf0e1d86ac", func := "standby/standbylaw31.BatchCycles", spec := "batchCycles", unfollowed := true, recurses := true, apart := false, narrowed := true }
def BatchCyclesUptoSaid : Prop := batchCyclesUptoRow.holds Tryz.pinned (OpenSpec.upto batchCyclesSpec)

end Rows
end Go.Proofs.YtfbjhkpdlihgeaaGreat
