/-
  No cell of these rows narrows 'for every input' (looked for: loops, veiled, ifaces, maps, wideKeys, modest, calm, conditions, laid).
  DERIVED. THE GIVEN ROWS OF THIS SEAT. 5 by the template 'for every input the law returns true; each argument reads behind the call as it read before'; 0 by the template 'total and deterministic' (their statements: YtpadnceoacbaeaaGreatTotals.lean).
  GIVEN WITH THE SEED: the statements are not yours to turn. If you find one false, say at which input.
  Laid BY PROGRAM, IN A SANDBOX (cutbox-rows.mjs): the forced cells as the released guide's own fill.sh prints them over the translation 6ade8b3bcb50bd7a… (all of the seat's roots in one cut). By AI agents, Wed Nov 11 2026. No macro, syntax, notation, axiom, sorry.
-/
import Derived.Test.YtpadnceoacbaeaaGreatChecked
import GoSem.Claim
import GoSem.ClaimJoined
import GoSem.ClaimMapViews
import Derived.JoinedTies
import Derived.KernelRfl
namespace Go.Proofs.YtpadnceoacbaeaaGreat
/- THE CELL 'sum', in the pinned program and in every row, IS THE sha256 OF THE DUMP (.gsa) THAT YtpadnceoacbaeaaGreatProg.lean LOADS. Nothing in Lean hashes anything: it is a label: what it is worth is what the hold of that sum in a sandbox is worth. -/
noncomputable def Tryz.pinned : Pinned := { name := "ytpadnceoacbaeaagreat", sum := "6ade8b3bcb50bd7ae59491d42b733966fad1d64cb8c9a0810041b5ce0b73be89", checked := Tryz.checked }
namespace Rows
def none {H : Type} : Left H := { results := [], args := [] }

/-- 'standbylaw42.FanoutPushes': WHATEVER THE INPUT: true; the input reads as it did. -/
def fanoutPushesSpec : ChangeSpec := { name := "fanoutPushes", fn := fun _ => fun
  | [d1, d2, d3] => { results := [.lit (.bool true)], args := [d1, d2, d3] }
  | _ => none }
def fanoutPushesRow : OpenClaim := { program := "ytpadnceoacbaeaagreat", sum := "6ade8b3bcb50bd7ae59491d42b733966fad1d64cb8c9a0810041b5ce0b73be89", func := "standby/standbylaw42.FanoutPushes", spec := "fanoutPushes", unfollowed := true, recurses := true, apart := false }
def FanoutPushesSaid : Prop := fanoutPushesRow.holds Tryz.pinned (OpenSpec.ofChange fanoutPushesSpec)

/-- ITS FALSE NEIGHBOUR: 'it returns false'. Refute it at one input. -/
def fanoutPushesWrong : ChangeSpec := { name := "fanoutPushes", fn := fun _ => fun
  | [d1, d2, d3] => { results := [.lit (.bool false)], args := [d1, d2, d3] }
  | _ => none }
def FanoutPushesWrongFalsely : Prop := fanoutPushesRow.holds Tryz.pinned (OpenSpec.ofChange fanoutPushesWrong)

/-- 'standbylaw42.FanoutReports': WHATEVER THE INPUT: true; the input reads as it did. -/
def fanoutReportsSpec : ChangeSpec := { name := "fanoutReports", fn := fun _ => fun
  | [d1, d2, d3] => { results := [.lit (.bool true)], args := [d1, d2, d3] }
  | _ => none }
def fanoutReportsRow : OpenClaim := { program := "ytpadnceoacbaeaagreat", sum := "6ade8b3bcb50bd7ae59491d42b733966fad1d64cb8c9a0810041b5ce0b73be89", func := "standby/standbylaw42.FanoutReports", spec := "fanoutReports", unfollowed := true, recurses := true, apart := false }
def FanoutReportsSaid : Prop := fanoutReportsRow.holds Tryz.pinned (OpenSpec.ofChange fanoutReportsSpec)

/-- ITS FALSE NEIGHBOUR: 'it returns false'. Refute it at one input. -/
def fanoutReportsWrong : ChangeSpec := { name := "fanoutReports", fn := fun _ => fun
  | [d1, d2, d3] => { results := [.lit (.bool false)], args := [d1, d2, d3] }
  | _ => none }
def FanoutReportsWrongFalsely : Prop := fanoutReportsRow.holds Tryz.pinned (OpenSpec.ofChange fanoutReportsWrong)

/-- 'standbylaw42.FanoutReturns': WHATEVER THE INPUT: true; the input reads as it did. -/
def fanoutReturnsSpec : ChangeSpec := { name := "fanoutReturns", fn := fun _ => fun
  | [d1, d2, d3] => { results := [.lit (.bool true)], args := [d1, d2, d3] }
  | _ => none }
def fanoutReturnsRow : OpenClaim := { program := "ytpadnceoacbaeaagreat", sum := "6ade8b3bcb50bd7ae59491d42b733966fad1d64cb8c9a0810041b5ce0b73be89", func := "standby/standbylaw42.FanoutReturns", spec := "fanoutReturns", unfollowed := true, recurses := true, apart := false }
def FanoutReturnsSaid : Prop := fanoutReturnsRow.holds Tryz.pinned (OpenSpec.ofChange fanoutReturnsSpec)

/-- ITS FALSE NEIGHBOUR: 'it returns false'. Refute it at one input. -/
def fanoutReturnsWrong : ChangeSpec := { name := "fanoutReturns", fn := fun _ => fun
  | [d1, d2, d3] => { results := [.lit (.bool false)], args := [d1, d2, d3] }
  | _ => none }
def FanoutReturnsWrongFalsely : Prop := fanoutReturnsRow.holds Tryz.pinned (OpenSpec.ofChange fanoutReturnsWrong)

/-- 'standbylaw42.FanoutKeeps': WHATEVER THE INPUT: true; the input reads as it did. -/
def fanoutKeepsSpec : ChangeSpec := { name := "fanoutKeeps", fn := fun _ => fun
  | [d] => { results := [.lit (.bool true)], args := [d] }
  | _ => none }
def fanoutKeepsRow : OpenClaim := { program := "ytpadnceoacbaeaagreat", sum := "6ade8b3bcb50bd7ae59491d42b733966fad1d64cb8c9a0810041b5ce0b73be89", func := "standby/standbylaw42.FanoutKeeps", spec := "fanoutKeeps", unfollowed := true, recurses := true, apart := false }
def FanoutKeepsSaid : Prop := fanoutKeepsRow.holds Tryz.pinned (OpenSpec.ofChange fanoutKeepsSpec)

/-- ITS FALSE NEIGHBOUR: 'it returns false'. Refute it at one input. -/
def fanoutKeepsWrong : ChangeSpec := { name := "fanoutKeeps", fn := fun _ => fun
  | [d] => { results := [.lit (.bool false)], args := [d] }
  | _ => none }
def FanoutKeepsWrongFalsely : Prop := fanoutKeepsRow.holds Tryz.pinned (OpenSpec.ofChange fanoutKeepsWrong)

/-- 'standbylaw42.FanoutFeeds': WHATEVER THE INPUT: true; the input reads as it did. -/
def fanoutFeedsSpec : ChangeSpec := { name := "fanoutFeeds", fn := fun _ => fun
  | [d] => { results := [.lit (.bool true)], args := [d] }
  | _ => none }
def fanoutFeedsRow : OpenClaim := { program := "ytpadnceoacbaeaagreat", sum := "6ade8b3bcb50bd7ae59491d42b733966fad1d64cb8c9a0810041b5ce0b73be89", func := "standby/standbylaw42.FanoutFeeds", spec := "fanoutFeeds", unfollowed := true, recurses := true, apart := false }
def FanoutFeedsSaid : Prop := fanoutFeedsRow.holds Tryz.pinned (OpenSpec.ofChange fanoutFeedsSpec)

/-- ITS FALSE NEIGHBOUR: 'it returns false'. Refute it at one input. -/
def fanoutFeedsWrong : ChangeSpec := { name := "fanoutFeeds", fn := fun _ => fun
  | [d] => { results := [.lit (.bool false)], args := [d] }
  | _ => none }
def FanoutFeedsWrongFalsely : Prop := fanoutFeedsRow.holds Tryz.pinned (OpenSpec.ofChange fanoutFeedsWrong)

/- THE SECOND FORM. 'bulk': how many values and letters a reading holds, each counted each time it is reached (what is shared counts as often as it is met; a slice's spare places count too). A statement '..UptoSaid' is the law's where the arguments, and the package variables that the reading takes, are together of bulk at most 1048576: NARROWER than '..Said'. Prove '..Said' where nothing that the law and all that it calls make is longer than what came in: it says more and counts as full. Else prove '..UptoSaid'. A law counts once. -/
mutual
def uptoBulk {H : Type} : DataW H → Nat
  | .lit (.string bytes) => bytes.length + 1
  | .lit _ => 1
  | .nil => 1
  | .ptr d => uptoBulk d + 1
  | .slice elems spare => uptoBulkAll elems + uptoBulkAll spare + 1
  | .agg parts => uptoBulkAll parts + 1
  | .iface _ d => uptoBulk d + 1
  | .map entries => uptoBulkEntries entries + 1
  | .held _ => 1
def uptoBulkAll {H : Type} : List (DataW H) → Nat
  | [] => 0
  | d :: r => uptoBulk d + uptoBulkAll r
def uptoBulkEntries {H : Type} : List (Lit × DataW H) → Nat
  | [] => 0
  | x :: r => uptoBulkEntry x + uptoBulkEntries r
def uptoBulkEntry {H : Type} : Lit × DataW H → Nat
  | (.string bytes, d) => bytes.length + uptoBulk d + 1
  | (_, d) => uptoBulk d + 1
 end
def uptoSmall : (H : Type) → List (DataW H) → Bool := fun _ ds => decide (uptoBulkAll ds ≤ 1048576)
def OpenSpec.upto (s : _root_.Go.ChangeSpec) : _root_.Go.OpenSpec := { _root_.Go.OpenSpec.ofChange s with cond := some uptoSmall }

/-- 'standbylaw42.FanoutPushes', WHERE WHAT IT READS IS OF BULK AT MOST 1048576: true; the input reads as it did. -/
def fanoutPushesUptoRow : OpenClaim := { program := "ytpadnceoacbaeaagreat", sum := "6ade8b3bcb50bd7ae59491d42b733966fad1d64cb8c9a0810041b5ce0b73be89", func := "standby/standbylaw42.FanoutPushes", spec := "fanoutPushes", unfollowed := true, recurses := true, apart := false, narrowed := true }
def FanoutPushesUptoSaid : Prop := fanoutPushesUptoRow.holds Tryz.pinned (OpenSpec.upto fanoutPushesSpec)

/-- 'standbylaw42.FanoutReports', WHERE WHAT IT READS IS OF BULK AT MOST 1048576: true; the input reads as it did. -/
def fanoutReportsUptoRow : OpenClaim := { program := "ytpadnceoacbaeaagreat", sum := "6ade8b3bcb50bd7ae59491d42b733966fad1d64cb8c9a0810041b5ce0b73be89", func := "standby/standbylaw42.FanoutReports", spec := "fanoutReports", unfollowed := true, recurses := true, apart := false, narrowed := true }
def FanoutReportsUptoSaid : Prop := fanoutReportsUptoRow.holds Tryz.pinned (OpenSpec.upto fanoutReportsSpec)

/-- 'standbylaw42.FanoutReturns', WHERE WHAT IT READS IS OF BULK AT MOST 1048576: true; the input reads as it did. -/
def fanoutReturnsUptoRow : OpenClaim := { program := "ytpadnceoacbaeaagreat", sum := "6ade8b3bcb50bd7ae59491d42b733966fad1d64cb8c9a0810041b5ce0b73be89", func := "standby/standbylaw42.FanoutReturns", spec := "fanoutReturns", unfollowed := true, recurses := true, apart := false, narrowed := true }
def FanoutReturnsUptoSaid : Prop := fanoutReturnsUptoRow.holds Tryz.pinned (OpenSpec.upto fanoutReturnsSpec)

/-- 'standbylaw42.FanoutKeeps', WHERE WHAT IT READS IS OF BULK AT MOST 1048576: true; the input reads as it did. -/
def fanoutKeepsUptoRow : OpenClaim := { program := "ytpadnceoacbaeaagreat", sum := "6ade8b3bcb50bd7ae59491d42b733966fad1d64cb8c9a0810041b5ce0b73be89", func := "standby/standbylaw42.FanoutKeeps", spec := "fanoutKeeps", unfollowed := true, recurses := true, apart := false, narrowed := true }
def FanoutKeepsUptoSaid : Prop := fanoutKeepsUptoRow.holds Tryz.pinned (OpenSpec.upto fanoutKeepsSpec)

/-- 'standbylaw42.FanoutFeeds', WHERE WHAT IT READS IS OF BULK AT MOST 1048576: true; the input reads as it did. -/
def fanoutFeedsUptoRow : OpenClaim := { program := "ytpadnceoacbaeaagreat", sum := "6ade8b3bcb50bd7ae59491d42b733966fad1d64cb8c9a0810041b5ce0b73be89", func := "standby/standbylaw42.FanoutFeeds", spec := "fanoutFeeds", unfollowed := true, recurses := true, apart := false, narrowed := true }
def FanoutFeedsUptoSaid : Prop := fanoutFeedsUptoRow.holds Tryz.pinned (OpenSpec.upto fanoutFeedsSpec)

end Rows
end Go.Proofs.YtpadnceoacbaeaaGreat
