/-
  Cycle returns the cycle or the error of the reference for all assemblies.
  Conditions: none: for every input of the statement.
-/
import Derived.Test.YtfbjhkpdlihgeaaGreatRows
import Derived.Test.YtfbjhkpdlihgeaaGreatA7
import Derived.Test.YtfbjhkpdlihgeaaGreatA7
set_option linter.unusedVariables false
set_option linter.unusedSimpArgs false
namespace Go.Proofs.YtfbjhkpdlihgeaaGreat
open Go.Proofs Go.ChangeShapes Go.WideShapes Go.ChangeAt Go.RowKit
namespace BatchCycles
theorem own : ownKnob Tryz.prog.godebug = none := by kernel_rfl
theorem laidOut : laidOutB Tryz.prog = true := by kernel_rfl
set_option maxRecDepth 100000 in
theorem lifted (os : Os) (started : os.Started) (H : Type) (enc : TypeId × Value → H) :
    ReturnsInHanded {} Tryz.checked os 4 .any (Go.Proofs.YtfbjhkpdlihgeaaGreat.Rows.batchCyclesSpec.pre6 enc Tryz.prog Tryz.f4 Go.Proofs.YtfbjhkpdlihgeaaGreat.Rows.batchCyclesRow.domain false) (Go.Proofs.YtfbjhkpdlihgeaaGreat.Rows.batchCyclesSpec.post enc Tryz.prog Tryz.f4 false true false false) := by
  refine returnsInHanded_of_change (C := Tryz.checked) own started (by kernel_rfl) Tryz.func4
    (ChangeSpec.witness6 (enc := enc) (C := Tryz.checked) false ⟨#[], #[.agg #[.int .i64 0, .int .i64 0, .int .i64 0, .slice none 0 0, .slice none 0 0]], []⟩ 8 (by kernel_rfl) (by kernel_rfl) (by kernel_rfl) (by kernel_rfl)) ?_
  intro W base args ds gs before hval0 hW hcnd _
  have hval : ∀ (j : Nat) t v, Tryz.f4.params[j]? = some t → args[j]? = some v → Value.okWide Tryz.prog W .any base t v := hval0
  have hW' := hW
  obtain ⟨p, q, hA0, hV, rfl, hfz, hnd⟩ := hW
  have hA : DataW.TrodAll enc Tryz.prog W 0 (fun _ => true) true Tryz.f4.params.toList args.toList ds p := hA0
  rw [Tryz.params4] at hA hval
  have hB := hA
  obtain ⟨v0, vs0, d0, ds0, p0, q0, hargs, rfl, rfl, h0, r0⟩ := trodAll_cons hA
  obtain ⟨rfl, rfl, rfl⟩ := trodAll_nil r0
  obtain rfl : args = #[v0] := by cases args; simp_all
  obtain ⟨rfl, rfl⟩ := trodVars_none hV
  obtain ⟨us0, rfl, _⟩ := okWide_struct Tryz.underlying38 (hval 0 38 v0 rfl rfl)
  obtain ⟨_, ⟨x0, rfl⟩, rel0⟩ := Opens.args opens_asm h0
  clear hA0 hval0
  have rels : RelL (gh0 W) W [] [.agg (asmC x0)] _ := relL_mk2 rel0 (relL_nil)
  refine (law_calls rels (Cycles_cc _ _ x0) fun _ _ _ h => h.1).mono fun e W' ⟨he, bel⟩ => ?_
  subst he
  exact ⟨_, rfl, _, _, _, [], _, [], hW', trodAll_mk1 (shut_bool Tryz.underlying4 _), trodAll_below laidOut bel (by kernel_rfl) hB, rfl, bel.frame _, fun h => by cases h⟩

theorem over : Go.Proofs.YtfbjhkpdlihgeaaGreat.Rows.batchCyclesRow.holds Go.Proofs.YtfbjhkpdlihgeaaGreat.Tryz.pinned (OpenSpec.ofChange Go.Proofs.YtfbjhkpdlihgeaaGreat.Rows.batchCyclesSpec) :=
  OpenClaim.holds_of_wide 4 Tryz.f4 rfl rfl rfl rfl rfl rfl rfl ⟨rfl, rfl, rfl, rfl, rfl⟩ rfl rfl rfl rfl rfl (by kernel_rfl) Tryz.func4 (by kernel_rfl)
    (of_decide_eq_true (by kernel_rfl)) (by unfold Func.isWrapper; first | (rw [if_pos (by decide +kernel)]; kernel_rfl) | (rw [if_neg (by decide +kernel)]; exact ⟨rfl, rfl⟩))
    (fun os started H enc _ => lifted os started H enc)
end BatchCycles
theorem provedBatchCycles : Go.Proofs.YtfbjhkpdlihgeaaGreat.Rows.BatchCyclesSaid := BatchCycles.over
end Go.Proofs.YtfbjhkpdlihgeaaGreat
