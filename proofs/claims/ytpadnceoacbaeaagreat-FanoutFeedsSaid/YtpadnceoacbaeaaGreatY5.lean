/-
  The images of targets that apply their next cycles are those of the source; at the end every target that is not lost reaches the newest one, and then nothing is kept.
  Conditions: none: for every input of the statement.
-/
import Derived.Test.YtpadnceoacbaeaaGreatRows
import Derived.Test.YtpadnceoacbaeaaGreatA8
import Derived.Test.YtpadnceoacbaeaaGreatA8
set_option linter.unusedVariables false
set_option linter.unusedSimpArgs false
namespace Go.Proofs.YtpadnceoacbaeaaGreat
open Go.Proofs Go.ChangeShapes Go.WideShapes Go.ChangeAt Go.RowKit
namespace FanoutFeeds
theorem own : ownKnob Tryz.prog.godebug = none := by kernel_rfl
theorem laidOut : laidOutB Tryz.prog = true := by kernel_rfl
set_option maxRecDepth 100000 in
theorem lifted (os : Os) (started : os.Started) (H : Type) (enc : TypeId × Value → H) :
    ReturnsInHanded {} Tryz.checked os 7 .any (Go.Proofs.YtpadnceoacbaeaaGreat.Rows.fanoutFeedsSpec.pre6 enc Tryz.prog Tryz.f7 Go.Proofs.YtpadnceoacbaeaaGreat.Rows.fanoutFeedsRow.domain false) (Go.Proofs.YtpadnceoacbaeaaGreat.Rows.fanoutFeedsSpec.post enc Tryz.prog Tryz.f7 false true false false) := by
  refine returnsInHanded_of_change (C := Tryz.checked) own started (by kernel_rfl) Tryz.func7
    (ChangeSpec.witness6 (enc := enc) (C := Tryz.checked) false ⟨#[], #[.agg #[.int .u8 0, .int .u8 0, .slice none 0 0, .slice none 0 0]], []⟩ 8 (by kernel_rfl) (by kernel_rfl) (by kernel_rfl) (by kernel_rfl)) ?_
  intro W base args ds gs before hval0 hW hcnd _
  have hval : ∀ (j : Nat) t v, Tryz.f7.params[j]? = some t → args[j]? = some v → Value.okWide Tryz.prog W .any base t v := hval0
  have hW' := hW
  obtain ⟨p, q, hA0, hV, rfl, hfz, hnd⟩ := hW
  have hA : DataW.TrodAll enc Tryz.prog W 0 (fun _ => true) true Tryz.f7.params.toList args.toList ds p := hA0
  rw [Tryz.params7] at hA hval
  have hB := hA
  obtain ⟨v0, vs0, d0, ds0, p0, q0, hargs, rfl, rfl, h0, r0⟩ := trodAll_cons hA
  obtain ⟨rfl, rfl, rfl⟩ := trodAll_nil r0
  obtain rfl : args = #[v0] := by cases args; simp_all
  obtain ⟨rfl, rfl⟩ := trodVars_none hV
  obtain ⟨us0, rfl, _⟩ := okWide_struct Tryz.underlying53 (hval 0 53 v0 rfl rfl)
  obtain ⟨_, ⟨x0, rfl, lim0⟩, rel0⟩ := Opens.args opens_pln h0
  clear hA0 hval0
  have rels : RelL (gh0 W) W [] [.agg (plC x0)] _ := relL_mk2 rel0 (relL_nil)
  refine (law_calls rels (Feeds_cc _ _ x0 lim0) fun _ _ _ h => h.1).mono fun e W' ⟨he, bel⟩ => ?_
  subst he
  exact ⟨_, rfl, _, _, _, [], _, [], hW', trodAll_mk1 (shut_bool Tryz.underlying4 _), trodAll_below laidOut bel (by kernel_rfl) hB, rfl, bel.frame _, fun h => by cases h⟩

theorem over : Go.Proofs.YtpadnceoacbaeaaGreat.Rows.fanoutFeedsRow.holds Go.Proofs.YtpadnceoacbaeaaGreat.Tryz.pinned (OpenSpec.ofChange Go.Proofs.YtpadnceoacbaeaaGreat.Rows.fanoutFeedsSpec) :=
  OpenClaim.holds_of_wide 7 Tryz.f7 rfl rfl rfl rfl rfl rfl rfl ⟨rfl, rfl, rfl, rfl, rfl⟩ rfl rfl rfl rfl rfl (by kernel_rfl) Tryz.func7 (by kernel_rfl)
    (of_decide_eq_true (by kernel_rfl)) (by unfold Func.isWrapper; first | (rw [if_pos (by decide +kernel)]; kernel_rfl) | (rw [if_neg (by decide +kernel)]; exact ⟨rfl, rfl⟩))
    (fun os started H enc _ => lifted os started H enc)
end FanoutFeeds
theorem provedFanoutFeeds : Go.Proofs.YtpadnceoacbaeaaGreat.Rows.FanoutFeedsSaid := FanoutFeeds.over
end Go.Proofs.YtpadnceoacbaeaaGreat
