/-
  A lost target can come back exactly at the boundaries of the cycles that are kept, if others are not lost; and then finds its next cycle there.
  Conditions: none: for every input of the statement.
-/
import Derived.Test.YtpadnceoacbaeaaGreatRows
import Derived.Test.YtpadnceoacbaeaaGreatA8
import Derived.Test.YtpadnceoacbaeaaGreatA8
set_option linter.unusedVariables false
set_option linter.unusedSimpArgs false
namespace Go.Proofs.YtpadnceoacbaeaaGreat
open Go.Proofs Go.ChangeShapes Go.WideShapes Go.ChangeAt Go.RowKit
namespace FanoutReturns
theorem own : ownKnob Tryz.prog.godebug = none := by kernel_rfl
theorem laidOut : laidOutB Tryz.prog = true := by kernel_rfl
set_option maxRecDepth 100000 in
theorem lifted (os : Os) (started : os.Started) (H : Type) (enc : TypeId × Value → H) :
    ReturnsInHanded {} Tryz.checked os 5 .any (Go.Proofs.YtpadnceoacbaeaaGreat.Rows.fanoutReturnsSpec.pre6 enc Tryz.prog Tryz.f5 Go.Proofs.YtpadnceoacbaeaaGreat.Rows.fanoutReturnsRow.domain false) (Go.Proofs.YtpadnceoacbaeaaGreat.Rows.fanoutReturnsSpec.post enc Tryz.prog Tryz.f5 false true false false) := by
  refine returnsInHanded_of_change (C := Tryz.checked) own started (by kernel_rfl) Tryz.func5
    (ChangeSpec.witness6 (enc := enc) (C := Tryz.checked) false ⟨#[], #[.agg #[.int .u8 0, .int .u8 0, .slice none 0 0, .slice none 0 0], .int .u8 0, .int .u8 0], []⟩ 8 (by kernel_rfl) (by kernel_rfl) (by kernel_rfl) (by kernel_rfl)) ?_
  intro W base args ds gs before hval0 hW hcnd _
  have hval : ∀ (j : Nat) t v, Tryz.f5.params[j]? = some t → args[j]? = some v → Value.okWide Tryz.prog W .any base t v := hval0
  have hW' := hW
  obtain ⟨p, q, hA0, hV, rfl, hfz, hnd⟩ := hW
  have hA : DataW.TrodAll enc Tryz.prog W 0 (fun _ => true) true Tryz.f5.params.toList args.toList ds p := hA0
  rw [Tryz.params5] at hA hval
  have hB := hA
  obtain ⟨v0, vs0, d0, ds0, p0, q0, hargs, rfl, rfl, h0, r0⟩ := trodAll_cons hA
  obtain ⟨v1, vs1, d1, ds1, p1, q1, rfl, rfl, rfl, h1, r1⟩ := trodAll_cons r0
  obtain ⟨v2, vs2, d2, ds2, p2, q2, rfl, rfl, rfl, h2, r2⟩ := trodAll_cons r1
  obtain ⟨rfl, rfl, rfl⟩ := trodAll_nil r2
  obtain rfl : args = #[v0, v1, v2] := by cases args; simp_all
  obtain ⟨rfl, rfl⟩ := trodVars_none hV
  obtain ⟨us0, rfl, _⟩ := okWide_struct Tryz.underlying53 (hval 0 53 v0 rfl rfl)
  obtain ⟨_, ⟨x0, rfl, lim0⟩, rel0⟩ := Opens.args opens_pln h0
  obtain ⟨a1, rfl⟩ := okWide_int Tryz.underlying5 (hval 1 5 v1 rfl rfl)
  obtain ⟨_, ⟨x1, hx1⟩, rel1⟩ := Opens.arg opens_u8 rfl h1
  obtain rfl := (List.cons.inj hx1).1
  obtain ⟨a2, rfl⟩ := okWide_int Tryz.underlying5 (hval 2 5 v2 rfl rfl)
  obtain ⟨_, ⟨x2, hx2⟩, rel2⟩ := Opens.arg opens_u8 rfl h2
  obtain rfl := (List.cons.inj hx2).1
  clear hA0 hval0
  have rels : RelL (gh0 W) W [] [.agg (plC x0), .v (.int .u8 (x1.toNat : Int)), .v (.int .u8 (x2.toNat : Int))] _ := relL_mk2 rel0 (relL_mk2 rel1 (relL_mk2 rel2 (relL_nil)))
  refine (law_calls rels (Returns_cc _ _ x0 x1 x2 lim0) fun _ _ _ h => h.1).mono fun e W' ⟨he, bel⟩ => ?_
  subst he
  exact ⟨_, rfl, _, _, _, [], _, [], hW', trodAll_mk1 (shut_bool Tryz.underlying4 _), trodAll_below laidOut bel (by kernel_rfl) hB, rfl, bel.frame _, fun h => by cases h⟩

theorem over : Go.Proofs.YtpadnceoacbaeaaGreat.Rows.fanoutReturnsRow.holds Go.Proofs.YtpadnceoacbaeaaGreat.Tryz.pinned (OpenSpec.ofChange Go.Proofs.YtpadnceoacbaeaaGreat.Rows.fanoutReturnsSpec) :=
  OpenClaim.holds_of_wide 5 Tryz.f5 rfl rfl rfl rfl rfl rfl rfl ⟨rfl, rfl, rfl, rfl, rfl⟩ rfl rfl rfl rfl rfl (by kernel_rfl) Tryz.func5 (by kernel_rfl)
    (of_decide_eq_true (by kernel_rfl)) (by unfold Func.isWrapper; first | (rw [if_pos (by decide +kernel)]; kernel_rfl) | (rw [if_neg (by decide +kernel)]; exact ⟨rfl, rfl⟩))
    (fun os started H enc _ => lifted os started H enc)
end FanoutReturns
theorem provedFanoutReturns : Go.Proofs.YtpadnceoacbaeaaGreat.Rows.FanoutReturnsSaid := FanoutReturns.over
end Go.Proofs.YtpadnceoacbaeaaGreat
