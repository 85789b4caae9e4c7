/-
  The encoding of a number is as long as its number of groups of seven digits, and a greater number has no shorter one: WireSizes returns true for all numbers.
  Conditions: none: for every input of the statement.
-/
import Derived.Test.YtffjhibomipemaaRows
import Derived.Test.YtffjhibomipemaaG2
import Derived.Test.YtffjhibomipemaaX1
namespace Go.Proofs.Ytffjhibomipemaa
open Go.Proofs Go.ChangeShapes Go.WideShapes Go.ChangeAt Go.RowKit
namespace WireSizes
theorem own : ownKnob Try.prog.godebug = none := by kernel_rfl
theorem laidOut : laidOutB Try.prog = true := by kernel_rfl
set_option maxRecDepth 100000 in
theorem lifted (os : Os) (started : os.Started) (H : Type) (enc : TypeId × Value → H) :
    ReturnsInHanded {} Try.checked os 3 .any (Go.Proofs.Ytffjhibomipemaa.Rows.wireSizesSpec.pre6 enc Try.prog Try.f3 Go.Proofs.Ytffjhibomipemaa.Rows.wireSizesRow.domain false) (Go.Proofs.Ytffjhibomipemaa.Rows.wireSizesSpec.post enc Try.prog Try.f3 false true false false) := by
  refine returnsInHanded_of_change (C := Try.checked) own started (by kernel_rfl) Try.func3
    (ChangeSpec.witness6 (enc := enc) (C := Try.checked) false ⟨#[], #[.int .i64 0, .int .i64 0], []⟩ 8 (by kernel_rfl) (by kernel_rfl) (by kernel_rfl) (by kernel_rfl)) ?_
  intro W base args ds gs before hval0 hW hcnd _
  have hval : ∀ (j : Nat) t v, Try.f3.params[j]? = some t → args[j]? = some v → Value.okWide Try.prog W .any base t v := hval0
  have hW' := hW
  obtain ⟨p, q, hA0, hV, rfl, hfz, hnd⟩ := hW
  have hA : DataW.TrodAll enc Try.prog W 0 (fun _ => true) true Try.f3.params.toList args.toList ds p := hA0
  rw [Try.params3] at hA hval
  have hB := hA
  obtain ⟨v0, vs0, d0, ds0, p0, q0, hargs, rfl, rfl, h0, r0⟩ := trodAll_cons hA
  obtain ⟨v1, vs1, d1, ds1, p1, q1, rfl, rfl, rfl, h1, r1⟩ := trodAll_cons r0
  obtain ⟨rfl, rfl, rfl⟩ := trodAll_nil r1
  obtain rfl : args = #[v0, v1] := by cases args; simp_all
  obtain ⟨rfl, rfl⟩ := trodVars_none hV
  obtain ⟨a0, rfl⟩ := okWide_int Try.underlying3 (hval 0 3 v0 rfl rfl)
  obtain ⟨_, ⟨x0, hx0⟩, rel0⟩ := Opens.arg opens_int rfl h0
  obtain rfl := (List.cons.inj hx0).1
  obtain ⟨a1, rfl⟩ := okWide_int Try.underlying3 (hval 1 3 v1 rfl rfl)
  obtain ⟨_, ⟨x1, hx1⟩, rel1⟩ := Opens.arg opens_int rfl h1
  obtain rfl := (List.cons.inj hx1).1
  clear hA0 hval0
  have rels : RelL (gh0 W) W [] [ci x0, ci x1] _ := relL_mk2 rel0 (relL_mk2 rel1 (relL_nil))
  refine (law_calls rels (WireSizes_cc x0 x1) fun _ _ _ h => h.1).mono fun e W' ⟨he, bel⟩ => ?_
  subst he
  exact ⟨_, rfl, _, _, _, [], _, [], hW', trodAll_mk1 (shut_bool Try.underlying4 _), trodAll_below laidOut bel (by kernel_rfl) hB, rfl, bel.frame _, fun h => by cases h⟩

theorem over : Go.Proofs.Ytffjhibomipemaa.Rows.wireSizesRow.holds Go.Proofs.Ytffjhibomipemaa.Try.pinned (OpenSpec.ofChange Go.Proofs.Ytffjhibomipemaa.Rows.wireSizesSpec) :=
  OpenClaim.holds_of_wide 3 Try.f3 rfl rfl rfl rfl rfl rfl rfl ⟨rfl, rfl, rfl, rfl, rfl⟩ rfl rfl rfl rfl rfl (by kernel_rfl) Try.func3 (by kernel_rfl)
    (of_decide_eq_true (by kernel_rfl)) (by unfold Func.isWrapper; first | (rw [if_pos (by decide +kernel)]; kernel_rfl) | (rw [if_neg (by decide +kernel)]; exact ⟨rfl, rfl⟩))
    (fun os started H enc _ => lifted os started H enc)
end WireSizes
theorem provedWireSizes : Go.Proofs.Ytffjhibomipemaa.Rows.WireSizesSaid := WireSizes.over
end Go.Proofs.Ytffjhibomipemaa
