/-
  Values that are put are read again, and what stands behind them is the rest: WireBack returns true for all values and bytes.
  Conditions: none: for every input of the statement.
-/
import Derived.Test.YtffjhibomipemaaRows
import Derived.Test.YtffjhibomipemaaG2
import Derived.Test.YtffjhibomipemaaX8
namespace Go.Proofs.Ytffjhibomipemaa
open Go.Proofs Go.ChangeShapes Go.WideShapes Go.ChangeAt Go.RowKit
namespace WireBack
theorem own : ownKnob Try.prog.godebug = none := by kernel_rfl
theorem laidOut : laidOutB Try.prog = true := by kernel_rfl
set_option maxRecDepth 100000 in
theorem lifted (os : Os) (started : os.Started) (H : Type) (enc : TypeId × Value → H) :
    ReturnsInHanded {} Try.checked os 10 .any (Go.Proofs.Ytffjhibomipemaa.Rows.wireBackSpec.pre6 enc Try.prog Try.f10 Go.Proofs.Ytffjhibomipemaa.Rows.wireBackRow.domain false) (Go.Proofs.Ytffjhibomipemaa.Rows.wireBackSpec.post enc Try.prog Try.f10 false true false false) := by
  refine returnsInHanded_of_change (C := Try.checked) own started (by kernel_rfl) Try.func10
    (ChangeSpec.witness6 (enc := enc) (C := Try.checked) false ⟨#[], #[.agg #[.slice none 0 0, .slice none 0 0, .slice none 0 0, .slice none 0 0], .slice none 0 0], []⟩ 8 (by kernel_rfl) (by kernel_rfl) (by kernel_rfl) (by kernel_rfl)) ?_
  intro W base args ds gs before hval0 hW hcnd _
  have hval : ∀ (j : Nat) t v, Try.f10.params[j]? = some t → args[j]? = some v → Value.okWide Try.prog W .any base t v := hval0
  have hW' := hW
  obtain ⟨p, q, hA0, hV, rfl, hfz, hnd⟩ := hW
  have hA : DataW.TrodAll enc Try.prog W 0 (fun _ => true) true Try.f10.params.toList args.toList ds p := hA0
  rw [Try.params10] at hA hval
  have hB := hA
  obtain ⟨v0, vs0, d0, ds0, p0, q0, hargs, rfl, rfl, h0, r0⟩ := trodAll_cons hA
  obtain ⟨v1, vs1, d1, ds1, p1, q1, rfl, rfl, rfl, h1, r1⟩ := trodAll_cons r0
  obtain ⟨rfl, rfl, rfl⟩ := trodAll_nil r1
  obtain rfl : args = #[v0, v1] := by cases args; simp_all
  obtain ⟨rfl, rfl⟩ := trodVars_none hV
  obtain ⟨us0, rfl, _⟩ := okWide_struct Try.underlying37 (hval 0 37 v0 rfl rfl)
  obtain ⟨_, ⟨x0, rfl, lim0⟩, rel0⟩ := Opens.args opens_vals h0
  obtain ⟨a1, len1, cap1, rfl⟩ := okWide_slice Try.underlying24 (hval 1 24 v1 rfl rfl)
  obtain ⟨_, ⟨x1, hx1, lim1⟩, rel1⟩ := Opens.arg opens_bytes rfl h1
  obtain rfl := (List.cons.inj hx1).1
  clear hA0 hval0
  have rels : RelL (gh0 W) W [] [.agg (valC x0), .sl .sh 1 (bs x1)] _ := relL_mk2 rel0 (relL_mk2 rel1 (relL_nil))
  refine (law_calls rels (WireBack_cc x0 x1) fun _ _ _ h => h.1).mono fun e W' ⟨he, bel⟩ => ?_
  subst he
  exact ⟨_, rfl, _, _, _, [], _, [], hW', trodAll_mk1 (shut_bool Try.underlying4 _), trodAll_below laidOut bel (by kernel_rfl) hB, rfl, bel.frame _, fun h => by cases h⟩

theorem over : Go.Proofs.Ytffjhibomipemaa.Rows.wireBackRow.holds Go.Proofs.Ytffjhibomipemaa.Try.pinned (OpenSpec.ofChange Go.Proofs.Ytffjhibomipemaa.Rows.wireBackSpec) :=
  OpenClaim.holds_of_wide 10 Try.f10 rfl rfl rfl rfl rfl rfl rfl ⟨rfl, rfl, rfl, rfl, rfl⟩ rfl rfl rfl rfl rfl (by kernel_rfl) Try.func10 (by kernel_rfl)
    (of_decide_eq_true (by kernel_rfl)) (by unfold Func.isWrapper; first | (rw [if_pos (by decide +kernel)]; kernel_rfl) | (rw [if_neg (by decide +kernel)]; exact ⟨rfl, rfl⟩))
    (fun os started H enc _ => lifted os started H enc)
end WireBack
theorem provedWireBack : Go.Proofs.Ytffjhibomipemaa.Rows.WireBackSaid := WireBack.over
end Go.Proofs.Ytffjhibomipemaa
