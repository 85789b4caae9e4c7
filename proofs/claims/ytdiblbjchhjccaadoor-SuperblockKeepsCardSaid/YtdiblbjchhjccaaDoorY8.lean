/-
  SuperblockKeeps: the operations of Format and Store write no sector outside of the superblock.
  Conditions: none: for every input of the statement.
-/
import Derived.Test.YtdiblbjchhjccaaDoorRows
import Derived.Test.YtdiblbjchhjccaaDoorA22
import Derived.Test.YtdiblbjchhjccaaDoorA21
import Derived.Test.YtdiblbjchhjccaaDoorTie
import Derived.Test.YtdiblbjchhjccaaDoorCards
import Derived.Lay
import Derived.LaidLaws
import Derived.LaidHandle
import Derived.SevenTiedAt
set_option linter.unusedVariables false
set_option linter.unusedSimpArgs false
namespace Go.Proofs.YtdiblbjchhjccaaDoor
open Go.Proofs Go.ChangeShapes Go.WideShapes Go.ChangeAt Go.RowKit
namespace SuperblockKeeps
theorem own : ownKnob Tryd.prog.godebug = none := by kernel_rfl
theorem laidOut : laidOutB Tryd.prog = true := by kernel_rfl
set_option maxRecDepth 100000 in
theorem lifted (os : Os) (started : os.Started) (H : Type) (enc : TypeId × Value → H) :
    ReturnsInHanded {} Tryd.checked os 8 .any (fun w args => (Go.Proofs.YtdiblbjchhjccaaDoor.Rows.superblockKeepsSpec.pre enc Tryd.prog Tryd.f8 [] false w args ∧ laidMetH Tryd.prog Go.Proofs.YtdiblbjchhjccaaDoor.Rows.superblockKeepsRow.laid w) ∧ sizedMet enc Tryd.prog Tryd.f8 (OpenSpec.ofChange Go.Proofs.YtdiblbjchhjccaaDoor.Rows.superblockKeepsSpec) false w args) (Go.Proofs.YtdiblbjchhjccaaDoor.Rows.superblockKeepsSpec.post enc Tryd.prog Tryd.f8 false true false false) := by
  refine returnsInHanded_of_change_and (C := Tryd.checked) (X := fun w _ => laidMetH Tryd.prog Go.Proofs.YtdiblbjchhjccaaDoor.Rows.superblockKeepsRow.laid w) (fun _ _ _ hh h => h.of_heap hh) own started (by kernel_rfl) Tryd.func8
    (ChangeSpec.witness_shaped (enc := enc) (C := Tryd.checked) (os := os) (X := fun w _ => laidMetH Tryd.prog Go.Proofs.YtdiblbjchhjccaaDoor.Rows.superblockKeepsRow.laid w) false (World.laidAll Tryd.prog os Go.Proofs.YtdiblbjchhjccaaDoor.Rows.superblockKeepsRow.laid) #[.slice none 0 0, .slice none 0 0] 8 (World.laidAll_os _ _ _)
      (World.shaped_of_ZipB (by kernel_rfl) (by kernel_rfl)) (by kernel_rfl) (by kernel_rfl) (by kernel_rfl)
      (by rw [MakeChecks.laidMetH_plain _ _ _ (by kernel_rfl)]; exact laidMet_laidAll _ (by kernel_rfl) (by kernel_rfl))) ?_
  intro W base args ds gs before hval0 hW _ _ _ _
  have hval : ∀ (j : Nat) t v, Tryd.f8.params[j]? = some t → args[j]? = some v → Value.okWide Tryd.prog W .any base t v := hval0
  have hW' := hW
  obtain ⟨p, q, hA0, hV, rfl, hfz, hnd⟩ := hW
  have hA : DataW.TrodAll enc Tryd.prog W 0 (fun _ => true) true Tryd.f8.params.toList args.toList ds p := hA0
  rw [Tryd.params8] at hA hval
  have hB := hA
  obtain ⟨v0, vs0, d0, ds0, p0, q0, hargs, rfl, rfl, h0, r0⟩ := trodAll_cons hA
  obtain ⟨v1, vs1, d1, ds1, p1, q1, rfl, rfl, rfl, h1, r1⟩ := trodAll_cons r0
  obtain ⟨rfl, rfl, rfl⟩ := trodAll_nil r1
  obtain rfl : args = #[v0, v1] := by cases args; simp_all
  obtain ⟨rfl, rfl⟩ := trodVars_none hV
  obtain ⟨a0, len0, cap0, rfl⟩ := okWide_slice Tryd.underlying32 (hval 0 32 v0 rfl rfl)
  obtain ⟨_, ⟨x0, hx0, lim0⟩, rel0⟩ := Opens.arg opens_secs rfl h0
  obtain rfl := (List.cons.inj hx0).1
  obtain ⟨a1, len1, cap1, rfl⟩ := okWide_slice Tryd.underlying46 (hval 1 46 v1 rfl rfl)
  obtain ⟨_, ⟨x1, hx1, lim1⟩, rel1⟩ := Opens.arg opens_stps rfl h1
  obtain rfl := (List.cons.inj hx1).1
  clear hA0 hval0
  have rels : RelL (gh0 W) W [] [.sl .sh 8 (x0.map secC), .sl .sh 3 (x1.map stpC)] _ := relL_mk2 rel0 (relL_mk2 rel1 (relL_nil))
  refine (law_calls rels (Keeps_law x0 x1 lim1) fun _ _ _ h => h.1).mono fun e W' ⟨he, bel⟩ => ?_
  subst he
  exact ⟨_, rfl, _, _, _, [], _, [], hW', trodAll_mk1 (shut_bool Tryd.underlying4 _), trodAll_below laidOut bel (by kernel_rfl) hB, rfl, bel.frame _, fun h => by cases h⟩

theorem over : Go.Proofs.YtdiblbjchhjccaaDoor.Rows.superblockKeepsRow.holds Go.Proofs.YtdiblbjchhjccaaDoor.Tryd.pinned (OpenSpec.ofChange Go.Proofs.YtdiblbjchhjccaaDoor.Rows.superblockKeepsSpec) :=
  OpenClaim.holds_of_wide 8 Tryd.f8 rfl rfl rfl rfl rfl rfl rfl ⟨rfl, rfl, rfl, rfl, rfl⟩ rfl rfl rfl rfl rfl (by kernel_rfl) Tryd.func8 (by kernel_rfl)
    (of_decide_eq_true (by kernel_rfl)) (by unfold Func.isWrapper; first | (rw [if_pos (by decide +kernel)]; kernel_rfl) | (rw [if_neg (by decide +kernel)]; exact ⟨rfl, rfl⟩))
    (fun os started H enc _ => lifted os started H enc)
end SuperblockKeeps
theorem provedSuperblockKeepsRow : Go.Proofs.YtdiblbjchhjccaaDoor.Rows.SuperblockKeepsSaid := SuperblockKeeps.over
theorem provedSuperblockKeeps : Go.Proofs.YtdiblbjchhjccaaDoor.Rows.SuperblockKeepsCardSaid :=
  Claim7.holds_tied_plain_at .later [] [.data, .pinned] true (true, "3a31e29a8a103315c78a4a60b4ee9778962c967c851e5ef7c6b335867e0e86a8") false
    provedSuperblockKeepsRow (fun _ h => by cases h) (by kernel_rfl) (fun _ h => by cases h) Go.Proofs.YtdiblbjchhjccaaDoor.superblockKeeps_row_tie rfl ⟨rfl, rfl⟩ (by kernel_rfl) rfl
    (fun f fn hf hfn => by
      obtain rfl : f = 8 := Option.some.inj ((show Tryd.prog.funcNamed "standby/standbylaw12.SuperblockKeeps" = some 8 by kernel_rfl).symm.trans hf) |>.symm
      obtain rfl : fn = Tryd.f8 := (Option.some.inj (Tryd.func8.symm.trans hfn)).symm
      exact ⟨by kernel_rfl, fun j t ht => by
        rw [Tryd.params8] at ht
        have hm : t ∈ [32, 46] := by simpa using Array.mem_of_getElem? ht
        have hall : ([32, 46].all fun u => !Tryd.prog.wantsStandIn u) = true := by kernel_rfl
        exact (show Tryd.prog.wantsStandIn t = false by simpa using List.all_eq_true.1 hall t hm)⟩)
    (by kernel_rfl)
end Go.Proofs.YtdiblbjchhjccaaDoor
