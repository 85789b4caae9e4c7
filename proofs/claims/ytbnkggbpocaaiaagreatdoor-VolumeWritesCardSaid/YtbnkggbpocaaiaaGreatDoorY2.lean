/-
  Write returns the specified store, journal operations and number, or the specified error.
  Conditions: none: for every input of the statement.
-/
import Derived.Test.YtbnkggbpocaaiaaGreatDoorRows
import Derived.Test.YtbnkggbpocaaiaaGreatDoorA9
import Derived.Test.YtbnkggbpocaaiaaGreatDoorA9
import Derived.Test.YtbnkggbpocaaiaaGreatDoorTie
import Derived.Test.YtbnkggbpocaaiaaGreatDoorCards
import Derived.Lay
import Derived.LaidLaws
import Derived.LaidHandle
import Derived.SevenTiedAt
set_option linter.unusedVariables false
set_option linter.unusedSimpArgs false
namespace Go.Proofs.YtbnkggbpocaaiaaGreatDoor
open Go.Proofs Go.ChangeShapes Go.WideShapes Go.ChangeAt Go.RowKit
namespace VolumeWrites
theorem own : ownKnob Tryz.prog.godebug = none := by kernel_rfl
theorem laidOut : laidOutB Tryz.prog = true := by kernel_rfl
set_option maxRecDepth 100000 in
theorem lifted (os : Os) (started : os.Started) (H : Type) (enc : TypeId × Value → H) :
    ReturnsInHanded {} Tryz.checked os 4 .any (fun w args => (Go.Proofs.YtbnkggbpocaaiaaGreatDoor.Rows.volumeWritesSpec.pre enc Tryz.prog Tryz.f4 [] false w args ∧ laidMetH Tryz.prog Go.Proofs.YtbnkggbpocaaiaaGreatDoor.Rows.volumeWritesRow.laid w) ∧ sizedMet enc Tryz.prog Tryz.f4 (OpenSpec.ofChange Go.Proofs.YtbnkggbpocaaiaaGreatDoor.Rows.volumeWritesSpec) false w args) (Go.Proofs.YtbnkggbpocaaiaaGreatDoor.Rows.volumeWritesSpec.post enc Tryz.prog Tryz.f4 false true false false) := by
  refine returnsInHanded_of_change_and (C := Tryz.checked) (X := fun w _ => laidMetH Tryz.prog Go.Proofs.YtbnkggbpocaaiaaGreatDoor.Rows.volumeWritesRow.laid w) (fun _ _ _ hh h => h.of_heap hh) own started (by kernel_rfl) Tryz.func4
    (ChangeSpec.witness_shaped (enc := enc) (C := Tryz.checked) (os := os) (X := fun w _ => laidMetH Tryz.prog Go.Proofs.YtbnkggbpocaaiaaGreatDoor.Rows.volumeWritesRow.laid w) false (World.laidAll Tryz.prog os Go.Proofs.YtbnkggbpocaaiaaGreatDoor.Rows.volumeWritesRow.laid) #[.agg #[.slice none 0 0, .int .i64 0, .int .i64 0, .int .i64 0, .int .i64 0, .int .i64 0, .slice none 0 0, .int .i64 0, .int .i64 0, .slice none 0 0, .slice none 0 0], .agg #[.int .i64 0, .int .i64 0, .slice none 0 0]] 8 (World.laidAll_os _ _ _)
      (World.shaped_of_ZipB (by kernel_rfl) (by kernel_rfl)) (by kernel_rfl) (by kernel_rfl) (by kernel_rfl)
      (by rw [MakeChecks.laidMetH_plain _ _ _ (by kernel_rfl)]; exact laidMet_laidAll _ (by kernel_rfl) (by kernel_rfl))) ?_
  intro W base args ds gs before hval0 hW _ _ _ _
  have hval : ∀ (j : Nat) t v, Tryz.f4.params[j]? = some t → args[j]? = some v → Value.okWide Tryz.prog W .any base t v := hval0
  have hW' := hW
  obtain ⟨p, q, hA0, hV, rfl, hfz, hnd⟩ := hW
  have hA : DataW.TrodAll enc Tryz.prog W 0 (fun _ => true) true Tryz.f4.params.toList args.toList ds p := hA0
  rw [Tryz.params4] at hA hval
  have hB := hA
  obtain ⟨v0, vs0, d0, ds0, p0, q0, hargs, rfl, rfl, h0, r0⟩ := trodAll_cons hA
  obtain ⟨v1, vs1, d1, ds1, p1, q1, rfl, rfl, rfl, h1, r1⟩ := trodAll_cons r0
  obtain ⟨rfl, rfl, rfl⟩ := trodAll_nil r1
  obtain rfl : args = #[v0, v1] := by cases args; simp_all
  obtain ⟨rfl, rfl⟩ := trodVars_none hV
  obtain ⟨us0, rfl, _⟩ := okWide_struct Tryz.underlying37 (hval 0 37 v0 rfl rfl)
  obtain ⟨_, ⟨x0, rfl, lim0⟩, rel0⟩ := Opens.args opens_stoB h0
  obtain ⟨us1, rfl, _⟩ := okWide_struct Tryz.underlying48 (hval 1 48 v1 rfl rfl)
  obtain ⟨_, ⟨x1, rfl⟩, rel1⟩ := Opens.args opens_wr h1
  clear hA0 hval0
  have rels : RelL (gh0 W) W [] [.agg (stoC x0), .agg (wrC x1)] _ := relL_mk2 rel0 (relL_mk2 rel1 (relL_nil))
  refine (law_calls rels (VWrites_law _ _ x0 x1 lim0) fun _ _ _ h => h.1).mono fun e W' ⟨he, bel⟩ => ?_
  subst he
  exact ⟨_, rfl, _, _, _, [], _, [], hW', trodAll_mk1 (shut_bool Tryz.underlying4 _), trodAll_below laidOut bel (by kernel_rfl) hB, rfl, bel.frame _, fun h => by cases h⟩

theorem closed1 : joinedFacts Go.Proofs.YtbnkggbpocaaiaaGreatDoor.Tryz.pinned.checked.prog 4 Tryz.f4 Go.Proofs.YtbnkggbpocaaiaaGreatDoor.Rows.volumeWritesSpec Go.Proofs.YtbnkggbpocaaiaaGreatDoor.Rows.volumeWritesRow = true := by kernel_rfl
theorem closed2 : Go.Proofs.YtbnkggbpocaaiaaGreatDoor.Tryz.pinned.checked.prog.funcNamed Go.Proofs.YtbnkggbpocaaiaaGreatDoor.Rows.volumeWritesRow.func = some 4 := by kernel_rfl
theorem closed3 : Tryz.f4.isInstance Go.Proofs.YtbnkggbpocaaiaaGreatDoor.Tryz.pinned.checked.prog Go.Proofs.YtbnkggbpocaaiaaGreatDoor.Rows.volumeWritesRow.origin Go.Proofs.YtbnkggbpocaaiaaGreatDoor.Rows.volumeWritesRow.targs := of_decide_eq_true (by kernel_rfl)
theorem closed4 : Tryz.f4.isWrapper Go.Proofs.YtbnkggbpocaaiaaGreatDoor.Tryz.pinned.checked.prog Go.Proofs.YtbnkggbpocaaiaaGreatDoor.Rows.volumeWritesRow.wrapper Go.Proofs.YtbnkggbpocaaiaaGreatDoor.Rows.volumeWritesRow.mainSum := by unfold Func.isWrapper; first | (rw [if_pos (by decide +kernel)]; kernel_rfl) | (rw [if_neg (by decide +kernel)]; exact ⟨rfl, rfl⟩)
theorem over : Go.Proofs.YtbnkggbpocaaiaaGreatDoor.Rows.volumeWritesRow.holds Go.Proofs.YtbnkggbpocaaiaaGreatDoor.Tryz.pinned (OpenSpec.ofChange Go.Proofs.YtbnkggbpocaaiaaGreatDoor.Rows.volumeWritesSpec) :=
  OpenClaim.holds_of_wide 4 Tryz.f4 rfl rfl rfl rfl rfl rfl rfl ⟨rfl, rfl, rfl, rfl, rfl⟩ rfl rfl rfl rfl rfl closed2 Tryz.func4 closed1 closed3 closed4
    (fun os started H enc _ => lifted os started H enc)
end VolumeWrites
theorem provedVolumeWritesRow : Go.Proofs.YtbnkggbpocaaiaaGreatDoor.Rows.VolumeWritesSaid := VolumeWrites.over
theorem provedVolumeWrites : Go.Proofs.YtbnkggbpocaaiaaGreatDoor.Rows.VolumeWritesCardSaid :=
  Claim7.holds_tied_plain_at .later [] _ _ _ _
    provedVolumeWritesRow (fun _ h => by cases h) (by kernel_rfl) (fun _ h => by cases h) Go.Proofs.YtbnkggbpocaaiaaGreatDoor.volumeWrites_row_tie rfl ⟨rfl, rfl⟩ (by kernel_rfl) rfl
    (fun f fn hf hfn => by
      obtain rfl : f = 4 := Option.some.inj ((show Tryz.prog.funcNamed "standby/standbylaw19.VolumeWrites" = some 4 by kernel_rfl).symm.trans hf) |>.symm
      obtain rfl : fn = Tryz.f4 := (Option.some.inj (Tryz.func4.symm.trans hfn)).symm
      exact ⟨by kernel_rfl, fun j t ht => by
        rw [Tryz.params4] at ht
        have hm : t ∈ [37, 48] := by simpa using Array.mem_of_getElem? ht
        have hall : ([37, 48].all fun u => !Tryz.prog.wantsStandIn u) = true := by kernel_rfl
        exact (show Tryz.prog.wantsStandIn t = false by simpa using List.all_eq_true.1 hall t hm)⟩)
    (by kernel_rfl)
end Go.Proofs.YtbnkggbpocaaiaaGreatDoor
