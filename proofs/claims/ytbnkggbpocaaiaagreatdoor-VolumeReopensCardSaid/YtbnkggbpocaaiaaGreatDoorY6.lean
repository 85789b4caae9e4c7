/-
  Without a crash, opening the disk yields the store in memory, and no operations.
  Conditions: none: for every input of the statement.
-/
import Derived.Test.YtbnkggbpocaaiaaGreatDoorRows
import Derived.Test.YtbnkggbpocaaiaaGreatDoorD9
import Derived.Test.YtbnkggbpocaaiaaGreatDoorD9
import Derived.Test.YtbnkggbpocaaiaaGreatDoorTie
import Derived.Test.YtbnkggbpocaaiaaGreatDoorCards
import Derived.Lay
import Derived.LaidLaws
import Derived.LaidHandle
import Derived.SevenTiedAt
set_option linter.unusedVariables false
set_option linter.unusedSimpArgs false
namespace Go.Proofs.YtbnkggbpocaaiaaGreatDoor
open Go.Proofs Go.ChangeShapes Go.WideShapes Go.ChangeAt Go.RowKit
namespace VolumeReopens
theorem own : ownKnob Tryz.prog.godebug = none := by kernel_rfl
theorem laidOut : laidOutB Tryz.prog = true := by kernel_rfl
set_option maxRecDepth 100000 in
theorem lifted (os : Os) (started : os.Started) (H : Type) (enc : TypeId × Value → H) :
    ReturnsInHanded {} Tryz.checked os 9 .any (fun w args => (Go.Proofs.YtbnkggbpocaaiaaGreatDoor.Rows.volumeReopensSpec.pre enc Tryz.prog Tryz.f9 [] false w args ∧ laidMetH Tryz.prog Go.Proofs.YtbnkggbpocaaiaaGreatDoor.Rows.volumeReopensRow.laid w) ∧ sizedMet enc Tryz.prog Tryz.f9 (OpenSpec.ofChange Go.Proofs.YtbnkggbpocaaiaaGreatDoor.Rows.volumeReopensSpec) false w args) (Go.Proofs.YtbnkggbpocaaiaaGreatDoor.Rows.volumeReopensSpec.post enc Tryz.prog Tryz.f9 false true false false) := by
  refine returnsInHanded_of_change_and (C := Tryz.checked) (X := fun w _ => laidMetH Tryz.prog Go.Proofs.YtbnkggbpocaaiaaGreatDoor.Rows.volumeReopensRow.laid w) (fun _ _ _ hh h => h.of_heap hh) own started (by kernel_rfl) Tryz.func9
    (ChangeSpec.witness_shaped (enc := enc) (C := Tryz.checked) (os := os) (X := fun w _ => laidMetH Tryz.prog Go.Proofs.YtbnkggbpocaaiaaGreatDoor.Rows.volumeReopensRow.laid w) false (World.laidAll Tryz.prog os Go.Proofs.YtbnkggbpocaaiaaGreatDoor.Rows.volumeReopensRow.laid) #[.slice none 0 0] 8 (World.laidAll_os _ _ _)
      (World.shaped_of_ZipB (by kernel_rfl) (by kernel_rfl)) (by kernel_rfl) (by kernel_rfl) (by kernel_rfl)
      (by rw [MakeChecks.laidMetH_plain _ _ _ (by kernel_rfl)]; exact laidMet_laidAll _ (by kernel_rfl) (by kernel_rfl))) ?_
  intro W base args ds gs before hval0 hW _ _ _ _
  have hval : ∀ (j : Nat) t v, Tryz.f9.params[j]? = some t → args[j]? = some v → Value.okWide Tryz.prog W .any base t v := hval0
  have hW' := hW
  obtain ⟨p, q, hA0, hV, rfl, hfz, hnd⟩ := hW
  have hA : DataW.TrodAll enc Tryz.prog W 0 (fun _ => true) true Tryz.f9.params.toList args.toList ds p := hA0
  rw [Tryz.params9] at hA hval
  have hB := hA
  obtain ⟨v0, vs0, d0, ds0, p0, q0, hargs, rfl, rfl, h0, r0⟩ := trodAll_cons hA
  obtain ⟨rfl, rfl, rfl⟩ := trodAll_nil r0
  obtain rfl : args = #[v0] := by cases args; simp_all
  obtain ⟨rfl, rfl⟩ := trodVars_none hV
  obtain ⟨a0, len0, cap0, rfl⟩ := okWide_slice Tryz.underlying57 (hval 0 57 v0 rfl rfl)
  obtain ⟨_, ⟨x0, hx0, lim0⟩, rel0⟩ := Opens.arg opens_stqs rfl h0
  obtain rfl := (List.cons.inj hx0).1
  clear hA0 hval0
  have rels : RelL (gh0 W) W [] [.sl .sh 5 (x0.map stqC)] _ := relL_mk2 rel0 (relL_nil)
  refine (law_calls rels (VReopens_law _ _ x0) fun _ _ _ h => h.1).mono fun e W' ⟨he, bel⟩ => ?_
  subst he
  exact ⟨_, rfl, _, _, _, [], _, [], hW', trodAll_mk1 (shut_bool Tryz.underlying4 _), trodAll_below laidOut bel (by kernel_rfl) hB, rfl, bel.frame _, fun h => by cases h⟩

theorem and2 {a b : Bool} (h : a = true) (g : b = true) : (a && b) = true := by rw [h, g]; rfl
theorem closed1_0 : (Go.Proofs.YtbnkggbpocaaiaaGreatDoor.Rows.volumeReopensRow.wf (OpenSpec.ofChange Go.Proofs.YtbnkggbpocaaiaaGreatDoor.Rows.volumeReopensSpec)) = true := by kernel_rfl
theorem closed1_1 : (laidOutB Go.Proofs.YtbnkggbpocaaiaaGreatDoor.Tryz.pinned.checked.prog) = true := by kernel_rfl
theorem closed1_2 : (mapsRowed Go.Proofs.YtbnkggbpocaaiaaGreatDoor.Tryz.pinned.checked.prog) = true := by kernel_rfl
theorem closed1_3 : (Tryz.f9.params.all (Go.Proofs.YtbnkggbpocaaiaaGreatDoor.Tryz.pinned.checked.prog.readableRec ·)) = true := by kernel_rfl
theorem closed1_4 : (namedTie Go.Proofs.YtbnkggbpocaaiaaGreatDoor.Tryz.pinned.checked.prog Go.Proofs.YtbnkggbpocaaiaaGreatDoor.Rows.volumeReopensRow.named Go.Proofs.YtbnkggbpocaaiaaGreatDoor.Rows.volumeReopensSpec.vars) = true := by kernel_rfl
theorem closed1_5 : ((Go.Proofs.YtbnkggbpocaaiaaGreatDoor.Rows.volumeReopensRow.stops == [])) = true := by kernel_rfl
theorem closed1_6 : ((Go.Proofs.YtbnkggbpocaaiaaGreatDoor.Tryz.pinned.checked.prog.stops == [])) = true := by kernel_rfl
theorem closed1_7 : ((Go.Proofs.YtbnkggbpocaaiaaGreatDoor.Rows.volumeReopensRow.knobs == [])) = true := by kernel_rfl
theorem closed1_8 : ((Go.Proofs.YtbnkggbpocaaiaaGreatDoor.Tryz.pinned.checked.prog.stopKnobs == [])) = true := by kernel_rfl
theorem closed1_9 : ((Go.Proofs.YtbnkggbpocaaiaaGreatDoor.Rows.volumeReopensRow.inPlace == Go.Proofs.YtbnkggbpocaaiaaGreatDoor.Tryz.pinned.checked.prog.inPlace 9)) = true := by kernel_rfl
theorem closed1_10 : ((Go.Proofs.YtbnkggbpocaaiaaGreatDoor.Rows.volumeReopensRow.unfollowed == Go.Proofs.YtbnkggbpocaaiaaGreatDoor.Tryz.pinned.checked.prog.unfollowed 9)) = true := by kernel_rfl
theorem closed1_11 : ((Go.Proofs.YtbnkggbpocaaiaaGreatDoor.Rows.volumeReopensRow.recurses == Go.Proofs.YtbnkggbpocaaiaaGreatDoor.Tryz.pinned.checked.prog.recurses 9)) = true := by kernel_rfl
theorem closed1_12 : ((Go.Proofs.YtbnkggbpocaaiaaGreatDoor.Rows.volumeReopensRow.named == Go.Proofs.YtbnkggbpocaaiaaGreatDoor.Tryz.pinned.checked.prog.varsNamed 9)) = true := by kernel_rfl
theorem closed1_13 : ((Go.Proofs.YtbnkggbpocaaiaaGreatDoor.Rows.volumeReopensRow.maps == (Tryz.f9.params.toList ++ Go.Proofs.YtbnkggbpocaaiaaGreatDoor.Rows.volumeReopensSpec.plain.varTypes Go.Proofs.YtbnkggbpocaaiaaGreatDoor.Tryz.pinned.checked.prog).any (Go.Proofs.YtbnkggbpocaaiaaGreatDoor.Tryz.pinned.checked.prog.mapsRec ·))) = true := by kernel_rfl
theorem closed1_14 : ((Go.Proofs.YtbnkggbpocaaiaaGreatDoor.Rows.volumeReopensRow.ifaces == (Tryz.f9.params.toList ++ Go.Proofs.YtbnkggbpocaaiaaGreatDoor.Rows.volumeReopensSpec.plain.varTypes Go.Proofs.YtbnkggbpocaaiaaGreatDoor.Tryz.pinned.checked.prog).any (Go.Proofs.YtbnkggbpocaaiaaGreatDoor.Tryz.pinned.checked.prog.ifacesRec ·))) = true := by kernel_rfl
theorem closed1_15 : ((Go.Proofs.YtbnkggbpocaaiaaGreatDoor.Rows.volumeReopensRow.mapsOut == Go.Proofs.YtbnkggbpocaaiaaGreatDoor.Tryz.pinned.checked.prog.mapsAmong Tryz.f9.resultTypes.toList)) = true := by kernel_rfl
theorem closed1_16 : ((Go.Proofs.YtbnkggbpocaaiaaGreatDoor.Rows.volumeReopensRow.loops == (Tryz.f9.params.toList ++ Go.Proofs.YtbnkggbpocaaiaaGreatDoor.Rows.volumeReopensSpec.plain.varTypes Go.Proofs.YtbnkggbpocaaiaaGreatDoor.Tryz.pinned.checked.prog).any (Go.Proofs.YtbnkggbpocaaiaaGreatDoor.Tryz.pinned.checked.prog.loopsFrom ·))) = true := by kernel_rfl
theorem closed1_17 : ((Go.Proofs.YtbnkggbpocaaiaaGreatDoor.Rows.volumeReopensRow.wideKeys == (Tryz.f9.params.toList ++ Go.Proofs.YtbnkggbpocaaiaaGreatDoor.Rows.volumeReopensSpec.plain.varTypes Go.Proofs.YtbnkggbpocaaiaaGreatDoor.Tryz.pinned.checked.prog ++ Tryz.f9.resultTypes.toList).any (Go.Proofs.YtbnkggbpocaaiaaGreatDoor.Tryz.pinned.checked.prog.wideKeysFrom ·))) = true := by kernel_rfl
theorem closed1_18 : (Go.Proofs.YtbnkggbpocaaiaaGreatDoor.Rows.volumeReopensSpec.vars.all (Go.Proofs.YtbnkggbpocaaiaaGreatDoor.Tryz.pinned.checked.prog.varReadable ·)) = true := by kernel_rfl
theorem closed1_19 : (Tryz.f9.resultTypes.all (fun t => Go.Proofs.YtbnkggbpocaaiaaGreatDoor.Tryz.pinned.checked.prog.readableRec t && decide (t < Go.Proofs.YtbnkggbpocaaiaaGreatDoor.Tryz.pinned.checked.prog.types.size))) = true := by kernel_rfl
theorem closed1_20 : ((Go.Proofs.YtbnkggbpocaaiaaGreatDoor.Rows.volumeReopensRow.ifacesOut == Tryz.f9.resultTypes.toList.any (Go.Proofs.YtbnkggbpocaaiaaGreatDoor.Tryz.pinned.checked.prog.ifacesRec ·))) = true := by kernel_rfl
theorem closed1_21 : ((Go.Proofs.YtbnkggbpocaaiaaGreatDoor.Rows.volumeReopensRow.loopsOut == Tryz.f9.resultTypes.toList.any (Go.Proofs.YtbnkggbpocaaiaaGreatDoor.Tryz.pinned.checked.prog.loopsFrom ·))) = true := by kernel_rfl
theorem closed1_22 : ((Go.Proofs.YtbnkggbpocaaiaaGreatDoor.Rows.volumeReopensRow.plainKeys == Go.Proofs.YtbnkggbpocaaiaaGreatDoor.Tryz.pinned.checked.prog.plainKeys)) = true := by kernel_rfl
theorem closed1_23 : (Go.Proofs.YtbnkggbpocaaiaaGreatDoor.Rows.volumeReopensRow.shortTexts.isNone) = true := by kernel_rfl
theorem closed1_24 : (Go.Proofs.YtbnkggbpocaaiaaGreatDoor.Tryz.pinned.checked.prog.stopsHeard) = true := by kernel_rfl
theorem closed1_25 : (Go.Proofs.YtbnkggbpocaaiaaGreatDoor.Tryz.pinned.checked.prog.mayEnter) = true := by kernel_rfl
theorem closed1_26 : ((Go.Proofs.YtbnkggbpocaaiaaGreatDoor.Rows.volumeReopensRow.lifted == Go.Proofs.YtbnkggbpocaaiaaGreatDoor.Tryz.pinned.checked.prog.liftsFinal)) = true := by kernel_rfl
theorem closed1_27 : ((Go.Proofs.YtbnkggbpocaaiaaGreatDoor.Tryz.pinned.checked.prog.make == some Go.Proofs.YtbnkggbpocaaiaaGreatDoor.Rows.volumeReopensRow.make)) = true := by kernel_rfl
theorem closed1_28 : ((Go.Proofs.YtbnkggbpocaaiaaGreatDoor.Rows.volumeReopensRow.kinds == (if Go.Proofs.YtbnkggbpocaaiaaGreatDoor.Rows.volumeReopensRow.domain.isEmpty then [] else Tryz.f9.params.toList.map fun t => match Go.Proofs.YtbnkggbpocaaiaaGreatDoor.Tryz.pinned.checked.prog.underlying t with | some (.int k) => some k | _ => none))) = true := by kernel_rfl
theorem closed1_29 : ((Go.Proofs.YtbnkggbpocaaiaaGreatDoor.Rows.volumeReopensRow.pinned == Go.Proofs.YtbnkggbpocaaiaaGreatDoor.Rows.volumeReopensRow.pinnedBy)) = true := by kernel_rfl
theorem closed1_30 : ((Go.Proofs.YtbnkggbpocaaiaaGreatDoor.Rows.volumeReopensRow.veiled == (Tryz.f9.params.toList ++ Go.Proofs.YtbnkggbpocaaiaaGreatDoor.Rows.volumeReopensSpec.plain.varTypes Go.Proofs.YtbnkggbpocaaiaaGreatDoor.Tryz.pinned.checked.prog ++ Tryz.f9.resultTypes.toList).any (Go.Proofs.YtbnkggbpocaaiaaGreatDoor.Tryz.pinned.checked.prog.veiledRec ·))) = true := by kernel_rfl
theorem closed1_31 : (Go.Proofs.YtbnkggbpocaaiaaGreatDoor.Rows.volumeReopensRow.veiledFits Go.Proofs.YtbnkggbpocaaiaaGreatDoor.Tryz.pinned.checked.prog Tryz.f9.params.toList (Tryz.f9.params.toList ++ Go.Proofs.YtbnkggbpocaaiaaGreatDoor.Rows.volumeReopensSpec.plain.varTypes Go.Proofs.YtbnkggbpocaaiaaGreatDoor.Tryz.pinned.checked.prog ++ Tryz.f9.resultTypes.toList)) = true := by kernel_rfl
set_option maxRecDepth 100000 in
theorem closed1 : joinedFacts Go.Proofs.YtbnkggbpocaaiaaGreatDoor.Tryz.pinned.checked.prog 9 Tryz.f9 Go.Proofs.YtbnkggbpocaaiaaGreatDoor.Rows.volumeReopensSpec Go.Proofs.YtbnkggbpocaaiaaGreatDoor.Rows.volumeReopensRow = true := (and2 (and2 (and2 (and2 (and2 (and2 (and2 (and2 (and2 (and2 (and2 (and2 (and2 (and2 (and2 (and2 (and2 (and2 (and2 (and2 (and2 (and2 (and2 (and2 (and2 (and2 (and2 (and2 (and2 (and2 (and2 closed1_0 closed1_1) closed1_2) closed1_3) closed1_4) closed1_5) closed1_6) closed1_7) closed1_8) closed1_9) closed1_10) closed1_11) closed1_12) closed1_13) closed1_14) closed1_15) closed1_16) closed1_17) closed1_18) closed1_19) closed1_20) closed1_21) closed1_22) closed1_23) closed1_24) closed1_25) closed1_26) closed1_27) closed1_28) closed1_29) closed1_30) closed1_31)
theorem closed2 : Go.Proofs.YtbnkggbpocaaiaaGreatDoor.Tryz.pinned.checked.prog.funcNamed Go.Proofs.YtbnkggbpocaaiaaGreatDoor.Rows.volumeReopensRow.func = some 9 := by kernel_rfl
theorem closed3 : Tryz.f9.isInstance Go.Proofs.YtbnkggbpocaaiaaGreatDoor.Tryz.pinned.checked.prog Go.Proofs.YtbnkggbpocaaiaaGreatDoor.Rows.volumeReopensRow.origin Go.Proofs.YtbnkggbpocaaiaaGreatDoor.Rows.volumeReopensRow.targs := of_decide_eq_true (by kernel_rfl)
theorem closed4 : Tryz.f9.isWrapper Go.Proofs.YtbnkggbpocaaiaaGreatDoor.Tryz.pinned.checked.prog Go.Proofs.YtbnkggbpocaaiaaGreatDoor.Rows.volumeReopensRow.wrapper Go.Proofs.YtbnkggbpocaaiaaGreatDoor.Rows.volumeReopensRow.mainSum := by unfold Func.isWrapper; first | (rw [if_pos (by decide +kernel)]; kernel_rfl) | (rw [if_neg (by decide +kernel)]; exact ⟨rfl, rfl⟩)
theorem over : Go.Proofs.YtbnkggbpocaaiaaGreatDoor.Rows.volumeReopensRow.holds Go.Proofs.YtbnkggbpocaaiaaGreatDoor.Tryz.pinned (OpenSpec.ofChange Go.Proofs.YtbnkggbpocaaiaaGreatDoor.Rows.volumeReopensSpec) :=
  OpenClaim.holds_of_wide 9 Tryz.f9 rfl rfl rfl rfl rfl rfl rfl ⟨rfl, rfl, rfl, rfl, rfl⟩ rfl rfl rfl rfl rfl closed2 Tryz.func9 closed1 closed3 closed4
    (fun os started H enc _ => lifted os started H enc)
end VolumeReopens
theorem provedVolumeReopensRow : Go.Proofs.YtbnkggbpocaaiaaGreatDoor.Rows.VolumeReopensSaid := VolumeReopens.over
theorem provedVolumeReopens : Go.Proofs.YtbnkggbpocaaiaaGreatDoor.Rows.VolumeReopensCardSaid :=
  Claim7.holds_tied_plain_at .later [] _ _ _ _
    provedVolumeReopensRow (fun _ h => by cases h) (by kernel_rfl) (fun _ h => by cases h) Go.Proofs.YtbnkggbpocaaiaaGreatDoor.volumeReopens_row_tie rfl ⟨rfl, rfl⟩ (by kernel_rfl) rfl
    (fun f fn hf hfn => by
      obtain rfl : f = 9 := Option.some.inj ((show Tryz.prog.funcNamed "standby/standbylaw19.VolumeReopens" = some 9 by kernel_rfl).symm.trans hf) |>.symm
      obtain rfl : fn = Tryz.f9 := (Option.some.inj (Tryz.func9.symm.trans hfn)).symm
      exact ⟨by kernel_rfl, fun j t ht => by
        rw [Tryz.params9] at ht
        have hm : t ∈ [57] := by simpa using Array.mem_of_getElem? ht
        have hall : ([57].all fun u => !Tryz.prog.wantsStandIn u) = true := by kernel_rfl
        exact (show Tryz.prog.wantsStandIn t = false by simpa using List.all_eq_true.1 hall t hm)⟩)
    (by kernel_rfl)
end Go.Proofs.YtbnkggbpocaaiaaGreatDoor
