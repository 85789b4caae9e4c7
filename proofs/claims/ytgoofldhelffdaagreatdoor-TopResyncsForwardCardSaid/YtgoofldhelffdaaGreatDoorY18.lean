/-
  TopResyncsForward: sites resync forward.
  Conditions: none: for every input of the statement.
-/
import Derived.Test.YtgoofldhelffdaaGreatDoorRows
import Derived.Test.YtgoofldhelffdaaGreatDoorB6
import Derived.Test.YtgoofldhelffdaaGreatDoorB6
import Derived.Test.YtgoofldhelffdaaGreatDoorTie
import Derived.Test.YtgoofldhelffdaaGreatDoorCards
import Derived.Lay
import Derived.LaidLaws
import Derived.LaidHandle
import Derived.SevenTiedAt
set_option linter.unusedVariables false
set_option linter.unusedSimpArgs false
namespace Go.Proofs.YtgoofldhelffdaaGreatDoor
open Go.Proofs Go.ChangeShapes Go.WideShapes Go.ChangeAt Go.RowKit
namespace TopResyncsForward
theorem own : ownKnob Tryz.prog.godebug = none := by kernel_rfl
theorem laidOut : laidOutB Tryz.prog = true := by kernel_rfl
set_option maxRecDepth 100000 in
theorem lifted (os : Os) (started : os.Started) (H : Type) (enc : TypeId × Value → H) :
    ReturnsInHanded {} Tryz.checked os 3 .any (fun w args => (Go.Proofs.YtgoofldhelffdaaGreatDoor.Rows.topResyncsForwardSpec.pre enc Tryz.prog Tryz.f3 [] false w args ∧ laidMetH Tryz.prog Go.Proofs.YtgoofldhelffdaaGreatDoor.Rows.topResyncsForwardRow.laid w) ∧ sizedMet enc Tryz.prog Tryz.f3 (OpenSpec.ofChange Go.Proofs.YtgoofldhelffdaaGreatDoor.Rows.topResyncsForwardSpec) false w args) (Go.Proofs.YtgoofldhelffdaaGreatDoor.Rows.topResyncsForwardSpec.post enc Tryz.prog Tryz.f3 false true false false) := by
  refine returnsInHanded_of_change_and (C := Tryz.checked) (X := fun w _ => laidMetH Tryz.prog Go.Proofs.YtgoofldhelffdaaGreatDoor.Rows.topResyncsForwardRow.laid w) (fun _ _ _ hh h => h.of_heap hh) own started (by kernel_rfl) Tryz.func3
    (ChangeSpec.witness_shaped (enc := enc) (C := Tryz.checked) (os := os) (X := fun w _ => laidMetH Tryz.prog Go.Proofs.YtgoofldhelffdaaGreatDoor.Rows.topResyncsForwardRow.laid w) false (World.laidAll Tryz.prog os Go.Proofs.YtgoofldhelffdaaGreatDoor.Rows.topResyncsForwardRow.laid) #[.agg #[.slice none 0 0, .slice none 0 0, .slice none 0 0, .slice none 0 0, .int .u8 0, .int .u8 0, .int .u8 0, .int .u8 0, .int .u8 0, .int .u8 0, .bool false, .bool false, .bool false], .agg #[.int .u8 0, .int .u8 0, .int .u8 0]] 8 (World.laidAll_os _ _ _)
      (World.shaped_of_ZipB (by kernel_rfl) (by kernel_rfl)) (by kernel_rfl) (by kernel_rfl) (by kernel_rfl)
      (by rw [MakeChecks.laidMetH_plain _ _ _ (by kernel_rfl)]; exact laidMet_laidAll _ (by kernel_rfl) (by kernel_rfl))) ?_
  intro W base args ds gs before hval0 hW _ _ hL _
  have hval : ∀ (j : Nat) t v, Tryz.f3.params[j]? = some t → args[j]? = some v → Value.okWide Tryz.prog W .any base t v := hval0
  have hW' := hW
  obtain ⟨p, q, hA0, hV, rfl, hfz, hnd⟩ := hW
  have hA : DataW.TrodAll enc Tryz.prog W 0 (fun _ => true) true Tryz.f3.params.toList args.toList ds p := hA0
  rw [Tryz.params3] at hA hval
  have hB := hA
  obtain ⟨v0, vs0, d0, ds0, p0, q0, hargs, rfl, rfl, h0, r0⟩ := trodAll_cons hA
  obtain ⟨v1, vs1, d1, ds1, p1, q1, rfl, rfl, rfl, h1, r1⟩ := trodAll_cons r0
  obtain ⟨rfl, rfl, rfl⟩ := trodAll_nil r1
  obtain rfl : args = #[v0, v1] := by cases args; simp_all
  obtain ⟨rfl, rfl⟩ := trodVars_none hV
  obtain ⟨us0, rfl, _⟩ := okWide_struct Tryz.underlying27 (hval 0 27 v0 rfl rfl)
  obtain ⟨_, ⟨x0, rfl, lim0⟩, rel0⟩ := Opens.args opens_psx h0
  obtain ⟨us1, rfl, _⟩ := okWide_array Tryz.underlying24 (hval 1 24 v1 rfl rfl)
  obtain ⟨_, ⟨x1, rfl⟩, rel1⟩ := Opens.args opens_o3 h1
  clear hA0 hval0
  have rels : RelL (gh0 W) W [] [.agg (psxC x0), .agg (o3C x1.1 x1.2.1 x1.2.2)] _ := relL_mk2 rel0 (relL_mk2 rel1 (relL_nil))
  refine (law_calls (glob_of_laid hL) rels (Forward_law _ _ x0 x1.1 x1.2.1 x1.2.2 lim0.1 lim0.2) fun _ _ _ h => h.1).mono fun e W' ⟨he, bel⟩ => ?_
  subst he
  exact ⟨_, rfl, _, _, _, [], _, [], hW', trodAll_mk1 (shut_bool Tryz.underlying4 _), trodAll_below laidOut bel (by kernel_rfl) hB, rfl, bel.frame _, fun h => by cases h⟩

theorem and2 {a b : Bool} (h : a = true) (g : b = true) : (a && b) = true := by rw [h, g]; rfl
theorem closed1_0 : (Go.Proofs.YtgoofldhelffdaaGreatDoor.Rows.topResyncsForwardRow.wf (OpenSpec.ofChange Go.Proofs.YtgoofldhelffdaaGreatDoor.Rows.topResyncsForwardSpec)) = true := by kernel_rfl
theorem closed1_1 : (laidOutB Go.Proofs.YtgoofldhelffdaaGreatDoor.Tryz.pinned.checked.prog) = true := by kernel_rfl
theorem closed1_2 : (mapsRowed Go.Proofs.YtgoofldhelffdaaGreatDoor.Tryz.pinned.checked.prog) = true := by kernel_rfl
theorem closed1_3 : (Tryz.f3.params.all (Go.Proofs.YtgoofldhelffdaaGreatDoor.Tryz.pinned.checked.prog.readableRec ·)) = true := by kernel_rfl
theorem closed1_4 : (namedTie Go.Proofs.YtgoofldhelffdaaGreatDoor.Tryz.pinned.checked.prog Go.Proofs.YtgoofldhelffdaaGreatDoor.Rows.topResyncsForwardRow.named Go.Proofs.YtgoofldhelffdaaGreatDoor.Rows.topResyncsForwardSpec.vars) = true := by kernel_rfl
theorem closed1_5 : ((Go.Proofs.YtgoofldhelffdaaGreatDoor.Rows.topResyncsForwardRow.stops == [])) = true := by kernel_rfl
theorem closed1_6 : ((Go.Proofs.YtgoofldhelffdaaGreatDoor.Tryz.pinned.checked.prog.stops == [])) = true := by kernel_rfl
theorem closed1_7 : ((Go.Proofs.YtgoofldhelffdaaGreatDoor.Rows.topResyncsForwardRow.knobs == [])) = true := by kernel_rfl
theorem closed1_8 : ((Go.Proofs.YtgoofldhelffdaaGreatDoor.Tryz.pinned.checked.prog.stopKnobs == [])) = true := by kernel_rfl
theorem closed1_9 : ((Go.Proofs.YtgoofldhelffdaaGreatDoor.Rows.topResyncsForwardRow.inPlace == Go.Proofs.YtgoofldhelffdaaGreatDoor.Tryz.pinned.checked.prog.inPlace 3)) = true := by kernel_rfl
theorem closed1_10 : ((Go.Proofs.YtgoofldhelffdaaGreatDoor.Rows.topResyncsForwardRow.unfollowed == Go.Proofs.YtgoofldhelffdaaGreatDoor.Tryz.pinned.checked.prog.unfollowed 3)) = true := by kernel_rfl
theorem closed1_11 : ((Go.Proofs.YtgoofldhelffdaaGreatDoor.Rows.topResyncsForwardRow.recurses == Go.Proofs.YtgoofldhelffdaaGreatDoor.Tryz.pinned.checked.prog.recurses 3)) = true := by kernel_rfl
theorem closed1_12 : ((Go.Proofs.YtgoofldhelffdaaGreatDoor.Rows.topResyncsForwardRow.named == Go.Proofs.YtgoofldhelffdaaGreatDoor.Tryz.pinned.checked.prog.varsNamed 3)) = true := by kernel_rfl
theorem closed1_13 : ((Go.Proofs.YtgoofldhelffdaaGreatDoor.Rows.topResyncsForwardRow.maps == (Tryz.f3.params.toList ++ Go.Proofs.YtgoofldhelffdaaGreatDoor.Rows.topResyncsForwardSpec.plain.varTypes Go.Proofs.YtgoofldhelffdaaGreatDoor.Tryz.pinned.checked.prog).any (Go.Proofs.YtgoofldhelffdaaGreatDoor.Tryz.pinned.checked.prog.mapsRec ·))) = true := by kernel_rfl
theorem closed1_14 : ((Go.Proofs.YtgoofldhelffdaaGreatDoor.Rows.topResyncsForwardRow.ifaces == (Tryz.f3.params.toList ++ Go.Proofs.YtgoofldhelffdaaGreatDoor.Rows.topResyncsForwardSpec.plain.varTypes Go.Proofs.YtgoofldhelffdaaGreatDoor.Tryz.pinned.checked.prog).any (Go.Proofs.YtgoofldhelffdaaGreatDoor.Tryz.pinned.checked.prog.ifacesRec ·))) = true := by kernel_rfl
theorem closed1_15 : ((Go.Proofs.YtgoofldhelffdaaGreatDoor.Rows.topResyncsForwardRow.mapsOut == Go.Proofs.YtgoofldhelffdaaGreatDoor.Tryz.pinned.checked.prog.mapsAmong Tryz.f3.resultTypes.toList)) = true := by kernel_rfl
theorem closed1_16 : ((Go.Proofs.YtgoofldhelffdaaGreatDoor.Rows.topResyncsForwardRow.loops == (Tryz.f3.params.toList ++ Go.Proofs.YtgoofldhelffdaaGreatDoor.Rows.topResyncsForwardSpec.plain.varTypes Go.Proofs.YtgoofldhelffdaaGreatDoor.Tryz.pinned.checked.prog).any (Go.Proofs.YtgoofldhelffdaaGreatDoor.Tryz.pinned.checked.prog.loopsFrom ·))) = true := by kernel_rfl
theorem closed1_17 : ((Go.Proofs.YtgoofldhelffdaaGreatDoor.Rows.topResyncsForwardRow.wideKeys == (Tryz.f3.params.toList ++ Go.Proofs.YtgoofldhelffdaaGreatDoor.Rows.topResyncsForwardSpec.plain.varTypes Go.Proofs.YtgoofldhelffdaaGreatDoor.Tryz.pinned.checked.prog ++ Tryz.f3.resultTypes.toList).any (Go.Proofs.YtgoofldhelffdaaGreatDoor.Tryz.pinned.checked.prog.wideKeysFrom ·))) = true := by kernel_rfl
theorem closed1_18 : (Go.Proofs.YtgoofldhelffdaaGreatDoor.Rows.topResyncsForwardSpec.vars.all (Go.Proofs.YtgoofldhelffdaaGreatDoor.Tryz.pinned.checked.prog.varReadable ·)) = true := by kernel_rfl
theorem closed1_19 : (Tryz.f3.resultTypes.all (fun t => Go.Proofs.YtgoofldhelffdaaGreatDoor.Tryz.pinned.checked.prog.readableRec t && decide (t < Go.Proofs.YtgoofldhelffdaaGreatDoor.Tryz.pinned.checked.prog.types.size))) = true := by kernel_rfl
theorem closed1_20 : ((Go.Proofs.YtgoofldhelffdaaGreatDoor.Rows.topResyncsForwardRow.ifacesOut == Tryz.f3.resultTypes.toList.any (Go.Proofs.YtgoofldhelffdaaGreatDoor.Tryz.pinned.checked.prog.ifacesRec ·))) = true := by kernel_rfl
theorem closed1_21 : ((Go.Proofs.YtgoofldhelffdaaGreatDoor.Rows.topResyncsForwardRow.loopsOut == Tryz.f3.resultTypes.toList.any (Go.Proofs.YtgoofldhelffdaaGreatDoor.Tryz.pinned.checked.prog.loopsFrom ·))) = true := by kernel_rfl
theorem closed1_22 : ((Go.Proofs.YtgoofldhelffdaaGreatDoor.Rows.topResyncsForwardRow.plainKeys == Go.Proofs.YtgoofldhelffdaaGreatDoor.Tryz.pinned.checked.prog.plainKeys)) = true := by kernel_rfl
theorem closed1_23 : (Go.Proofs.YtgoofldhelffdaaGreatDoor.Rows.topResyncsForwardRow.shortTexts.isNone) = true := by kernel_rfl
theorem closed1_24 : (Go.Proofs.YtgoofldhelffdaaGreatDoor.Tryz.pinned.checked.prog.stopsHeard) = true := by kernel_rfl
theorem closed1_25 : (Go.Proofs.YtgoofldhelffdaaGreatDoor.Tryz.pinned.checked.prog.mayEnter) = true := by kernel_rfl
theorem closed1_26 : ((Go.Proofs.YtgoofldhelffdaaGreatDoor.Rows.topResyncsForwardRow.lifted == Go.Proofs.YtgoofldhelffdaaGreatDoor.Tryz.pinned.checked.prog.liftsFinal)) = true := by kernel_rfl
theorem closed1_27 : ((Go.Proofs.YtgoofldhelffdaaGreatDoor.Tryz.pinned.checked.prog.make == some Go.Proofs.YtgoofldhelffdaaGreatDoor.Rows.topResyncsForwardRow.make)) = true := by kernel_rfl
theorem closed1_28 : ((Go.Proofs.YtgoofldhelffdaaGreatDoor.Rows.topResyncsForwardRow.kinds == (if Go.Proofs.YtgoofldhelffdaaGreatDoor.Rows.topResyncsForwardRow.domain.isEmpty then [] else Tryz.f3.params.toList.map fun t => match Go.Proofs.YtgoofldhelffdaaGreatDoor.Tryz.pinned.checked.prog.underlying t with | some (.int k) => some k | _ => none))) = true := by kernel_rfl
theorem closed1_29 : ((Go.Proofs.YtgoofldhelffdaaGreatDoor.Rows.topResyncsForwardRow.pinned == Go.Proofs.YtgoofldhelffdaaGreatDoor.Rows.topResyncsForwardRow.pinnedBy)) = true := by kernel_rfl
theorem closed1_30 : ((Go.Proofs.YtgoofldhelffdaaGreatDoor.Rows.topResyncsForwardRow.veiled == (Tryz.f3.params.toList ++ Go.Proofs.YtgoofldhelffdaaGreatDoor.Rows.topResyncsForwardSpec.plain.varTypes Go.Proofs.YtgoofldhelffdaaGreatDoor.Tryz.pinned.checked.prog ++ Tryz.f3.resultTypes.toList).any (Go.Proofs.YtgoofldhelffdaaGreatDoor.Tryz.pinned.checked.prog.veiledRec ·))) = true := by kernel_rfl
theorem closed1_31 : (Go.Proofs.YtgoofldhelffdaaGreatDoor.Rows.topResyncsForwardRow.veiledFits Go.Proofs.YtgoofldhelffdaaGreatDoor.Tryz.pinned.checked.prog Tryz.f3.params.toList (Tryz.f3.params.toList ++ Go.Proofs.YtgoofldhelffdaaGreatDoor.Rows.topResyncsForwardSpec.plain.varTypes Go.Proofs.YtgoofldhelffdaaGreatDoor.Tryz.pinned.checked.prog ++ Tryz.f3.resultTypes.toList)) = true := by kernel_rfl
set_option maxRecDepth 100000 in
theorem closed1 : joinedFacts Go.Proofs.YtgoofldhelffdaaGreatDoor.Tryz.pinned.checked.prog 3 Tryz.f3 Go.Proofs.YtgoofldhelffdaaGreatDoor.Rows.topResyncsForwardSpec Go.Proofs.YtgoofldhelffdaaGreatDoor.Rows.topResyncsForwardRow = true := (and2 (and2 (and2 (and2 (and2 (and2 (and2 (and2 (and2 (and2 (and2 (and2 (and2 (and2 (and2 (and2 (and2 (and2 (and2 (and2 (and2 (and2 (and2 (and2 (and2 (and2 (and2 (and2 (and2 (and2 (and2 closed1_0 closed1_1) closed1_2) closed1_3) closed1_4) closed1_5) closed1_6) closed1_7) closed1_8) closed1_9) closed1_10) closed1_11) closed1_12) closed1_13) closed1_14) closed1_15) closed1_16) closed1_17) closed1_18) closed1_19) closed1_20) closed1_21) closed1_22) closed1_23) closed1_24) closed1_25) closed1_26) closed1_27) closed1_28) closed1_29) closed1_30) closed1_31)
theorem closed2 : Go.Proofs.YtgoofldhelffdaaGreatDoor.Tryz.pinned.checked.prog.funcNamed Go.Proofs.YtgoofldhelffdaaGreatDoor.Rows.topResyncsForwardRow.func = some 3 := by kernel_rfl
theorem closed3 : Tryz.f3.isInstance Go.Proofs.YtgoofldhelffdaaGreatDoor.Tryz.pinned.checked.prog Go.Proofs.YtgoofldhelffdaaGreatDoor.Rows.topResyncsForwardRow.origin Go.Proofs.YtgoofldhelffdaaGreatDoor.Rows.topResyncsForwardRow.targs := of_decide_eq_true (by kernel_rfl)
theorem closed4 : Tryz.f3.isWrapper Go.Proofs.YtgoofldhelffdaaGreatDoor.Tryz.pinned.checked.prog Go.Proofs.YtgoofldhelffdaaGreatDoor.Rows.topResyncsForwardRow.wrapper Go.Proofs.YtgoofldhelffdaaGreatDoor.Rows.topResyncsForwardRow.mainSum := by unfold Func.isWrapper; first | (rw [if_pos (by decide +kernel)]; kernel_rfl) | (rw [if_neg (by decide +kernel)]; exact ⟨rfl, rfl⟩)
theorem over : Go.Proofs.YtgoofldhelffdaaGreatDoor.Rows.topResyncsForwardRow.holds Go.Proofs.YtgoofldhelffdaaGreatDoor.Tryz.pinned (OpenSpec.ofChange Go.Proofs.YtgoofldhelffdaaGreatDoor.Rows.topResyncsForwardSpec) :=
  OpenClaim.holds_of_wide 3 Tryz.f3 rfl rfl rfl rfl rfl rfl rfl ⟨rfl, rfl, rfl, rfl, rfl⟩ rfl rfl rfl rfl rfl closed2 Tryz.func3 closed1 closed3 closed4
    (fun os started H enc _ => lifted os started H enc)
end TopResyncsForward
theorem provedTopResyncsForwardRow : Go.Proofs.YtgoofldhelffdaaGreatDoor.Rows.TopResyncsForwardSaid := TopResyncsForward.over
theorem provedTopResyncsForward : Go.Proofs.YtgoofldhelffdaaGreatDoor.Rows.TopResyncsForwardCardSaid :=
  Claim7.holds_tied_plain_at .later [] _ _ _ _
    provedTopResyncsForwardRow (fun _ h => by cases h) (by kernel_rfl) (fun _ h => by cases h) Go.Proofs.YtgoofldhelffdaaGreatDoor.topResyncsForward_row_tie rfl ⟨rfl, rfl⟩ (by kernel_rfl) rfl
    (fun f fn hf hfn => by
      obtain rfl : f = 3 := Option.some.inj ((show Tryz.prog.funcNamed "standby/standbytop.TopResyncsForward" = some 3 by kernel_rfl).symm.trans hf) |>.symm
      obtain rfl : fn = Tryz.f3 := (Option.some.inj (Tryz.func3.symm.trans hfn)).symm
      exact ⟨by kernel_rfl, fun j t ht => by
        rw [Tryz.params3] at ht
        have hm : t ∈ [27, 24] := by simpa using Array.mem_of_getElem? ht
        have hall : ([27, 24].all fun u => !Tryz.prog.wantsStandIn u) = true := by kernel_rfl
        exact (show Tryz.prog.wantsStandIn t = false by simpa using List.all_eq_true.1 hall t hm)⟩)
    (by kernel_rfl)
end Go.Proofs.YtgoofldhelffdaaGreatDoor
