/-
  TopReversedAgrees: the cycle of a reversal is what the first round of a failback transfers.
  Conditions: none: for every input of the statement.
-/
import Derived.Test.YtpedbpbmnchllaaGreatDoorRows
import Derived.Test.YtpedbpbmnchllaaGreatDoorD6
import Derived.Test.YtpedbpbmnchllaaGreatDoorD7
import Derived.Test.YtpedbpbmnchllaaGreatDoorTie
import Derived.Test.YtpedbpbmnchllaaGreatDoorCards
import Derived.Lay
import Derived.LaidLaws
import Derived.LaidHandle
import Derived.SevenTiedAt
set_option linter.unusedVariables false
set_option linter.unusedSimpArgs false
namespace Go.Proofs.YtpedbpbmnchllaaGreatDoor
open Go.Proofs Go.ChangeShapes Go.WideShapes Go.ChangeAt Go.RowKit
namespace TopReversedAgrees
theorem own : ownKnob Tryz.prog.godebug = none := by kernel_rfl
theorem laidOut : laidOutB Tryz.prog = true := by kernel_rfl
set_option maxRecDepth 100000 in
theorem lifted (os : Os) (started : os.Started) (H : Type) (enc : TypeId × Value → H) :
    ReturnsInHanded {} Tryz.checked os 4 .any (fun w args => (Go.Proofs.YtpedbpbmnchllaaGreatDoor.Rows.topReversedAgreesSpec.pre enc Tryz.prog Tryz.f4 [] false w args ∧ laidMetH Tryz.prog Go.Proofs.YtpedbpbmnchllaaGreatDoor.Rows.topReversedAgreesRow.laid w) ∧ sizedMet enc Tryz.prog Tryz.f4 (OpenSpec.ofChange Go.Proofs.YtpedbpbmnchllaaGreatDoor.Rows.topReversedAgreesSpec) false w args) (Go.Proofs.YtpedbpbmnchllaaGreatDoor.Rows.topReversedAgreesSpec.post enc Tryz.prog Tryz.f4 false true false false) := by
  refine returnsInHanded_of_change_and (C := Tryz.checked) (X := fun w _ => laidMetH Tryz.prog Go.Proofs.YtpedbpbmnchllaaGreatDoor.Rows.topReversedAgreesRow.laid w) (fun _ _ _ hh h => h.of_heap hh) own started (by kernel_rfl) Tryz.func4
    (ChangeSpec.witness_shaped (enc := enc) (C := Tryz.checked) (os := os) (X := fun w _ => laidMetH Tryz.prog Go.Proofs.YtpedbpbmnchllaaGreatDoor.Rows.topReversedAgreesRow.laid w) false (World.laidAll Tryz.prog os Go.Proofs.YtpedbpbmnchllaaGreatDoor.Rows.topReversedAgreesRow.laid) #[.int .u8 0, .agg #[.slice none 0 0, .slice none 0 0]] 8 (World.laidAll_os _ _ _)
      (World.shaped_of_ZipB (by kernel_rfl) (by kernel_rfl)) (by kernel_rfl) (by kernel_rfl) (by kernel_rfl)
      (by rw [MakeChecks.laidMetH_plain _ _ _ (by kernel_rfl)]; exact laidMet_laidAll _ (by kernel_rfl) (by kernel_rfl))) ?_
  intro W base args ds gs before hval0 hW _ _ hL _
  have hval : ∀ (j : Nat) t v, Tryz.f4.params[j]? = some t → args[j]? = some v → Value.okWide Tryz.prog W .any base t v := hval0
  have hW' := hW
  obtain ⟨p, q, hA0, hV, rfl, hfz, hnd⟩ := hW
  have hA : DataW.TrodAll enc Tryz.prog W 0 (fun _ => true) true Tryz.f4.params.toList args.toList ds p := hA0
  rw [Tryz.params4] at hA hval
  have hB := hA
  obtain ⟨v0, vs0, d0, ds0, p0, q0, hargs, rfl, rfl, h0, r0⟩ := trodAll_cons hA
  obtain ⟨v1, vs1, d1, ds1, p1, q1, rfl, rfl, rfl, h1, r1⟩ := trodAll_cons r0
  obtain ⟨rfl, rfl, rfl⟩ := trodAll_nil r1
  obtain rfl : args = #[v0, v1] := by cases args; simp_all
  obtain ⟨rfl, rfl⟩ := trodVars_none hV
  obtain ⟨a0, rfl⟩ := okWide_int Tryz.underlying5 (hval 0 5 v0 rfl rfl)
  obtain ⟨_, ⟨x0, hx0⟩, rel0⟩ := Opens.arg opens_u8 rfl h0
  obtain rfl := (List.cons.inj hx0).1
  obtain ⟨us1, rfl, _⟩ := okWide_array Tryz.underlying60 (hval 1 60 v1 rfl rfl)
  obtain ⟨_, ⟨x1, rfl, lim1⟩, rel1⟩ := Opens.args opens_a2 h1
  clear hA0 hval0
  have rels : RelL (gh0 W) W [] [.v (.int .u8 (x0.toNat : Int)), .agg (a2C x1.1 x1.2)] _ := relL_mk2 rel0 (relL_mk2 rel1 (relL_nil))
  refine (law_calls (glob_of_laid hL) rels (Agrees_law _ _ x0 x1.1 x1.2) fun _ _ _ h => h.1).mono fun e W' ⟨he, bel⟩ => ?_
  subst he
  exact ⟨_, rfl, _, _, _, [], _, [], hW', trodAll_mk1 (shut_bool Tryz.underlying4 _), trodAll_below laidOut bel (by kernel_rfl) hB, rfl, bel.frame _, fun h => by cases h⟩

theorem and2 {a b : Bool} (h : a = true) (g : b = true) : (a && b) = true := by rw [h, g]; rfl
theorem closed1_0 : (Go.Proofs.YtpedbpbmnchllaaGreatDoor.Rows.topReversedAgreesRow.wf (OpenSpec.ofChange Go.Proofs.YtpedbpbmnchllaaGreatDoor.Rows.topReversedAgreesSpec)) = true := by kernel_rfl
theorem closed1_1 : (laidOutB Go.Proofs.YtpedbpbmnchllaaGreatDoor.Tryz.pinned.checked.prog) = true := by kernel_rfl
theorem closed1_2 : (mapsRowed Go.Proofs.YtpedbpbmnchllaaGreatDoor.Tryz.pinned.checked.prog) = true := by kernel_rfl
theorem closed1_3 : (Tryz.f4.params.all (Go.Proofs.YtpedbpbmnchllaaGreatDoor.Tryz.pinned.checked.prog.readableRec ·)) = true := by kernel_rfl
theorem closed1_4 : (namedTie Go.Proofs.YtpedbpbmnchllaaGreatDoor.Tryz.pinned.checked.prog Go.Proofs.YtpedbpbmnchllaaGreatDoor.Rows.topReversedAgreesRow.named Go.Proofs.YtpedbpbmnchllaaGreatDoor.Rows.topReversedAgreesSpec.vars) = true := by kernel_rfl
theorem closed1_5 : ((Go.Proofs.YtpedbpbmnchllaaGreatDoor.Rows.topReversedAgreesRow.stops == [])) = true := by kernel_rfl
theorem closed1_6 : ((Go.Proofs.YtpedbpbmnchllaaGreatDoor.Tryz.pinned.checked.prog.stops == [])) = true := by kernel_rfl
theorem closed1_7 : ((Go.Proofs.YtpedbpbmnchllaaGreatDoor.Rows.topReversedAgreesRow.knobs == [])) = true := by kernel_rfl
theorem closed1_8 : ((Go.Proofs.YtpedbpbmnchllaaGreatDoor.Tryz.pinned.checked.prog.stopKnobs == [])) = true := by kernel_rfl
theorem closed1_9 : ((Go.Proofs.YtpedbpbmnchllaaGreatDoor.Rows.topReversedAgreesRow.inPlace == Go.Proofs.YtpedbpbmnchllaaGreatDoor.Tryz.pinned.checked.prog.inPlace 4)) = true := by kernel_rfl
theorem closed1_10 : ((Go.Proofs.YtpedbpbmnchllaaGreatDoor.Rows.topReversedAgreesRow.unfollowed == Go.Proofs.YtpedbpbmnchllaaGreatDoor.Tryz.pinned.checked.prog.unfollowed 4)) = true := by kernel_rfl
theorem closed1_11 : ((Go.Proofs.YtpedbpbmnchllaaGreatDoor.Rows.topReversedAgreesRow.recurses == Go.Proofs.YtpedbpbmnchllaaGreatDoor.Tryz.pinned.checked.prog.recurses 4)) = true := by kernel_rfl
theorem closed1_12 : ((Go.Proofs.YtpedbpbmnchllaaGreatDoor.Rows.topReversedAgreesRow.named == Go.Proofs.YtpedbpbmnchllaaGreatDoor.Tryz.pinned.checked.prog.varsNamed 4)) = true := by kernel_rfl
theorem closed1_13 : ((Go.Proofs.YtpedbpbmnchllaaGreatDoor.Rows.topReversedAgreesRow.maps == (Tryz.f4.params.toList ++ Go.Proofs.YtpedbpbmnchllaaGreatDoor.Rows.topReversedAgreesSpec.plain.varTypes Go.Proofs.YtpedbpbmnchllaaGreatDoor.Tryz.pinned.checked.prog).any (Go.Proofs.YtpedbpbmnchllaaGreatDoor.Tryz.pinned.checked.prog.mapsRec ·))) = true := by kernel_rfl
theorem closed1_14 : ((Go.Proofs.YtpedbpbmnchllaaGreatDoor.Rows.topReversedAgreesRow.ifaces == (Tryz.f4.params.toList ++ Go.Proofs.YtpedbpbmnchllaaGreatDoor.Rows.topReversedAgreesSpec.plain.varTypes Go.Proofs.YtpedbpbmnchllaaGreatDoor.Tryz.pinned.checked.prog).any (Go.Proofs.YtpedbpbmnchllaaGreatDoor.Tryz.pinned.checked.prog.ifacesRec ·))) = true := by kernel_rfl
theorem closed1_15 : ((Go.Proofs.YtpedbpbmnchllaaGreatDoor.Rows.topReversedAgreesRow.mapsOut == Go.Proofs.YtpedbpbmnchllaaGreatDoor.Tryz.pinned.checked.prog.mapsAmong Tryz.f4.resultTypes.toList)) = true := by kernel_rfl
theorem closed1_16 : ((Go.Proofs.YtpedbpbmnchllaaGreatDoor.Rows.topReversedAgreesRow.loops == (Tryz.f4.params.toList ++ Go.Proofs.YtpedbpbmnchllaaGreatDoor.Rows.topReversedAgreesSpec.plain.varTypes Go.Proofs.YtpedbpbmnchllaaGreatDoor.Tryz.pinned.checked.prog).any (Go.Proofs.YtpedbpbmnchllaaGreatDoor.Tryz.pinned.checked.prog.loopsFrom ·))) = true := by kernel_rfl
theorem closed1_17 : ((Go.Proofs.YtpedbpbmnchllaaGreatDoor.Rows.topReversedAgreesRow.wideKeys == (Tryz.f4.params.toList ++ Go.Proofs.YtpedbpbmnchllaaGreatDoor.Rows.topReversedAgreesSpec.plain.varTypes Go.Proofs.YtpedbpbmnchllaaGreatDoor.Tryz.pinned.checked.prog ++ Tryz.f4.resultTypes.toList).any (Go.Proofs.YtpedbpbmnchllaaGreatDoor.Tryz.pinned.checked.prog.wideKeysFrom ·))) = true := by kernel_rfl
theorem closed1_18 : (Go.Proofs.YtpedbpbmnchllaaGreatDoor.Rows.topReversedAgreesSpec.vars.all (Go.Proofs.YtpedbpbmnchllaaGreatDoor.Tryz.pinned.checked.prog.varReadable ·)) = true := by kernel_rfl
theorem closed1_19 : (Tryz.f4.resultTypes.all (fun t => Go.Proofs.YtpedbpbmnchllaaGreatDoor.Tryz.pinned.checked.prog.readableRec t && decide (t < Go.Proofs.YtpedbpbmnchllaaGreatDoor.Tryz.pinned.checked.prog.types.size))) = true := by kernel_rfl
theorem closed1_20 : ((Go.Proofs.YtpedbpbmnchllaaGreatDoor.Rows.topReversedAgreesRow.ifacesOut == Tryz.f4.resultTypes.toList.any (Go.Proofs.YtpedbpbmnchllaaGreatDoor.Tryz.pinned.checked.prog.ifacesRec ·))) = true := by kernel_rfl
theorem closed1_21 : ((Go.Proofs.YtpedbpbmnchllaaGreatDoor.Rows.topReversedAgreesRow.loopsOut == Tryz.f4.resultTypes.toList.any (Go.Proofs.YtpedbpbmnchllaaGreatDoor.Tryz.pinned.checked.prog.loopsFrom ·))) = true := by kernel_rfl
theorem closed1_22 : ((Go.Proofs.YtpedbpbmnchllaaGreatDoor.Rows.topReversedAgreesRow.plainKeys == Go.Proofs.YtpedbpbmnchllaaGreatDoor.Tryz.pinned.checked.prog.plainKeys)) = true := by kernel_rfl
theorem closed1_23 : (Go.Proofs.YtpedbpbmnchllaaGreatDoor.Rows.topReversedAgreesRow.shortTexts.isNone) = true := by kernel_rfl
theorem closed1_24 : (Go.Proofs.YtpedbpbmnchllaaGreatDoor.Tryz.pinned.checked.prog.stopsHeard) = true := by kernel_rfl
theorem closed1_25 : (Go.Proofs.YtpedbpbmnchllaaGreatDoor.Tryz.pinned.checked.prog.mayEnter) = true := by kernel_rfl
theorem closed1_26 : ((Go.Proofs.YtpedbpbmnchllaaGreatDoor.Rows.topReversedAgreesRow.lifted == Go.Proofs.YtpedbpbmnchllaaGreatDoor.Tryz.pinned.checked.prog.liftsFinal)) = true := by kernel_rfl
theorem closed1_27 : ((Go.Proofs.YtpedbpbmnchllaaGreatDoor.Tryz.pinned.checked.prog.make == some Go.Proofs.YtpedbpbmnchllaaGreatDoor.Rows.topReversedAgreesRow.make)) = true := by kernel_rfl
theorem closed1_28 : ((Go.Proofs.YtpedbpbmnchllaaGreatDoor.Rows.topReversedAgreesRow.kinds == (if Go.Proofs.YtpedbpbmnchllaaGreatDoor.Rows.topReversedAgreesRow.domain.isEmpty then [] else Tryz.f4.params.toList.map fun t => match Go.Proofs.YtpedbpbmnchllaaGreatDoor.Tryz.pinned.checked.prog.underlying t with | some (.int k) => some k | _ => none))) = true := by kernel_rfl
theorem closed1_29 : ((Go.Proofs.YtpedbpbmnchllaaGreatDoor.Rows.topReversedAgreesRow.pinned == Go.Proofs.YtpedbpbmnchllaaGreatDoor.Rows.topReversedAgreesRow.pinnedBy)) = true := by kernel_rfl
theorem closed1_30 : ((Go.Proofs.YtpedbpbmnchllaaGreatDoor.Rows.topReversedAgreesRow.veiled == (Tryz.f4.params.toList ++ Go.Proofs.YtpedbpbmnchllaaGreatDoor.Rows.topReversedAgreesSpec.plain.varTypes Go.Proofs.YtpedbpbmnchllaaGreatDoor.Tryz.pinned.checked.prog ++ Tryz.f4.resultTypes.toList).any (Go.Proofs.YtpedbpbmnchllaaGreatDoor.Tryz.pinned.checked.prog.veiledRec ·))) = true := by kernel_rfl
theorem closed1_31 : (Go.Proofs.YtpedbpbmnchllaaGreatDoor.Rows.topReversedAgreesRow.veiledFits Go.Proofs.YtpedbpbmnchllaaGreatDoor.Tryz.pinned.checked.prog Tryz.f4.params.toList (Tryz.f4.params.toList ++ Go.Proofs.YtpedbpbmnchllaaGreatDoor.Rows.topReversedAgreesSpec.plain.varTypes Go.Proofs.YtpedbpbmnchllaaGreatDoor.Tryz.pinned.checked.prog ++ Tryz.f4.resultTypes.toList)) = true := by kernel_rfl
set_option maxRecDepth 100000 in
theorem closed1 : joinedFacts Go.Proofs.YtpedbpbmnchllaaGreatDoor.Tryz.pinned.checked.prog 4 Tryz.f4 Go.Proofs.YtpedbpbmnchllaaGreatDoor.Rows.topReversedAgreesSpec Go.Proofs.YtpedbpbmnchllaaGreatDoor.Rows.topReversedAgreesRow = true := (and2 (and2 (and2 (and2 (and2 (and2 (and2 (and2 (and2 (and2 (and2 (and2 (and2 (and2 (and2 (and2 (and2 (and2 (and2 (and2 (and2 (and2 (and2 (and2 (and2 (and2 (and2 (and2 (and2 (and2 (and2 closed1_0 closed1_1) closed1_2) closed1_3) closed1_4) closed1_5) closed1_6) closed1_7) closed1_8) closed1_9) closed1_10) closed1_11) closed1_12) closed1_13) closed1_14) closed1_15) closed1_16) closed1_17) closed1_18) closed1_19) closed1_20) closed1_21) closed1_22) closed1_23) closed1_24) closed1_25) closed1_26) closed1_27) closed1_28) closed1_29) closed1_30) closed1_31)
theorem closed2 : Go.Proofs.YtpedbpbmnchllaaGreatDoor.Tryz.pinned.checked.prog.funcNamed Go.Proofs.YtpedbpbmnchllaaGreatDoor.Rows.topReversedAgreesRow.func = some 4 := by kernel_rfl
theorem closed3 : Tryz.f4.isInstance Go.Proofs.YtpedbpbmnchllaaGreatDoor.Tryz.pinned.checked.prog Go.Proofs.YtpedbpbmnchllaaGreatDoor.Rows.topReversedAgreesRow.origin Go.Proofs.YtpedbpbmnchllaaGreatDoor.Rows.topReversedAgreesRow.targs := of_decide_eq_true (by kernel_rfl)
theorem closed4 : Tryz.f4.isWrapper Go.Proofs.YtpedbpbmnchllaaGreatDoor.Tryz.pinned.checked.prog Go.Proofs.YtpedbpbmnchllaaGreatDoor.Rows.topReversedAgreesRow.wrapper Go.Proofs.YtpedbpbmnchllaaGreatDoor.Rows.topReversedAgreesRow.mainSum := by unfold Func.isWrapper; first | (rw [if_pos (by decide +kernel)]; kernel_rfl) | (rw [if_neg (by decide +kernel)]; exact ⟨rfl, rfl⟩)
theorem over : Go.Proofs.YtpedbpbmnchllaaGreatDoor.Rows.topReversedAgreesRow.holds Go.Proofs.YtpedbpbmnchllaaGreatDoor.Tryz.pinned (OpenSpec.ofChange Go.Proofs.YtpedbpbmnchllaaGreatDoor.Rows.topReversedAgreesSpec) :=
  OpenClaim.holds_of_wide 4 Tryz.f4 rfl rfl rfl rfl rfl rfl rfl ⟨rfl, rfl, rfl, rfl, rfl⟩ rfl rfl rfl rfl rfl closed2 Tryz.func4 closed1 closed3 closed4
    (fun os started H enc _ => lifted os started H enc)
end TopReversedAgrees
theorem provedTopReversedAgreesRow : Go.Proofs.YtpedbpbmnchllaaGreatDoor.Rows.TopReversedAgreesSaid := TopReversedAgrees.over
theorem provedTopReversedAgrees : Go.Proofs.YtpedbpbmnchllaaGreatDoor.Rows.TopReversedAgreesCardSaid :=
  Claim7.holds_tied_plain_at .later [] _ _ _ _
    provedTopReversedAgreesRow (fun _ h => by cases h) (by kernel_rfl) (fun _ h => by cases h) Go.Proofs.YtpedbpbmnchllaaGreatDoor.topReversedAgrees_row_tie rfl ⟨rfl, rfl⟩ (by kernel_rfl) rfl
    (fun f fn hf hfn => by
      obtain rfl : f = 4 := Option.some.inj ((show Tryz.prog.funcNamed "standby/standbytop.TopReversedAgrees" = some 4 by kernel_rfl).symm.trans hf) |>.symm
      obtain rfl : fn = Tryz.f4 := (Option.some.inj (Tryz.func4.symm.trans hfn)).symm
      exact ⟨by kernel_rfl, fun j t ht => by
        rw [Tryz.params4] at ht
        have hm : t ∈ [5, 60] := by simpa using Array.mem_of_getElem? ht
        have hall : ([5, 60].all fun u => !Tryz.prog.wantsStandIn u) = true := by kernel_rfl
        exact (show Tryz.prog.wantsStandIn t = false by simpa using List.all_eq_true.1 hall t hm)⟩)
    (by kernel_rfl)
end Go.Proofs.YtpedbpbmnchllaaGreatDoor
