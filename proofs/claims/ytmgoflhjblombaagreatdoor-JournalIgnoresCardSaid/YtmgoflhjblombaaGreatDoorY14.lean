/-
  The bytes of payloads do not matter: with other payloads of the same lengths there are the same journals.
  Conditions: none: for every input of the statement.
-/
import Derived.Test.YtmgoflhjblombaaGreatDoorRows
import Derived.Test.YtmgoflhjblombaaGreatDoorD8
import Derived.Test.YtmgoflhjblombaaGreatDoorD8
import Derived.Test.YtmgoflhjblombaaGreatDoorTie
import Derived.Test.YtmgoflhjblombaaGreatDoorCards
import Derived.Lay
import Derived.LaidLaws
import Derived.LaidHandle
import Derived.SevenTiedAt
set_option linter.unusedVariables false
set_option linter.unusedSimpArgs false
namespace Go.Proofs.YtmgoflhjblombaaGreatDoor
open Go.Proofs Go.ChangeShapes Go.WideShapes Go.ChangeAt Go.RowKit
namespace JournalIgnores
theorem own : ownKnob Tryz.prog.godebug = none := by kernel_rfl
theorem laidOut : laidOutB Tryz.prog = true := by kernel_rfl
set_option maxRecDepth 100000 in
theorem lifted (os : Os) (started : os.Started) (H : Type) (enc : TypeId × Value → H) :
    ReturnsInHanded {} Tryz.checked os 5 .any (fun w args => (Go.Proofs.YtmgoflhjblombaaGreatDoor.Rows.journalIgnoresSpec.pre enc Tryz.prog Tryz.f5 [] false w args ∧ laidMetH Tryz.prog Go.Proofs.YtmgoflhjblombaaGreatDoor.Rows.journalIgnoresRow.laid w) ∧ sizedMet enc Tryz.prog Tryz.f5 (OpenSpec.ofChange Go.Proofs.YtmgoflhjblombaaGreatDoor.Rows.journalIgnoresSpec) false w args) (Go.Proofs.YtmgoflhjblombaaGreatDoor.Rows.journalIgnoresSpec.post enc Tryz.prog Tryz.f5 false true false false) := by
  refine returnsInHanded_of_change_and (C := Tryz.checked) (X := fun w _ => laidMetH Tryz.prog Go.Proofs.YtmgoflhjblombaaGreatDoor.Rows.journalIgnoresRow.laid w) (fun _ _ _ hh h => h.of_heap hh) own started (by kernel_rfl) Tryz.func5
    (ChangeSpec.witness_shaped (enc := enc) (C := Tryz.checked) (os := os) (X := fun w _ => laidMetH Tryz.prog Go.Proofs.YtmgoflhjblombaaGreatDoor.Rows.journalIgnoresRow.laid w) false (World.laidAll Tryz.prog os Go.Proofs.YtmgoflhjblombaaGreatDoor.Rows.journalIgnoresRow.laid) #[.int .u8 0, .slice none 0 0, .slice none 0 0] 8 (World.laidAll_os _ _ _)
      (World.shaped_of_ZipB (by kernel_rfl) (by kernel_rfl)) (by kernel_rfl) (by kernel_rfl) (by kernel_rfl)
      (by rw [MakeChecks.laidMetH_plain _ _ _ (by kernel_rfl)]; exact laidMet_laidAll _ (by kernel_rfl) (by kernel_rfl))) ?_
  intro W base args ds gs before hval0 hW _ _ _ _
  have hval : ∀ (j : Nat) t v, Tryz.f5.params[j]? = some t → args[j]? = some v → Value.okWide Tryz.prog W .any base t v := hval0
  have hW' := hW
  obtain ⟨p, q, hA0, hV, rfl, hfz, hnd⟩ := hW
  have hA : DataW.TrodAll enc Tryz.prog W 0 (fun _ => true) true Tryz.f5.params.toList args.toList ds p := hA0
  rw [Tryz.params5] at hA hval
  have hB := hA
  obtain ⟨v0, vs0, d0, ds0, p0, q0, hargs, rfl, rfl, h0, r0⟩ := trodAll_cons hA
  obtain ⟨v1, vs1, d1, ds1, p1, q1, rfl, rfl, rfl, h1, r1⟩ := trodAll_cons r0
  obtain ⟨v2, vs2, d2, ds2, p2, q2, rfl, rfl, rfl, h2, r2⟩ := trodAll_cons r1
  obtain ⟨rfl, rfl, rfl⟩ := trodAll_nil r2
  obtain rfl : args = #[v0, v1, v2] := by cases args; simp_all
  obtain ⟨rfl, rfl⟩ := trodVars_none hV
  obtain ⟨a0, rfl⟩ := okWide_int Tryz.underlying5 (hval 0 5 v0 rfl rfl)
  obtain ⟨_, ⟨x0, hx0⟩, rel0⟩ := Opens.arg opens_u8 rfl h0
  obtain rfl := (List.cons.inj hx0).1
  obtain ⟨a1, len1, cap1, rfl⟩ := okWide_slice Tryz.underlying44 (hval 1 44 v1 rfl rfl)
  obtain ⟨_, ⟨x1, hx1, lim1⟩, rel1⟩ := Opens.arg opens_evs rfl h1
  obtain rfl := (List.cons.inj hx1).1
  obtain ⟨a2, len2, cap2, rfl⟩ := okWide_slice Tryz.underlying51 (hval 2 51 v2 rfl rfl)
  obtain ⟨_, ⟨x2, hx2, lim2⟩, rel2⟩ := Opens.arg opens_byt rfl h2
  obtain rfl := (List.cons.inj hx2).1
  clear hA0 hval0
  have rels : RelL (gh0 W) W [] [.v (.int .u8 (x0.toNat : Int)), .sl .sh 5 (x1.map evC), .sl .sh 1 (bs x2)] _ := relL_mk2 rel0 (relL_mk2 rel1 (relL_mk2 rel2 (relL_nil)))
  refine (law_calls rels (JIgnores_law _ _ x0 x1 lim1 x2 lim2) fun _ _ _ h => h.1).mono fun e W' ⟨he, bel⟩ => ?_
  subst he
  exact ⟨_, rfl, _, _, _, [], _, [], hW', trodAll_mk1 (shut_bool Tryz.underlying4 _), trodAll_below laidOut bel (by kernel_rfl) hB, rfl, bel.frame _, fun h => by cases h⟩

theorem and2 {a b : Bool} (h : a = true) (g : b = true) : (a && b) = true := by rw [h, g]; rfl
theorem closed1_0 : (Go.Proofs.YtmgoflhjblombaaGreatDoor.Rows.journalIgnoresRow.wf (OpenSpec.ofChange Go.Proofs.YtmgoflhjblombaaGreatDoor.Rows.journalIgnoresSpec)) = true := by kernel_rfl
theorem closed1_1 : (laidOutB Go.Proofs.YtmgoflhjblombaaGreatDoor.Tryz.pinned.checked.prog) = true := by kernel_rfl
theorem closed1_2 : (mapsRowed Go.Proofs.YtmgoflhjblombaaGreatDoor.Tryz.pinned.checked.prog) = true := by kernel_rfl
theorem closed1_3 : (Tryz.f5.params.all (Go.Proofs.YtmgoflhjblombaaGreatDoor.Tryz.pinned.checked.prog.readableRec ·)) = true := by kernel_rfl
theorem closed1_4 : (namedTie Go.Proofs.YtmgoflhjblombaaGreatDoor.Tryz.pinned.checked.prog Go.Proofs.YtmgoflhjblombaaGreatDoor.Rows.journalIgnoresRow.named Go.Proofs.YtmgoflhjblombaaGreatDoor.Rows.journalIgnoresSpec.vars) = true := by kernel_rfl
theorem closed1_5 : ((Go.Proofs.YtmgoflhjblombaaGreatDoor.Rows.journalIgnoresRow.stops == [])) = true := by kernel_rfl
theorem closed1_6 : ((Go.Proofs.YtmgoflhjblombaaGreatDoor.Tryz.pinned.checked.prog.stops == [])) = true := by kernel_rfl
theorem closed1_7 : ((Go.Proofs.YtmgoflhjblombaaGreatDoor.Rows.journalIgnoresRow.knobs == [])) = true := by kernel_rfl
theorem closed1_8 : ((Go.Proofs.YtmgoflhjblombaaGreatDoor.Tryz.pinned.checked.prog.stopKnobs == [])) = true := by kernel_rfl
theorem closed1_9 : ((Go.Proofs.YtmgoflhjblombaaGreatDoor.Rows.journalIgnoresRow.inPlace == Go.Proofs.YtmgoflhjblombaaGreatDoor.Tryz.pinned.checked.prog.inPlace 5)) = true := by kernel_rfl
theorem closed1_10 : ((Go.Proofs.YtmgoflhjblombaaGreatDoor.Rows.journalIgnoresRow.unfollowed == Go.Proofs.YtmgoflhjblombaaGreatDoor.Tryz.pinned.checked.prog.unfollowed 5)) = true := by kernel_rfl
theorem closed1_11 : ((Go.Proofs.YtmgoflhjblombaaGreatDoor.Rows.journalIgnoresRow.recurses == Go.Proofs.YtmgoflhjblombaaGreatDoor.Tryz.pinned.checked.prog.recurses 5)) = true := by kernel_rfl
theorem closed1_12 : ((Go.Proofs.YtmgoflhjblombaaGreatDoor.Rows.journalIgnoresRow.named == Go.Proofs.YtmgoflhjblombaaGreatDoor.Tryz.pinned.checked.prog.varsNamed 5)) = true := by kernel_rfl
theorem closed1_13 : ((Go.Proofs.YtmgoflhjblombaaGreatDoor.Rows.journalIgnoresRow.maps == (Tryz.f5.params.toList ++ Go.Proofs.YtmgoflhjblombaaGreatDoor.Rows.journalIgnoresSpec.plain.varTypes Go.Proofs.YtmgoflhjblombaaGreatDoor.Tryz.pinned.checked.prog).any (Go.Proofs.YtmgoflhjblombaaGreatDoor.Tryz.pinned.checked.prog.mapsRec ·))) = true := by kernel_rfl
theorem closed1_14 : ((Go.Proofs.YtmgoflhjblombaaGreatDoor.Rows.journalIgnoresRow.ifaces == (Tryz.f5.params.toList ++ Go.Proofs.YtmgoflhjblombaaGreatDoor.Rows.journalIgnoresSpec.plain.varTypes Go.Proofs.YtmgoflhjblombaaGreatDoor.Tryz.pinned.checked.prog).any (Go.Proofs.YtmgoflhjblombaaGreatDoor.Tryz.pinned.checked.prog.ifacesRec ·))) = true := by kernel_rfl
theorem closed1_15 : ((Go.Proofs.YtmgoflhjblombaaGreatDoor.Rows.journalIgnoresRow.mapsOut == Go.Proofs.YtmgoflhjblombaaGreatDoor.Tryz.pinned.checked.prog.mapsAmong Tryz.f5.resultTypes.toList)) = true := by kernel_rfl
theorem closed1_16 : ((Go.Proofs.YtmgoflhjblombaaGreatDoor.Rows.journalIgnoresRow.loops == (Tryz.f5.params.toList ++ Go.Proofs.YtmgoflhjblombaaGreatDoor.Rows.journalIgnoresSpec.plain.varTypes Go.Proofs.YtmgoflhjblombaaGreatDoor.Tryz.pinned.checked.prog).any (Go.Proofs.YtmgoflhjblombaaGreatDoor.Tryz.pinned.checked.prog.loopsFrom ·))) = true := by kernel_rfl
theorem closed1_17 : ((Go.Proofs.YtmgoflhjblombaaGreatDoor.Rows.journalIgnoresRow.wideKeys == (Tryz.f5.params.toList ++ Go.Proofs.YtmgoflhjblombaaGreatDoor.Rows.journalIgnoresSpec.plain.varTypes Go.Proofs.YtmgoflhjblombaaGreatDoor.Tryz.pinned.checked.prog ++ Tryz.f5.resultTypes.toList).any (Go.Proofs.YtmgoflhjblombaaGreatDoor.Tryz.pinned.checked.prog.wideKeysFrom ·))) = true := by kernel_rfl
theorem closed1_18 : (Go.Proofs.YtmgoflhjblombaaGreatDoor.Rows.journalIgnoresSpec.vars.all (Go.Proofs.YtmgoflhjblombaaGreatDoor.Tryz.pinned.checked.prog.varReadable ·)) = true := by kernel_rfl
theorem closed1_19 : (Tryz.f5.resultTypes.all (fun t => Go.Proofs.YtmgoflhjblombaaGreatDoor.Tryz.pinned.checked.prog.readableRec t && decide (t < Go.Proofs.YtmgoflhjblombaaGreatDoor.Tryz.pinned.checked.prog.types.size))) = true := by kernel_rfl
theorem closed1_20 : ((Go.Proofs.YtmgoflhjblombaaGreatDoor.Rows.journalIgnoresRow.ifacesOut == Tryz.f5.resultTypes.toList.any (Go.Proofs.YtmgoflhjblombaaGreatDoor.Tryz.pinned.checked.prog.ifacesRec ·))) = true := by kernel_rfl
theorem closed1_21 : ((Go.Proofs.YtmgoflhjblombaaGreatDoor.Rows.journalIgnoresRow.loopsOut == Tryz.f5.resultTypes.toList.any (Go.Proofs.YtmgoflhjblombaaGreatDoor.Tryz.pinned.checked.prog.loopsFrom ·))) = true := by kernel_rfl
theorem closed1_22 : ((Go.Proofs.YtmgoflhjblombaaGreatDoor.Rows.journalIgnoresRow.plainKeys == Go.Proofs.YtmgoflhjblombaaGreatDoor.Tryz.pinned.checked.prog.plainKeys)) = true := by kernel_rfl
theorem closed1_23 : (Go.Proofs.YtmgoflhjblombaaGreatDoor.Rows.journalIgnoresRow.shortTexts.isNone) = true := by kernel_rfl
theorem closed1_24 : (Go.Proofs.YtmgoflhjblombaaGreatDoor.Tryz.pinned.checked.prog.stopsHeard) = true := by kernel_rfl
theorem closed1_25 : (Go.Proofs.YtmgoflhjblombaaGreatDoor.Tryz.pinned.checked.prog.mayEnter) = true := by kernel_rfl
theorem closed1_26 : ((Go.Proofs.YtmgoflhjblombaaGreatDoor.Rows.journalIgnoresRow.lifted == Go.Proofs.YtmgoflhjblombaaGreatDoor.Tryz.pinned.checked.prog.liftsFinal)) = true := by kernel_rfl
theorem closed1_27 : ((Go.Proofs.YtmgoflhjblombaaGreatDoor.Tryz.pinned.checked.prog.make == some Go.Proofs.YtmgoflhjblombaaGreatDoor.Rows.journalIgnoresRow.make)) = true := by kernel_rfl
theorem closed1_28 : ((Go.Proofs.YtmgoflhjblombaaGreatDoor.Rows.journalIgnoresRow.kinds == (if Go.Proofs.YtmgoflhjblombaaGreatDoor.Rows.journalIgnoresRow.domain.isEmpty then [] else Tryz.f5.params.toList.map fun t => match Go.Proofs.YtmgoflhjblombaaGreatDoor.Tryz.pinned.checked.prog.underlying t with | some (.int k) => some k | _ => none))) = true := by kernel_rfl
theorem closed1_29 : ((Go.Proofs.YtmgoflhjblombaaGreatDoor.Rows.journalIgnoresRow.pinned == Go.Proofs.YtmgoflhjblombaaGreatDoor.Rows.journalIgnoresRow.pinnedBy)) = true := by kernel_rfl
theorem closed1_30 : ((Go.Proofs.YtmgoflhjblombaaGreatDoor.Rows.journalIgnoresRow.veiled == (Tryz.f5.params.toList ++ Go.Proofs.YtmgoflhjblombaaGreatDoor.Rows.journalIgnoresSpec.plain.varTypes Go.Proofs.YtmgoflhjblombaaGreatDoor.Tryz.pinned.checked.prog ++ Tryz.f5.resultTypes.toList).any (Go.Proofs.YtmgoflhjblombaaGreatDoor.Tryz.pinned.checked.prog.veiledRec ·))) = true := by kernel_rfl
theorem closed1_31 : (Go.Proofs.YtmgoflhjblombaaGreatDoor.Rows.journalIgnoresRow.veiledFits Go.Proofs.YtmgoflhjblombaaGreatDoor.Tryz.pinned.checked.prog Tryz.f5.params.toList (Tryz.f5.params.toList ++ Go.Proofs.YtmgoflhjblombaaGreatDoor.Rows.journalIgnoresSpec.plain.varTypes Go.Proofs.YtmgoflhjblombaaGreatDoor.Tryz.pinned.checked.prog ++ Tryz.f5.resultTypes.toList)) = true := by kernel_rfl
set_option maxRecDepth 100000 in
theorem closed1 : joinedFacts Go.Proofs.YtmgoflhjblombaaGreatDoor.Tryz.pinned.checked.prog 5 Tryz.f5 Go.Proofs.YtmgoflhjblombaaGreatDoor.Rows.journalIgnoresSpec Go.Proofs.YtmgoflhjblombaaGreatDoor.Rows.journalIgnoresRow = true := (and2 (and2 (and2 (and2 (and2 (and2 (and2 (and2 (and2 (and2 (and2 (and2 (and2 (and2 (and2 (and2 (and2 (and2 (and2 (and2 (and2 (and2 (and2 (and2 (and2 (and2 (and2 (and2 (and2 (and2 (and2 closed1_0 closed1_1) closed1_2) closed1_3) closed1_4) closed1_5) closed1_6) closed1_7) closed1_8) closed1_9) closed1_10) closed1_11) closed1_12) closed1_13) closed1_14) closed1_15) closed1_16) closed1_17) closed1_18) closed1_19) closed1_20) closed1_21) closed1_22) closed1_23) closed1_24) closed1_25) closed1_26) closed1_27) closed1_28) closed1_29) closed1_30) closed1_31)
theorem closed2 : Go.Proofs.YtmgoflhjblombaaGreatDoor.Tryz.pinned.checked.prog.funcNamed Go.Proofs.YtmgoflhjblombaaGreatDoor.Rows.journalIgnoresRow.func = some 5 := by kernel_rfl
theorem closed3 : Tryz.f5.isInstance Go.Proofs.YtmgoflhjblombaaGreatDoor.Tryz.pinned.checked.prog Go.Proofs.YtmgoflhjblombaaGreatDoor.Rows.journalIgnoresRow.origin Go.Proofs.YtmgoflhjblombaaGreatDoor.Rows.journalIgnoresRow.targs := of_decide_eq_true (by kernel_rfl)
theorem closed4 : Tryz.f5.isWrapper Go.Proofs.YtmgoflhjblombaaGreatDoor.Tryz.pinned.checked.prog Go.Proofs.YtmgoflhjblombaaGreatDoor.Rows.journalIgnoresRow.wrapper Go.Proofs.YtmgoflhjblombaaGreatDoor.Rows.journalIgnoresRow.mainSum := by unfold Func.isWrapper; first | (rw [if_pos (by decide +kernel)]; kernel_rfl) | (rw [if_neg (by decide +kernel)]; exact ⟨rfl, rfl⟩)
theorem over : Go.Proofs.YtmgoflhjblombaaGreatDoor.Rows.journalIgnoresRow.holds Go.Proofs.YtmgoflhjblombaaGreatDoor.Tryz.pinned (OpenSpec.ofChange Go.Proofs.YtmgoflhjblombaaGreatDoor.Rows.journalIgnoresSpec) :=
  OpenClaim.holds_of_wide 5 Tryz.f5 rfl rfl rfl rfl rfl rfl rfl ⟨rfl, rfl, rfl, rfl, rfl⟩ rfl rfl rfl rfl rfl closed2 Tryz.func5 closed1 closed3 closed4
    (fun os started H enc _ => lifted os started H enc)
end JournalIgnores
theorem provedJournalIgnoresRow : Go.Proofs.YtmgoflhjblombaaGreatDoor.Rows.JournalIgnoresSaid := JournalIgnores.over
theorem provedJournalIgnores : Go.Proofs.YtmgoflhjblombaaGreatDoor.Rows.JournalIgnoresCardSaid :=
  Claim7.holds_tied_plain_at .later [] _ _ _ _
    provedJournalIgnoresRow (fun _ h => by cases h) (by kernel_rfl) (fun _ h => by cases h) Go.Proofs.YtmgoflhjblombaaGreatDoor.journalIgnores_row_tie rfl ⟨rfl, rfl⟩ (by kernel_rfl) rfl
    (fun f fn hf hfn => by
      obtain rfl : f = 5 := Option.some.inj ((show Tryz.prog.funcNamed "standby/standbylaw14.JournalIgnores" = some 5 by kernel_rfl).symm.trans hf) |>.symm
      obtain rfl : fn = Tryz.f5 := (Option.some.inj (Tryz.func5.symm.trans hfn)).symm
      exact ⟨by kernel_rfl, fun j t ht => by
        rw [Tryz.params5] at ht
        have hm : t ∈ [5, 44, 51] := by simpa using Array.mem_of_getElem? ht
        have hall : ([5, 44, 51].all fun u => !Tryz.prog.wantsStandIn u) = true := by kernel_rfl
        exact (show Tryz.prog.wantsStandIn t = false by simpa using List.all_eq_true.1 hall t hm)⟩)
    (by kernel_rfl)
end Go.Proofs.YtmgoflhjblombaaGreatDoor
