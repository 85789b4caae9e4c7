/-
  SuperblockBegins: when Format is interrupted on a disk with a superblock, Load returns the new payload, one that was stored before, or ErrChecksum; after all operations it returns the new one.
  Conditions: none: for every input of the statement.
-/
import Derived.Test.YtdiblbjchhjccaaDoorRows
import Derived.Test.YtdiblbjchhjccaaDoorA22
import Derived.Test.YtdiblbjchhjccaaDoorA21
import Derived.Test.YtdiblbjchhjccaaDoorTie
import Derived.Test.YtdiblbjchhjccaaDoorCards
import Derived.Lay
import Derived.LaidLaws
import Derived.LaidHandle
import Derived.SevenTiedAt
set_option linter.unusedVariables false
set_option linter.unusedSimpArgs false
namespace Go.Proofs.YtdiblbjchhjccaaDoor
open Go.Proofs Go.ChangeShapes Go.WideShapes Go.ChangeAt Go.RowKit
namespace SuperblockBegins
theorem own : ownKnob Tryd.prog.godebug = none := by kernel_rfl
theorem laidOut : laidOutB Tryd.prog = true := by kernel_rfl
set_option maxRecDepth 100000 in
theorem lifted (os : Os) (started : os.Started) (H : Type) (enc : TypeId × Value → H) :
    ReturnsInHanded {} Tryd.checked os 9 .any (fun w args => (Go.Proofs.YtdiblbjchhjccaaDoor.Rows.superblockBeginsSpec.pre enc Tryd.prog Tryd.f9 [] false w args ∧ laidMetH Tryd.prog Go.Proofs.YtdiblbjchhjccaaDoor.Rows.superblockBeginsRow.laid w) ∧ sizedMet enc Tryd.prog Tryd.f9 (OpenSpec.ofChange Go.Proofs.YtdiblbjchhjccaaDoor.Rows.superblockBeginsSpec) false w args) (Go.Proofs.YtdiblbjchhjccaaDoor.Rows.superblockBeginsSpec.post enc Tryd.prog Tryd.f9 false true false false) := by
  refine returnsInHanded_of_change_and (C := Tryd.checked) (X := fun w _ => laidMetH Tryd.prog Go.Proofs.YtdiblbjchhjccaaDoor.Rows.superblockBeginsRow.laid w) (fun _ _ _ hh h => h.of_heap hh) own started (by kernel_rfl) Tryd.func9
    (ChangeSpec.witness_shaped (enc := enc) (C := Tryd.checked) (os := os) (X := fun w _ => laidMetH Tryd.prog Go.Proofs.YtdiblbjchhjccaaDoor.Rows.superblockBeginsRow.laid w) false (World.laidAll Tryd.prog os Go.Proofs.YtdiblbjchhjccaaDoor.Rows.superblockBeginsRow.laid) #[.slice none 0 0, .slice none 0 0, .agg #[.slice none 0 0, .int .u8 0, .slice none 0 0]] 8 (World.laidAll_os _ _ _)
      (World.shaped_of_ZipB (by kernel_rfl) (by kernel_rfl)) (by kernel_rfl) (by kernel_rfl) (by kernel_rfl)
      (by rw [MakeChecks.laidMetH_plain _ _ _ (by kernel_rfl)]; exact laidMet_laidAll _ (by kernel_rfl) (by kernel_rfl))) ?_
  intro W base args ds gs before hval0 hW _ _ _ _
  have hval : ∀ (j : Nat) t v, Tryd.f9.params[j]? = some t → args[j]? = some v → Value.okWide Tryd.prog W .any base t v := hval0
  have hW' := hW
  obtain ⟨p, q, hA0, hV, rfl, hfz, hnd⟩ := hW
  have hA : DataW.TrodAll enc Tryd.prog W 0 (fun _ => true) true Tryd.f9.params.toList args.toList ds p := hA0
  rw [Tryd.params9] at hA hval
  have hB := hA
  obtain ⟨v0, vs0, d0, ds0, p0, q0, hargs, rfl, rfl, h0, r0⟩ := trodAll_cons hA
  obtain ⟨v1, vs1, d1, ds1, p1, q1, rfl, rfl, rfl, h1, r1⟩ := trodAll_cons r0
  obtain ⟨v2, vs2, d2, ds2, p2, q2, rfl, rfl, rfl, h2, r2⟩ := trodAll_cons r1
  obtain ⟨rfl, rfl, rfl⟩ := trodAll_nil r2
  obtain rfl : args = #[v0, v1, v2] := by cases args; simp_all
  obtain ⟨rfl, rfl⟩ := trodVars_none hV
  obtain ⟨a0, len0, cap0, rfl⟩ := okWide_slice Tryd.underlying22 (hval 0 22 v0 rfl rfl)
  obtain ⟨_, ⟨x0, hx0, lim0⟩, rel0⟩ := Opens.arg opens_bytes rfl h0
  obtain rfl := (List.cons.inj hx0).1
  obtain ⟨a1, len1, cap1, rfl⟩ := okWide_slice Tryd.underlying22 (hval 1 22 v1 rfl rfl)
  obtain ⟨_, ⟨x1, hx1, lim1⟩, rel1⟩ := Opens.arg opens_bytes rfl h1
  obtain rfl := (List.cons.inj hx1).1
  obtain ⟨us2, rfl, _⟩ := okWide_struct Tryd.underlying54 (hval 2 54 v2 rfl rfl)
  obtain ⟨_, ⟨x2, rfl⟩, rel2⟩ := Opens.args opens_stp h2
  clear hA0 hval0
  have rels : RelL (gh0 W) W [] [.sl .sh 1 (bs x0), .sl .sh 1 (bs x1), .agg (stpC x2)] _ := relL_mk2 rel0 (relL_mk2 rel1 (relL_mk2 rel2 (relL_nil)))
  refine (law_calls rels (Begins_law x0 x1 x2) fun _ _ _ h => h.1).mono fun e W' ⟨he, bel⟩ => ?_
  subst he
  exact ⟨_, rfl, _, _, _, [], _, [], hW', trodAll_mk1 (shut_bool Tryd.underlying4 _), trodAll_below laidOut bel (by kernel_rfl) hB, rfl, bel.frame _, fun h => by cases h⟩

theorem over : Go.Proofs.YtdiblbjchhjccaaDoor.Rows.superblockBeginsRow.holds Go.Proofs.YtdiblbjchhjccaaDoor.Tryd.pinned (OpenSpec.ofChange Go.Proofs.YtdiblbjchhjccaaDoor.Rows.superblockBeginsSpec) :=
  OpenClaim.holds_of_wide 9 Tryd.f9 rfl rfl rfl rfl rfl rfl rfl ⟨rfl, rfl, rfl, rfl, rfl⟩ rfl rfl rfl rfl rfl (by kernel_rfl) Tryd.func9 (by kernel_rfl)
    (of_decide_eq_true (by kernel_rfl)) (by unfold Func.isWrapper; first | (rw [if_pos (by decide +kernel)]; kernel_rfl) | (rw [if_neg (by decide +kernel)]; exact ⟨rfl, rfl⟩))
    (fun os started H enc _ => lifted os started H enc)
end SuperblockBegins
theorem provedSuperblockBeginsRow : Go.Proofs.YtdiblbjchhjccaaDoor.Rows.SuperblockBeginsSaid := SuperblockBegins.over
theorem provedSuperblockBegins : Go.Proofs.YtdiblbjchhjccaaDoor.Rows.SuperblockBeginsCardSaid :=
  Claim7.holds_tied_plain_at .later [] [.data, .pinned] true (true, "3a31e29a8a103315c78a4a60b4ee9778962c967c851e5ef7c6b335867e0e86a8") false
    provedSuperblockBeginsRow (fun _ h => by cases h) (by kernel_rfl) (fun _ h => by cases h) Go.Proofs.YtdiblbjchhjccaaDoor.superblockBegins_row_tie rfl ⟨rfl, rfl⟩ (by kernel_rfl) rfl
    (fun f fn hf hfn => by
      obtain rfl : f = 9 := Option.some.inj ((show Tryd.prog.funcNamed "standby/standbylaw12.SuperblockBegins" = some 9 by kernel_rfl).symm.trans hf) |>.symm
      obtain rfl : fn = Tryd.f9 := (Option.some.inj (Tryd.func9.symm.trans hfn)).symm
      exact ⟨by kernel_rfl, fun j t ht => by
        rw [Tryd.params9] at ht
        have hm : t ∈ [22, 22, 54] := by simpa using Array.mem_of_getElem? ht
        have hall : ([22, 22, 54].all fun u => !Tryd.prog.wantsStandIn u) = true := by kernel_rfl
        exact (show Tryd.prog.wantsStandIn t = false by simpa using List.all_eq_true.1 hall t hm)⟩)
    (by kernel_rfl)
end Go.Proofs.YtdiblbjchhjccaaDoor
