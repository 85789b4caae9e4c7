/-
  JournalAppends: Append, Check, Next and Free return the results or errors of the reference.
  Conditions: none: for every input of the statement.
-/
import Derived.Test.YtmgoflhjblombaaDoorRows
import Derived.Test.YtmgoflhjblombaaDoorA8
import Derived.Test.YtmgoflhjblombaaDoorA8
import Derived.Test.YtmgoflhjblombaaDoorTie
import Derived.Test.YtmgoflhjblombaaDoorCards
import Derived.Lay
import Derived.LaidLaws
import Derived.LaidHandle
import Derived.SevenTiedAt
set_option linter.unusedVariables false
set_option linter.unusedSimpArgs false
namespace Go.Proofs.YtmgoflhjblombaaDoor
open Go.Proofs Go.ChangeShapes Go.WideShapes Go.ChangeAt Go.RowKit
namespace JournalAppends
theorem own : ownKnob Tryd.prog.godebug = none := by kernel_rfl
theorem laidOut : laidOutB Tryd.prog = true := by kernel_rfl
set_option maxRecDepth 100000 in
theorem lifted (os : Os) (started : os.Started) (H : Type) (enc : TypeId × Value → H) :
    ReturnsInHanded {} Tryd.checked os 4 .any (fun w args => (Go.Proofs.YtmgoflhjblombaaDoor.Rows.journalAppendsSpec.pre enc Tryd.prog Tryd.f4 [] false w args ∧ laidMetH Tryd.prog Go.Proofs.YtmgoflhjblombaaDoor.Rows.journalAppendsRow.laid w) ∧ sizedMet enc Tryd.prog Tryd.f4 (OpenSpec.ofChange Go.Proofs.YtmgoflhjblombaaDoor.Rows.journalAppendsSpec) false w args) (Go.Proofs.YtmgoflhjblombaaDoor.Rows.journalAppendsSpec.post enc Tryd.prog Tryd.f4 false true false false) := by
  refine returnsInHanded_of_change_and (C := Tryd.checked) (X := fun w _ => laidMetH Tryd.prog Go.Proofs.YtmgoflhjblombaaDoor.Rows.journalAppendsRow.laid w) (fun _ _ _ hh h => h.of_heap hh) own started (by kernel_rfl) Tryd.func4
    (ChangeSpec.witness_shaped (enc := enc) (C := Tryd.checked) (os := os) (X := fun w _ => laidMetH Tryd.prog Go.Proofs.YtmgoflhjblombaaDoor.Rows.journalAppendsRow.laid w) false (World.laidAll Tryd.prog os Go.Proofs.YtmgoflhjblombaaDoor.Rows.journalAppendsRow.laid) #[.agg #[.int .i64 0, .int .i64 0, .int .i64 0, .int .i64 0, .int .i64 0, .slice none 0 0], .int .i64 0, .slice none 0 0] 8 (World.laidAll_os _ _ _)
      (World.shaped_of_ZipB (by kernel_rfl) (by kernel_rfl)) (by kernel_rfl) (by kernel_rfl) (by kernel_rfl)
      (by rw [MakeChecks.laidMetH_plain _ _ _ (by kernel_rfl)]; exact laidMet_laidAll _ (by kernel_rfl) (by kernel_rfl))) ?_
  intro W base args ds gs before hval0 hW _ _ _ _
  have hval : ∀ (j : Nat) t v, Tryd.f4.params[j]? = some t → args[j]? = some v → Value.okWide Tryd.prog W .any base t v := hval0
  have hW' := hW
  obtain ⟨p, q, hA0, hV, rfl, hfz, hnd⟩ := hW
  have hA : DataW.TrodAll enc Tryd.prog W 0 (fun _ => true) true Tryd.f4.params.toList args.toList ds p := hA0
  rw [Tryd.params4] at hA hval
  have hB := hA
  obtain ⟨v0, vs0, d0, ds0, p0, q0, hargs, rfl, rfl, h0, r0⟩ := trodAll_cons hA
  obtain ⟨v1, vs1, d1, ds1, p1, q1, rfl, rfl, rfl, h1, r1⟩ := trodAll_cons r0
  obtain ⟨v2, vs2, d2, ds2, p2, q2, rfl, rfl, rfl, h2, r2⟩ := trodAll_cons r1
  obtain ⟨rfl, rfl, rfl⟩ := trodAll_nil r2
  obtain rfl : args = #[v0, v1, v2] := by cases args; simp_all
  obtain ⟨rfl, rfl⟩ := trodVars_none hV
  obtain ⟨us0, rfl, _⟩ := okWide_struct Tryd.underlying27 (hval 0 27 v0 rfl rfl)
  obtain ⟨_, ⟨x0, rfl⟩, rel0⟩ := Opens.args opens_jr h0
  obtain ⟨a1, rfl⟩ := okWide_int Tryd.underlying3 (hval 1 3 v1 rfl rfl)
  obtain ⟨_, ⟨x1, hx1⟩, rel1⟩ := Opens.arg opens_int rfl h1
  obtain rfl := (List.cons.inj hx1).1
  obtain ⟨a2, len2, cap2, rfl⟩ := okWide_slice Tryd.underlying37 (hval 2 37 v2 rfl rfl)
  obtain ⟨_, ⟨x2, hx2, lim2⟩, rel2⟩ := Opens.arg opens_bytes rfl h2
  obtain rfl := (List.cons.inj hx2).1
  clear hA0 hval0
  have rels : RelL (gh0 W) W [] [.agg (jrC x0), ci x1, .sl .sh 1 (bs x2)] _ := relL_mk2 rel0 (relL_mk2 rel1 (relL_mk2 rel2 (relL_nil)))
  refine (law_calls rels (Appends_lawR x0 x1 x2) fun _ _ _ h => h.1).mono fun e W' ⟨he, bel⟩ => ?_
  subst he
  exact ⟨_, rfl, _, _, _, [], _, [], hW', trodAll_mk1 (shut_bool Tryd.underlying4 _), trodAll_below laidOut bel (by kernel_rfl) hB, rfl, bel.frame _, fun h => by cases h⟩

theorem over : Go.Proofs.YtmgoflhjblombaaDoor.Rows.journalAppendsRow.holds Go.Proofs.YtmgoflhjblombaaDoor.Tryd.pinned (OpenSpec.ofChange Go.Proofs.YtmgoflhjblombaaDoor.Rows.journalAppendsSpec) :=
  OpenClaim.holds_of_wide 4 Tryd.f4 rfl rfl rfl rfl rfl rfl rfl ⟨rfl, rfl, rfl, rfl, rfl⟩ rfl rfl rfl rfl rfl (by kernel_rfl) Tryd.func4 (by kernel_rfl)
    (of_decide_eq_true (by kernel_rfl)) (by unfold Func.isWrapper; first | (rw [if_pos (by decide +kernel)]; kernel_rfl) | (rw [if_neg (by decide +kernel)]; exact ⟨rfl, rfl⟩))
    (fun os started H enc _ => lifted os started H enc)
end JournalAppends
theorem provedJournalAppendsRow : Go.Proofs.YtmgoflhjblombaaDoor.Rows.JournalAppendsSaid := JournalAppends.over
theorem provedJournalAppends : Go.Proofs.YtmgoflhjblombaaDoor.Rows.JournalAppendsCardSaid :=
  Claim7.holds_tied_plain_at .later [] _ _ _ _
    provedJournalAppendsRow (fun _ h => by cases h) (by kernel_rfl) (fun _ h => by cases h) Go.Proofs.YtmgoflhjblombaaDoor.journalAppends_row_tie rfl ⟨rfl, rfl⟩ (by kernel_rfl) rfl
    (fun f fn hf hfn => by
      obtain rfl : f = 4 := Option.some.inj ((show Tryd.prog.funcNamed "standby/standbylaw14.JournalAppends" = some 4 by kernel_rfl).symm.trans hf) |>.symm
      obtain rfl : fn = Tryd.f4 := (Option.some.inj (Tryd.func4.symm.trans hfn)).symm
      exact ⟨by kernel_rfl, fun j t ht => by
        rw [Tryd.params4] at ht
        have hm : t ∈ [27, 3, 37] := by simpa using Array.mem_of_getElem? ht
        have hall : ([27, 3, 37].all fun u => !Tryd.prog.wantsStandIn u) = true := by kernel_rfl
        exact (show Tryd.prog.wantsStandIn t = false by simpa using List.all_eq_true.1 hall t hm)⟩)
    (by kernel_rfl)
end Go.Proofs.YtmgoflhjblombaaDoor
