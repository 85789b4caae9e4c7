import Derived.Test.YtpadnceoacbaeaaGreatA6
import Derived.Test.YtpadnceoacbaeaaGreatA5
set_option linter.unusedSimpArgs false
set_option linter.unusedVariables false
set_option linter.unusedSectionVars false
namespace Go.Proofs.YtpadnceoacbaeaaGreat
open Go.Proofs
def awC (n : Int) : Cyc := ⟨n - 1, n, 0, [], []⟩
def awF0 : Fan := ⟨2, [], [4, 4], [false, false]⟩
def awF1 : Fan := ⟨2, [awC 5], [4, 4], [false, false]⟩
def awF2 : Fan := ⟨2, [awC 5, awC 6], [4, 4], [false, false]⟩
def awF3 : Fan := ⟨2, [awC 5, awC 6], [5, 4], [false, false]⟩
def awF4 : Fan := ⟨2, [awC 6, awC 7], [5, 4], [false, true]⟩
def awJ (n : Int) : Fan := ⟨2, [awC 6, awC 7], [5, n], [false, false]⟩
theorem aw_0 : newFan 2 2 4 = .ok awF0 := by kernel_rfl
theorem aw_1 : pushF awF0 (awC 5) = .ok (awF1, []) := by kernel_rfl
theorem aw_2 : pushF awF1 (awC 6) = .ok (awF2, []) := by kernel_rfl
theorem aw_3 : appF awF2 0 5 = .ok awF3 := by kernel_rfl
theorem aw_4 : nextF awF3 0 = some (awC 6) := by kernel_rfl
theorem aw_5 : nextF awF3 1 = some (awC 5) := by kernel_rfl
theorem aw_6 : oldF awF3 = 4 := by kernel_rfl
theorem aw_7 : pushF awF3 (awC 7) = .ok (awF4, [1]) := by kernel_rfl
theorem aw_8 : oldF awF4 = 5 := by kernel_rfl
theorem aw_9 : joinF awF4 1 4 = .error 15 := by kernel_rfl
theorem aw_j5 : joinF awF4 1 5 = .ok (awJ 5) := by kernel_rfl
theorem aw_j6 : joinF awF4 1 6 = .ok (awJ 6) := by kernel_rfl
theorem aw_j7 : joinF awF4 1 7 = .ok (awJ 7) := by kernel_rfl
theorem awC_S (n : Int) : CySm (awC n) := ⟨by simp [awC], (fun w hw => by cases hw), by simp [awC]⟩
theorem awSm {f : Fan} {a b : Int} {c d : Bool} {k : List Int} (h1 : f.app = [a, b]) (h2 : f.lost = [c, d]) (h3 : f.kept = k.map awC) (h4 : k.length ≤ 2) : Sm f := ⟨by rw [h3, List.length_map]; omega, by rw [h1]; simp, by rw [h2]; simp, fun c hc => by
  rw [h3] at hc
  obtain ⟨n, -, rfl⟩ := List.mem_map.1 hc
  obtain ⟨p, q, r⟩ := awC_S n
  exact ⟨p, q, r⟩⟩
theorem awS0 : Sm awF0 := awSm (k := []) rfl rfl rfl (by decide)
theorem awS1 : Sm awF1 := awSm (k := [5]) rfl rfl rfl (by decide)
theorem awS2 : Sm awF2 := awSm (k := [5, 6]) rfl rfl rfl (by decide)
theorem awS3 : Sm awF3 := awSm (k := [5, 6]) rfl rfl rfl (by decide)
theorem awS4 : Sm awF4 := awSm (k := [6, 7]) rfl rfl rfl (by decide)
theorem awSJ (n : Int) : Sm (awJ n) := awSm (k := [6, 7]) rfl rfl rfl (by decide)
theorem empty_cc' (H : Hp) (V : List Nat) (n : Int) (h : 1 ≤ n) (h2 : n ≤ 1000000) : CC Tryz.prog 34 [ci n] H V (Pu (.agg (cycC (awC n))) H V) := empty_cc H V n h h2
theorem awake_cc (H : Hp) (V : List Nat)  : CC Tryz.prog 10 [] H V (Pu (cb true) H V) := by
  refine CC.of_swp Tryz.func10 rfl (by kernel_rfl) (by rw [Tryz.ntmps10]; exact len_le _ _ rfl) fun hok hokH => ?_
  clear hok
  refine SWp.seq (Wp.s ?_)
  simp -implicitDefEqProofs [go_sem, args0]
  refine SWp.seq (Wp.s ?_)
  simp -implicitDefEqProofs [go_sem]
  refine CC.mono (New_f_cc _ _ 2 2 4) ?_
  rintro _ _ _ ⟨rfl, rfl, rfl⟩
  rw [aw_0]
  simp -implicitDefEqProofs [go_sem, dvF]
  refine SWp.seq (SWp.drawnT [] [7] (.s 0 .pl <| .s 1 .pl <| .s 2 .pl <| .s 3 .pl <| .s 4 .pl <| .s 5 .pl <| .s 6 .pl <| .s 7 .st <| .s 8 .pl <| .s 9 .pl <| .n) (by kernel_rfl) (by kernel_rfl) ?_)
  simp -implicitDefEqProofs [go_sem]
  refine CC.mono (empty_cc' _ _ 5 (by decide) (by decide)) ?_
  rintro _ _ _ ⟨rfl, rfl, rfl⟩
  simp -implicitDefEqProofs [go_sem]
  refine CC.mono (Push_cc _ _ awF0 (awC 5) awS0 (awC_S _)) ?_
  rintro _ _ _ ⟨rfl, rfl, rfl⟩
  rw [aw_1]
  simp -implicitDefEqProofs [go_sem, dvP]
  refine SWp.seq (SWp.drawnT [] [7] (.s 0 .pl <| .s 1 .pl <| .s 2 .pl <| .s 3 .pl <| .s 4 .pl <| .s 5 .pl <| .s 6 .pl <| .s 7 .st <| .s 8 .pl <| .s 9 .pl <| .n) (by kernel_rfl) (by kernel_rfl) ?_)
  simp -implicitDefEqProofs [go_sem]
  refine CC.mono (empty_cc' _ _ 6 (by decide) (by decide)) ?_
  rintro _ _ _ ⟨rfl, rfl, rfl⟩
  simp -implicitDefEqProofs [go_sem]
  refine CC.mono (Push_cc _ _ awF1 (awC 6) awS1 (awC_S _)) ?_
  rintro _ _ _ ⟨rfl, rfl, rfl⟩
  rw [aw_2]
  simp -implicitDefEqProofs [go_sem, dvP]
  refine SWp.seq (Wp.s ?_)
  simp -implicitDefEqProofs [go_sem]
  refine CC.mono (Applied_cc _ _ awF2 0 5 awS2) ?_
  rintro _ _ _ ⟨rfl, rfl, rfl⟩
  rw [aw_3]
  simp -implicitDefEqProofs [go_sem, dvF]
  refine SWp.seq (Wp.s ?_)
  simp -implicitDefEqProofs [go_sem]
  refine CC.mono (Next_cc _ _ awF3 0 awS3) ?_
  rintro _ _ _ ⟨rfl, rfl, rfl⟩
  rw [aw_4]
  simp -implicitDefEqProofs [go_sem, dvN]
  refine SWp.seq (Wp.s ?_)
  simp -implicitDefEqProofs [go_sem]
  refine CC.mono (Next_cc _ _ awF3 1 awS3) ?_
  rintro _ _ _ ⟨rfl, rfl, rfl⟩
  rw [aw_5]
  simp -implicitDefEqProofs [go_sem, dvN]
  refine SWp.seq (SWp.seq (Wp.s ?_))
  simp -implicitDefEqProofs [go_sem, show IntKind.i64.wrap 0 = 0 from by kernel_rfl]
  refine CC.mono (Oldest_cc _ _ awF3 awS3) ?_
  rintro _ _ _ ⟨rfl, rfl, rfl⟩
  rw [aw_6]
  simp -implicitDefEqProofs [go_sem, show (awC 6).number = 6 from rfl, show (awC 5).number = 5 from rfl]
  refine Wp.s ?_
  simp -implicitDefEqProofs [go_sem]
  refine SWp.seq (SWp.drawnT [] [7] (.s 0 .pl <| .s 1 .pl <| .s 2 .pl <| .s 3 .pl <| .s 4 .pl <| .s 5 .pl <| .s 6 .pl <| .s 7 .st <| .s 8 .pl <| .s 9 .pl <| .n) (by kernel_rfl) (by kernel_rfl) ?_)
  simp -implicitDefEqProofs [go_sem]
  refine CC.mono (empty_cc' _ _ 7 (by decide) (by decide)) ?_
  rintro _ _ _ ⟨rfl, rfl, rfl⟩
  simp -implicitDefEqProofs [go_sem]
  refine CC.mono (Push_cc _ _ awF3 (awC 7) awS3 (awC_S _)) ?_
  rintro _ _ _ ⟨rfl, rfl, rfl⟩
  rw [aw_7]
  simp -implicitDefEqProofs [go_sem, dvP]
  refine SWp.seq (SWp.seq (Wp.s ?_))
  simp -implicitDefEqProofs [go_sem]
  refine CC.mono (eqInt_cc _ _ .sh .ti [1] [1] (by decide)) ?_
  rintro _ _ _ ⟨rfl, rfl, rfl⟩
  simp -implicitDefEqProofs [go_sem, show awF4.kept = [awC 6, awC 7] from rfl, show (awC 6).number = 6 from rfl]
  refine CC.mono (Oldest_cc _ _ awF4 awS4) ?_
  rintro _ _ _ ⟨rfl, rfl, rfl⟩
  rw [aw_8]
  simp -implicitDefEqProofs [go_sem]
  refine Wp.s ?_
  simp -implicitDefEqProofs [go_sem]
  refine SWp.seq (Wp.s ?_)
  simp -implicitDefEqProofs [go_sem]
  refine CC.mono (Join_cc _ _ awF4 1 4 awS4) ?_
  rintro _ _ _ ⟨rfl, rfl, rfl⟩
  rw [aw_9]
  simp -implicitDefEqProofs [go_sem, dvF]
  refine SWp.join (α := Unit) (fun _ => ([(2, er 15)], H, V)) (fun _ => True) ?_ ?_
  · refine SWp.seq (Wp.s ?_)
    simp -implicitDefEqProofs [go_sem]
    refine SWp.block ?_
    refine SWp.loop (α := Nat) (fun n => ([(1, .ptr H.length 0), (2, er 15), (12, ci (5 + n : Nat))], H ++ [some (fanC awF4), some (cycC (awC 6)), some (cycC (awC 5))], V)) (fun n => n ≤ 3) (fun n => 3 - n) 0 (by omega) (Sh.forget (by simp [go_sem]) rfl rfl) ?_
    intro n hn
    dsimp only
    refine SWp.seq (SWp.seq (Wp.s ?_))
    obtain rfl | rfl | rfl | rfl : n = 0 ∨ n = 1 ∨ n = 2 ∨ n = 3 := by omega
    case inr.inr.inr =>
      simp -implicitDefEqProofs [go_sem]
      refine Wp.s ?_
      simp -implicitDefEqProofs [go_sem]
      exact Sh.back (by simp [go_sem]) rfl rfl (by simp [go_sem]) hokH (by simp) (by simp)
    all_goals
      simp -implicitDefEqProofs [go_sem]
      refine Wp.s ?_
      simp -implicitDefEqProofs [go_sem]
      refine SWp.seq (SWp.block (SWp.seq (Wp.s ?_)))
      simp -implicitDefEqProofs [go_sem]
    · refine CC.mono (Join_cc _ _ awF4 1 5 awS4) ?_
      rintro _ _ _ ⟨rfl, rfl, rfl⟩
      rw [aw_j5]
      simp -implicitDefEqProofs [go_sem, dvF]
      refine Wp.s ?_
      simp -implicitDefEqProofs [go_sem]
      refine Wp.s ?_
      simp -implicitDefEqProofs [go_sem]
      refine ⟨1, by omega, by omega, Sh.trim ?_ ?_ hokH ?_ (by simp) (by simp) (by simp)⟩
      · simp [go_sem, show IntKind.i64.wrap 6 = 6 from by kernel_rfl]
      · simp [go_sem]
      · simp [go_sem]
    · refine CC.mono (Join_cc _ _ awF4 1 6 awS4) ?_
      rintro _ _ _ ⟨rfl, rfl, rfl⟩
      rw [aw_j6]
      simp -implicitDefEqProofs [go_sem, dvF]
      refine Wp.s ?_
      simp -implicitDefEqProofs [go_sem]
      refine Wp.s ?_
      simp -implicitDefEqProofs [go_sem]
      refine ⟨2, by omega, by omega, Sh.trim ?_ ?_ hokH ?_ (by simp) (by simp) (by simp)⟩
      · simp [go_sem, show IntKind.i64.wrap 7 = 7 from by kernel_rfl]
      · simp [go_sem]
      · simp [go_sem]
    · refine CC.mono (Join_cc _ _ awF4 1 7 awS4) ?_
      rintro _ _ _ ⟨rfl, rfl, rfl⟩
      rw [aw_j7]
      simp -implicitDefEqProofs [go_sem, dvF]
      refine Wp.s ?_
      simp -implicitDefEqProofs [go_sem]
      refine Wp.s ?_
      simp -implicitDefEqProofs [go_sem]
      refine ⟨3, by omega, by omega, Sh.trim ?_ ?_ hokH ?_ (by simp) (by simp) (by simp)⟩
      · simp [go_sem, show IntKind.i64.wrap 8 = 8 from by kernel_rfl]
      · simp [go_sem]
      · simp [go_sem]
  rintro _ -
  dsimp only
  refine Wp.s ?_
  simp -implicitDefEqProofs [go_sem]
  exact Fin.bool rfl hokH (by simp) (by simp)
end Go.Proofs.YtpadnceoacbaeaaGreat
namespace Go.Proofs.YtpadnceoacbaeaaGreat
open Go.Proofs
theorem tidyF_S {f : Fan} (hs : Sm f) : Sm (tidyF f) :=
  ⟨Nat.le_trans (dropWhile_len _ _) hs.kl, hs.al, hs.ll, fun c hc => hs.kc c ((List.dropWhile_sublist _).subset hc)⟩
theorem zfan_S : Sm zfan := ⟨by decide, by decide, by decide, fun c hc => by cases hc⟩
theorem zcyc_S : CySm ⟨0, 0, 0, [], []⟩ := ⟨by decide, (fun w hw => by cases hw), by decide⟩
theorem dvF_of {x : Except Nat Fan} (h : ∀ g, x = .ok g → Sm g) : ∃ g e, dvF x = .tup [.agg (fanC g), er e] ∧ Sm g := by
  cases x with
  | error e => exact ⟨zfan, e, rfl, zfan_S⟩
  | ok g => exact ⟨g, 0, rfl, h g rfl⟩
theorem appF_S {f : Fan} (hs : Sm f) (t n : Int) : ∃ g e, dvF (appF f t n) = .tup [.agg (fanC g), er e] ∧ Sm g := dvF_of fun g hg => by
  unfold appF at hg
  repeat' split at hg
  all_goals first | cases hg; done | skip
  obtain rfl := Except.ok.inj hg
  exact tidyF_S (hs.mk' (by simp) rfl)
theorem loseF_S {f : Fan} (hs : Sm f) (t : Int) : ∃ g e, dvF (loseF f t) = .tup [.agg (fanC g), er e] ∧ Sm g := dvF_of fun g hg => by
  unfold loseF at hg
  repeat' split at hg
  all_goals first | cases hg; done | skip
  obtain rfl := Except.ok.inj hg
  exact tidyF_S (hs.mk' rfl (by simp))
theorem joinF_S {f : Fan} (hs : Sm f) (t n : Int) : ∃ g e, dvF (joinF f t n) = .tup [.agg (fanC g), er e] ∧ Sm g := dvF_of fun g hg => by
  unfold joinF at hg
  repeat' split at hg
  all_goals first | cases hg; done | skip
  obtain rfl := Except.ok.inj hg
  exact hs.mk' (by simp) (by simp)
theorem nextF_S {f : Fan} (hs : Sm f) (t : Int) : ∃ c b, dvN (nextF f t) = .tup [.agg (cycC c), cb b] ∧ CySm c := by
  cases h : nextF f t with
  | none => exact ⟨_, _, rfl, zcyc_S⟩
  | some c =>
    refine ⟨c, true, rfl, ?_⟩
    unfold nextF at h
    split at h
    · cases h
    · obtain ⟨i, hi, rfl⟩ := List.getElem_of_mem (List.mem_of_find?_eq_some h)
      exact hs.cy hi
theorem snoc_S {f : Fan} {c : Cyc} (hs : Sm f) (hc : CySm c) (h : chkF f = 0) : Sm ⟨f.limit, f.kept ++ [c], f.app, f.lost⟩ := ⟨by
    show (f.kept ++ [c]).length ≤ 1000000
    have := (chkF_lens h).2.2.2.2.2
    rw [List.length_append, List.length_singleton]; omega, hs.al, hs.ll, fun d hd => by
    rcases List.mem_append.1 hd with hd | hd
    · exact hs.kc d hd
    · rw [List.mem_singleton] at hd; subst hd; exact ⟨hc.wl, hc.ws, hc.pl⟩⟩
theorem pushF_S {f : Fan} {c : Cyc} (hs : Sm f) (hc : CySm c) : ∃ (g : Fan) (l : List Int) (e : Nat), dvP (pushF f c) = .tup [.agg (fanC g), .sl .sh 1 (l.map ic), er e] ∧ Sm g ∧ l.length ≤ 1000000 := by
  cases h : pushF f c with
  | error e => exact ⟨zfan, [], e, rfl, zfan_S, by decide⟩
  | ok p =>
    obtain ⟨g, l⟩ := p
    refine ⟨g, l, 0, rfl, ?_⟩
    unfold pushF at h
    split at h
    · cases h
    · rename_i h0
      have h0 : chkF f = 0 := by simpa using h0
      repeat' split at h
      all_goals first | cases h; done | skip
      have h := Except.ok.inj h
      unfold evict at h
      split at h
      · obtain ⟨rfl, rfl⟩ := Prod.mk.inj h
        exact ⟨tidyF_S ((snoc_S hs hc h0).mk' rfl (by simp)), Nat.le_trans (lostU_le _ _ _ _) hs.al⟩
      · obtain ⟨rfl, rfl⟩ := Prod.mk.inj h
        exact ⟨snoc_S hs hc h0, by decide⟩
theorem Pushes_cc (H : Hp) (V : List Nat) (f : Fan) (c : Cyc) (t : Int) : CC Tryz.prog 3 [.agg (fanC f), .agg (cycC c), ci t] H V (Pu (cb true) H V) := by
  refine CC.of_swp Tryz.func3 rfl (by kernel_rfl) (by rw [Tryz.ntmps3]; exact len_le _ _ rfl) fun hok hokH => ?_
  clear hok
  refine SWp.seq (Wp.s ?_)
  simp -implicitDefEqProofs [go_sem, args0]
  refine SWp.seq (SWp.seq (Wp.s ?_))
  simp -implicitDefEqProofs [go_sem]
  refine CC.mono (few42_cc _ _ f) ?_
  rintro _ _ _ ⟨rfl, rfl, rfl⟩
  cases hf : few42 f with
  | false =>
    simp -implicitDefEqProofs [go_sem]
    refine Wp.s ?_
    simp -implicitDefEqProofs [go_sem]
    refine CC.mono (awake_cc _ _) ?_
    rintro _ _ _ ⟨rfl, rfl, rfl⟩
    simp -implicitDefEqProofs [go_sem]
    exact Fin.bool rfl hokH (by simp) (by simp)
  | true =>
  simp -implicitDefEqProofs [go_sem]
  refine CC.mono (few23_cc _ _ c) ?_
  rintro _ _ _ ⟨rfl, rfl, rfl⟩
  cases hcf : few23 c with
  | false =>
    simp -implicitDefEqProofs [go_sem]
    refine Wp.s ?_
    simp -implicitDefEqProofs [go_sem]
    refine CC.mono (awake_cc _ _) ?_
    rintro _ _ _ ⟨rfl, rfl, rfl⟩
    simp -implicitDefEqProofs [go_sem]
    exact Fin.bool rfl hokH (by simp) (by simp)
  | true =>
  simp -implicitDefEqProofs [go_sem]
  refine Wp.s ?_
  simp -implicitDefEqProofs [go_sem]
  have hs := few42_S hf
  have hc := few23_S hcf
  obtain ⟨g, l, e, eP, gS, gL⟩ := pushF_S hs hc
  obtain ⟨d, b, eN, dS⟩ := nextF_S hs t
  refine SWp.seq (Wp.s ?_)
  simp -implicitDefEqProofs [go_sem]
  refine CC.mono (Push_cc _ _ f c hs hc) ?_
  rintro _ _ _ ⟨rfl, rfl, rfl⟩
  rw [eP]
  simp -implicitDefEqProofs [go_sem]
  refine SWp.seq (Wp.s ?_)
  simp -implicitDefEqProofs [go_sem]
  refine CC.mono (refPush_cc _ _ f c hs hc) ?_
  rintro _ _ _ ⟨rfl, rfl, rfl⟩
  rw [eP]
  simp -implicitDefEqProofs [go_sem]
  refine SWp.seq (Wp.s ?_)
  simp -implicitDefEqProofs [go_sem]
  refine CC.mono (Next_cc _ _ f t hs) ?_
  rintro _ _ _ ⟨rfl, rfl, rfl⟩
  rw [eN]
  simp -implicitDefEqProofs [go_sem]
  refine SWp.seq (Wp.s ?_)
  simp -implicitDefEqProofs [go_sem]
  refine CC.mono (refNext_cc _ _ f t hs) ?_
  rintro _ _ _ ⟨rfl, rfl, rfl⟩
  rw [eN]
  simp -implicitDefEqProofs [go_sem]
  refine SWp.seq (Wp.s ?_)
  simp -implicitDefEqProofs [go_sem]
  refine CC.mono (SameFan_cc _ _ g g gS) ?_
  rintro _ _ _ ⟨rfl, rfl, rfl⟩
  simp -implicitDefEqProofs [go_sem]
  refine CC.mono (eqInt_cc _ _ .sh .sh l l (by omega)) ?_
  rintro _ _ _ ⟨rfl, rfl, rfl⟩
  simp -implicitDefEqProofs [go_sem]
  refine CC.mono (SameCyc_cc _ _ d d (by have := dS.pl; omega) (by have := dS.wl; omega) dS.ws) ?_
  rintro _ _ _ ⟨rfl, rfl, rfl⟩
  simp -implicitDefEqProofs [go_sem]
  refine CC.mono (awake_cc _ _) ?_
  rintro _ _ _ ⟨rfl, rfl, rfl⟩
  simp -implicitDefEqProofs [go_sem]
  refine Wp.s ?_
  simp -implicitDefEqProofs [go_sem]
  exact Fin.bool rfl hokH (by simp) (by simp)
theorem Reports_cc (H : Hp) (V : List Nat) (f : Fan) (t n : Int) : CC Tryz.prog 4 [.agg (fanC f), ci t, ci n] H V (Pu (cb true) H V) := by
  refine CC.of_swp Tryz.func4 rfl (by kernel_rfl) (by rw [Tryz.ntmps4]; exact len_le _ _ rfl) fun hok hokH => ?_
  clear hok
  refine SWp.seq (Wp.s ?_)
  simp -implicitDefEqProofs [go_sem, args0]
  refine SWp.seq (SWp.seq (Wp.s ?_))
  simp -implicitDefEqProofs [go_sem]
  refine CC.mono (few42_cc _ _ f) ?_
  rintro _ _ _ ⟨rfl, rfl, rfl⟩
  cases hf : few42 f with
  | false =>
    simp -implicitDefEqProofs [go_sem]
    refine Wp.s ?_
    simp -implicitDefEqProofs [go_sem]
    refine CC.mono (awake_cc _ _) ?_
    rintro _ _ _ ⟨rfl, rfl, rfl⟩
    simp -implicitDefEqProofs [go_sem]
    exact Fin.bool rfl hokH (by simp) (by simp)
  | true =>
  simp -implicitDefEqProofs [go_sem]
  refine Wp.s ?_
  simp -implicitDefEqProofs [go_sem]
  have hs := few42_S hf
  obtain ⟨g1, x1, e1, s1⟩ := appF_S hs t n
  obtain ⟨g2, x2, e2, s2⟩ := loseF_S hs t
  obtain ⟨g3, x3, e3, s3⟩ := joinF_S hs t n
  refine SWp.seq (Wp.s ?_)
  simp -implicitDefEqProofs [go_sem]
  refine CC.mono (Applied_cc _ _ f t n hs) ?_
  rintro _ _ _ ⟨rfl, rfl, rfl⟩
  rw [e1]
  simp -implicitDefEqProofs [go_sem]
  refine SWp.seq (Wp.s ?_)
  simp -implicitDefEqProofs [go_sem]
  refine CC.mono (refApplied_cc _ _ f t n hs) ?_
  rintro _ _ _ ⟨rfl, rfl, rfl⟩
  rw [e1]
  simp -implicitDefEqProofs [go_sem]
  refine SWp.seq (Wp.s ?_)
  simp -implicitDefEqProofs [go_sem]
  refine CC.mono (Lose_cc _ _ f t hs) ?_
  rintro _ _ _ ⟨rfl, rfl, rfl⟩
  rw [e2]
  simp -implicitDefEqProofs [go_sem]
  refine SWp.seq (Wp.s ?_)
  simp -implicitDefEqProofs [go_sem]
  refine CC.mono (refLose_cc _ _ f t hs) ?_
  rintro _ _ _ ⟨rfl, rfl, rfl⟩
  rw [e2]
  simp -implicitDefEqProofs [go_sem]
  refine SWp.seq (Wp.s ?_)
  simp -implicitDefEqProofs [go_sem]
  refine CC.mono (Join_cc _ _ f t n hs) ?_
  rintro _ _ _ ⟨rfl, rfl, rfl⟩
  rw [e3]
  simp -implicitDefEqProofs [go_sem]
  refine SWp.seq (Wp.s ?_)
  simp -implicitDefEqProofs [go_sem]
  refine CC.mono (refJoin_cc _ _ f t n hs) ?_
  rintro _ _ _ ⟨rfl, rfl, rfl⟩
  rw [e3]
  simp -implicitDefEqProofs [go_sem]
  refine SWp.seq (Wp.s ?_)
  simp -implicitDefEqProofs [go_sem]
  refine CC.mono (SameFan_cc _ _ g1 g1 s1) ?_
  rintro _ _ _ ⟨rfl, rfl, rfl⟩
  simp -implicitDefEqProofs [go_sem]
  refine CC.mono (SameFan_cc _ _ g2 g2 s2) ?_
  rintro _ _ _ ⟨rfl, rfl, rfl⟩
  simp -implicitDefEqProofs [go_sem]
  refine CC.mono (SameFan_cc _ _ g3 g3 s3) ?_
  rintro _ _ _ ⟨rfl, rfl, rfl⟩
  simp -implicitDefEqProofs [go_sem]
  refine CC.mono (awake_cc _ _) ?_
  rintro _ _ _ ⟨rfl, rfl, rfl⟩
  simp -implicitDefEqProofs [go_sem]
  refine Wp.s ?_
  simp -implicitDefEqProofs [go_sem]
  exact Fin.bool rfl hokH (by simp) (by simp)
end Go.Proofs.YtpadnceoacbaeaaGreat
namespace Go.Proofs.YtpadnceoacbaeaaGreat
open Go.Proofs
theorem eqSec_cc (H : Hp) (V : List Nat) (t1 t2 : Tk) (x y : List Sec) (hl : x.length ≤ 1000000000) : CC Tryz.prog 68 [.sl t1 8 (x.map secC), .sl t2 8 (y.map secC)] H V (Pu (.v (.bool (decide (x = y)))) H V) := by
  refine CC.of_swp Tryz.func68 rfl (by kernel_rfl) (by rw [Tryz.ntmps68]; exact len_le _ _ rfl) fun hok hokH => ?_
  clear hok
  refine SWp.seq (Wp.s ?_)
  simp -implicitDefEqProofs [go_sem, args0]
  refine SWp.seq (SWp.seq (Wp.s ?_))
  by_cases hlen : x.length = y.length
  case neg =>
    have hlen' : ¬ (x.length : Int) = (y.length : Int) := by omega
    simp -implicitDefEqProofs [go_sem, hlen']
    refine Wp.s ?_
    simp -implicitDefEqProofs [go_sem, hlen, hlen']
    exact Fin.bool (by simp [show x ≠ y from fun e => hlen (by rw [e])]) hokH (by simp) (by simp)
  simp -implicitDefEqProofs [go_sem, hlen]
  refine Wp.s ?_
  simp -implicitDefEqProofs [go_sem, hlen]
  refine SWp.join (α := Unit) (fun _ => ([], H, V)) (fun _ => x = y) ?_ ?_
  · refine SWp.seq (Wp.s ?_)
    simp -implicitDefEqProofs [go_sem]
    refine SWp.block ?_
    refine SWp.loop (α := Nat) (fun i => ([(0, .sl t1 8 (x.map secC)), (1, .sl t2 8 (y.map secC)), (12, ci x.length), (13, ci i)], H, V)) (fun i => i ≤ x.length ∧ x.take i = y.take i) (fun i => x.length - i) 0 ⟨Nat.zero_le _, rfl⟩ (Sh.forget (by simp [go_sem, hlen]) rfl rfl) ?_
    rintro i ⟨hi, hp⟩
    dsimp only
    refine SWp.seq (Wp.s ?_)
    simp -implicitDefEqProofs [go_sem]
    refine SWp.seq (Wp.s ?_)
    simp -implicitDefEqProofs [go_sem]
    refine ⟨fun h => ?_, fun h => ⟨eq_of_take hlen h hp, Sh.forget (by simp [go_sem]) rfl rfl⟩⟩
    have h2 : i < y.length := by omega
    refine SWp.seq (SWp.block (SWp.seq (Wp.s ?_)))
    simp -implicitDefEqProofs [go_sem]
    refine SWp.seq (SWp.drawnT [] [] (.s 0 .pl <| .s 1 .pl <| .s 2 .pl <| .s 3 .pl <| .s 4 .pl <| .s 5 .pl <| .s 6 .pl <| .s 7 .pl <| .s 8 .pl <| .n) (by kernel_rfl) (by kernel_rfl) ?_)
    simp -implicitDefEqProofs [go_sem, h, h2]
    refine ⟨_, flatSec, fits_sec _, fits_sec _, fun he => ?_, fun he => ?_⟩
    · refine Wp.s ?_
      simp -implicitDefEqProofs [go_sem]
      exact Fin.bool (by simp [ne_at h h2 (fun e => he (by rw [e]))]) hokH (by simp) (by simp)
    · refine Wp.s ?_
      simp -implicitDefEqProofs [go_sem]
      refine Wp.s ?_
      simp -implicitDefEqProofs [go_sem]
      refine ⟨i + 1, ⟨by omega, take_eq_succ h h2 hp (secC_inj he)⟩, by omega, Sh.forget ?_ rfl rfl⟩
      simp [go_sem, wrap_succ (show i ≤ 1000000000 by omega)]
  · rintro _ he
    dsimp only
    refine Wp.s ?_
    simp -implicitDefEqProofs [go_sem]
    exact Fin.bool (by simp [he]) hokH (by simp) (by simp)
theorem eqImg_cc (H : Hp) (V : List Nat) (t1 t2 : Tk) (x y : Img) (hl : x.length ≤ 1000000000) (hs : ∀ v ∈ x, v.length ≤ 1000000000) : CC Tryz.prog 67 [.sl t1 1 (x.map imE), .sl t2 1 (y.map imE), .fn 68 []] H V (Pu (.v (.bool (decide (x = y)))) H V) := by
  refine CC.of_swp Tryz.func67 rfl (by kernel_rfl) (by rw [Tryz.ntmps67]; exact len_le _ _ rfl) fun hok hokH => ?_
  clear hok
  refine SWp.seq (Wp.s ?_)
  simp -implicitDefEqProofs [go_sem, args0]
  refine SWp.seq (SWp.seq (Wp.s ?_))
  by_cases hlen : x.length = y.length
  case neg =>
    have hlen' : ¬ (x.length : Int) = (y.length : Int) := by omega
    simp -implicitDefEqProofs [go_sem, hlen']
    refine Wp.s ?_
    simp -implicitDefEqProofs [go_sem, hlen, hlen']
    exact Fin.bool (by simp [show x ≠ y from fun e => hlen (by rw [e])]) hokH (by simp) (by simp)
  simp -implicitDefEqProofs [go_sem, hlen]
  refine Wp.s ?_
  simp -implicitDefEqProofs [go_sem, hlen]
  refine SWp.join (α := Unit) (fun _ => ([], H, V)) (fun _ => x = y) ?_ ?_
  · refine SWp.seq (Wp.s ?_)
    simp -implicitDefEqProofs [go_sem]
    refine SWp.block ?_
    refine SWp.loop (α := Nat) (fun i => ([(1, .sl t2 1 (y.map imE)), (2, .fn 68 []), (15, .sl t1 1 (x.map imE)), (16, ci x.length), (17, ci i)], H, V)) (fun i => i ≤ x.length ∧ x.take i = y.take i) (fun i => x.length - i) 0 ⟨Nat.zero_le _, rfl⟩ (Sh.forget (by simp [go_sem, hlen]) rfl rfl) ?_
    rintro i ⟨hi, hp⟩
    dsimp only
    refine SWp.seq (Wp.s ?_)
    simp -implicitDefEqProofs [go_sem]
    refine SWp.seq (Wp.s ?_)
    simp -implicitDefEqProofs [go_sem]
    refine ⟨fun h => ?_, fun h => ⟨eq_of_take hlen h hp, Sh.forget (by simp [go_sem]) rfl rfl⟩⟩
    have h2 : i < y.length := by omega
    refine SWp.seq (SWp.block (SWp.seq (Wp.s ?_)))
    simp -implicitDefEqProofs [go_sem, h]
    refine SWp.seq (Wp.s ?_)
    simp -implicitDefEqProofs [go_sem, h2]
    refine SWp.seq (Wp.s ?_)
    simp -implicitDefEqProofs [go_sem]
    refine CC.mono (eqSec_cc _ _ .sh .sh x[i] y[i] (hs _ (List.getElem_mem h))) ?_
    rintro _ _ _ ⟨rfl, rfl, rfl⟩
    by_cases he : x[i] = y[i]
    · simp -implicitDefEqProofs [go_sem, he]
      refine Wp.s ?_
      simp -implicitDefEqProofs [go_sem]
      refine Wp.s ?_
      simp -implicitDefEqProofs [go_sem]
      refine ⟨i + 1, ⟨by omega, take_eq_succ h h2 hp he⟩, by omega, Sh.forget ?_ rfl rfl⟩
      simp [go_sem, wrap_succ (show i ≤ 1000000000 by omega)]
    · simp -implicitDefEqProofs [go_sem, he]
      refine Wp.s ?_
      simp -implicitDefEqProofs [go_sem]
      exact Fin.bool (by simp [ne_at h h2 he]) hokH (by simp) (by simp)
  · rintro _ he
    dsimp only
    refine Wp.s ?_
    simp -implicitDefEqProofs [go_sem]
    exact Fin.bool (by simp [he]) hokH (by simp) (by simp)
theorem imSame_cc (H : Hp) (V : List Nat) (t1 t2 : Tk) (x y : Img) (hl : x.length ≤ 1000000000) (hs : ∀ v ∈ x, v.length ≤ 1000000000) : CC Tryz.prog 29 [.sl t1 1 (x.map imE), .sl t2 1 (y.map imE)] H V (Pu (.v (.bool (decide (x = y)))) H V) := by
  refine CC.of_swp Tryz.func29 rfl (by kernel_rfl) (by rw [Tryz.ntmps29]; exact len_le _ _ rfl) fun hok hokH => ?_
  clear hok
  refine SWp.seq (Wp.s ?_)
  simp -implicitDefEqProofs [go_sem, args0]
  refine SWp.seq (Wp.s ?_)
  simp -implicitDefEqProofs [go_sem]
  refine CC.mono (eqImg_cc _ _ t1 t2 x y hl hs) ?_
  rintro _ _ _ ⟨rfl, rfl, rfl⟩
  simp -implicitDefEqProofs [go_sem]
  refine Wp.s ?_
  simp -implicitDefEqProofs [go_sem]
  exact Fin.bool rfl hokH (by simp) (by simp)
def few07 (l : Img) : Bool := decide (l.length ≤ 9) && decide (∀ v ∈ l, v.length ≤ 24)
theorem few07_cc (H : Hp) (V : List Nat) (tk : Tk) (l : Img) : CC Tryz.prog 60 [.sl tk 1 (l.map imE)] H V (Pu (.v (.bool (few07 l))) H V) := by
  refine CC.of_swp Tryz.func60 rfl (by kernel_rfl) (by rw [Tryz.ntmps60]; exact len_le _ _ rfl) fun hok hokH => ?_
  clear hok
  refine SWp.seq (Wp.s ?_)
  simp -implicitDefEqProofs [go_sem, args0]
  refine SWp.seq (SWp.seq (Wp.s ?_))
  by_cases h9 : 9 < l.length
  · have h9' : 9 < (l.length : Int) := by omega
    simp -implicitDefEqProofs [go_sem, h9']
    refine Wp.s ?_
    simp -implicitDefEqProofs [go_sem]
    exact Fin.bool (by rw [few07, decide_eq_false (by omega)]; rfl) hokH (by simp) (by simp)
  have h9' : ¬ 9 < (l.length : Int) := by omega
  simp -implicitDefEqProofs [go_sem, h9']
  refine Wp.s ?_
  simp -implicitDefEqProofs [go_sem]
  refine SWp.join (α := Unit) (fun _ => ([], H, V)) (fun _ => ∀ v ∈ l, v.length ≤ 24) ?_ ?_
  · refine SWp.seq (Wp.s ?_)
    simp -implicitDefEqProofs [go_sem]
    refine SWp.block ?_
    refine SWp.loop (α := Nat) (fun i => ([(0, .sl tk 1 (l.map imE)), (3, ci i)], H, V)) (fun i => i ≤ l.length ∧ ∀ v ∈ l.take i, v.length ≤ 24) (fun i => l.length - i) 0 ⟨Nat.zero_le _, by simp⟩ (Sh.forget (by simp [go_sem]) rfl rfl) ?_
    rintro i ⟨hi, hp⟩
    dsimp only
    refine SWp.seq (SWp.seq (Wp.s ?_))
    simp -implicitDefEqProofs [go_sem]
    refine Wp.s ?_
    simp -implicitDefEqProofs [go_sem]
    refine ⟨fun h => ?_, fun h => ⟨by rwa [List.take_of_length_le h] at hp, Sh.forget (by simp [go_sem]) rfl rfl⟩⟩
    refine SWp.seq (SWp.block (SWp.seq (Wp.s ?_)))
    by_cases he : 24 < l[i].length
    · have he' : 24 < (l[i].length : Int) := by omega
      simp -implicitDefEqProofs [go_sem, h, he']
      refine Wp.s ?_
      simp -implicitDefEqProofs [go_sem]
      exact Fin.bool (by rw [few07, decide_eq_false (p := ∀ v ∈ l, v.length ≤ 24) (fun q => by have := q _ (List.getElem_mem h); omega), Bool.and_false]) hokH (by simp) (by simp)
    · have he' : ¬ 24 < (l[i].length : Int) := by omega
      simp -implicitDefEqProofs [go_sem, h, he']
      refine Wp.s ?_
      simp -implicitDefEqProofs [go_sem]
      refine Wp.s ?_
      simp -implicitDefEqProofs [go_sem]
      refine ⟨i + 1, ⟨by omega, fun v hv => ?_⟩, by omega, Sh.forget ?_ rfl rfl⟩
      · rw [List.take_succ_eq_append_getElem h, List.mem_append, List.mem_singleton] at hv
        rcases hv with hv | rfl
        · exact hp v hv
        · omega
      · simp [go_sem, wrap_succ (show i ≤ 1000000000 by omega)]
  · rintro _ he
    dsimp only
    refine Wp.s ?_
    simp -implicitDefEqProofs [go_sem]
    exact Fin.bool (by rw [few07, decide_eq_true (by omega), decide_eq_true he]; rfl) hokH (by simp) (by simp)
end Go.Proofs.YtpadnceoacbaeaaGreat
namespace Go.Proofs.YtpadnceoacbaeaaGreat
open Go.Proofs
/-! ### Images whose volumes are boxes -/
def bxs : Nat → Img → List (List CV)
  | _, [] => []
  | n, v :: l => [.bsl n 0 v.length 8] :: bxs (n + 1) l
@[go_sem, simp] theorem bxs_len : ∀ (n : Nat) (l : Img), (bxs n l).length = l.length
  | _, [] => rfl
  | n, v :: l => by rw [bxs, List.length_cons, List.length_cons, bxs_len (n + 1) l]
@[go_sem, simp] theorem bxs_get : ∀ (n : Nat) (l : Img) (i : Nat) (h : i < (bxs n l).length), (bxs n l)[i] = [.bsl (n + i) 0 (l[i]'(by simpa using h)).length 8]
  | n, v :: l, 0, h => rfl
  | n, v :: l, i + 1, h => by
    have hi : i < (bxs (n + 1) l).length := by rw [bxs_len]; have := h; rw [bxs_len, List.length_cons] at this; omega
    have := bxs_get (n + 1) l i hi
    show (bxs (n + 1) l)[i]'hi = _
    rw [this, show n + 1 + i = n + (i + 1) by omega]
    rfl
  | n, [], i, h => absurd h (Nat.not_lt_zero _)
theorem bxs_snoc : ∀ (n : Nat) (l : Img) (v : List Sec), bxs n (l ++ [v]) = bxs n l ++ [[.bsl (n + l.length) 0 v.length 8]]
  | n, [], v => rfl
  | n, u :: l, v => by
    rw [List.cons_append, bxs, bxs, bxs_snoc (n + 1) l v, List.cons_append, List.length_cons, show n + 1 + l.length = n + (l.length + 1) by omega]
theorem bxs_eq : ∀ (n : Nat) {l k : Img}, l.map List.length = k.map List.length → bxs n l = bxs n k
  | _, [], [], _ => rfl
  | n, u :: l, v :: k, h => by
    rw [List.map_cons, List.map_cons, List.cons.injEq] at h
    rw [bxs, bxs, h.1, bxs_eq (n + 1) h.2]
  | _, [], _ :: _, h => by cases h
  | _, _ :: _, [], h => by cases h
def imH (l : Img) : Hp := l.map fun v => some (secsF v)
@[go_sem, simp] theorem imH_len (l : Img) : (imH l).length = l.length := List.length_map ..
theorem okE_bxs (jb jv : Nat) : ∀ (n : Nat) (l : Img), n + l.length ≤ jb → okE jb jv (bxs n l)
  | _, [], _ => trivial
  | n, v :: l, h => by
    rw [List.length_cons] at h
    rw [bxs, okE]
    exact ⟨⟨by rw [okV]; omega, trivial⟩, okE_bxs jb jv (n + 1) l (by omega)⟩
theorem cloneSecB_cc (H : Hp) (V : List Nat) (tk : Tk) (l : List Sec) (h0 : l ≠ []) (hx : l.length ≤ 1000000000) : CC Tryz.prog 79 [.sl tk 8 (l.map secC)] H V (fun r H' V' => r = .bsl H.length 0 l.length 8 ∧ H' = H ++ [some (secsF l)] ∧ V = V') := by
  refine CC.of_swp Tryz.func79 rfl (by kernel_rfl) (by rw [Tryz.ntmps79]; exact len_le _ _ rfl) fun hok hokH => ?_
  clear hok
  have hne : l.map secC ≠ [] := by simpa using h0
  refine SWp.seq (Wp.s ?_)
  simp -implicitDefEqProofs [go_sem, args0]
  refine SWp.seq (SWp.seq (Wp.s ?_))
  simp -implicitDefEqProofs [go_sem, h0]
  refine Wp.s ?_
  simp -implicitDefEqProofs [go_sem, h0]
  refine SWp.seq (SWp.opx (pre := [_, _]) (post := [_]) rfl (by intro c e; cases e) ?_)
  simp -implicitDefEqProofs [go_sem]
  refine ⟨_, _, _, appbox (sz := 8) (tk := tk) (ys := l.map secC) slTy95 slTy95 rfl rfl hne (by rw [List.length_map]; omega), ?_⟩
  simp -implicitDefEqProofs [go_sem]
  refine Wp.s ?_
  simp -implicitDefEqProofs [go_sem]
  rw [show (List.map secC l).flatten = secsF l from rfl]
  refine Fin.cut (H.length + 1) V.length ⟨rfl, rfl, rfl⟩ (Nat.le_succ _) (Nat.le_refl _) (List.take_of_length_le (by simp)) (List.take_of_length_le (Nat.le_refl _)) (.bsa _ _ _) (by simp [go_sem]) ?_
  intro b cs hb
  rw [List.getElem?_append] at hb
  split at hb
  · exact okL_mono (Nat.le_succ _) (Nat.le_refl _) (hokH b cs hb)
  · exact okH_get (i := H.length + 1) (j := V.length) (L := [some (secsF l)]) (by simp [go_sem]) _ _ hb
theorem mapCl_cc (H : Hp) (V : List Nat) (tk : Tk) (l : Img) (hl : l.length ≤ 1000000) (hn : ∀ v ∈ l, v ≠ [] ∧ v.length ≤ 1000000) : CC Tryz.prog 139 [.sl tk 1 (l.map imE), .fn 79 []] H V (fun r H' V' => r = .sl (.own V.length l.length) 1 (bxs H.length l) ∧ H' = H ++ imH l ∧ V' = V ++ [l.length]) := by
  refine CC.of_swp Tryz.func139 rfl (by kernel_rfl) (by rw [Tryz.ntmps139]; exact len_le _ _ rfl) fun hok hokH => ?_
  clear hok
  refine SWp.seq (Wp.s ?_)
  simp -implicitDefEqProofs [go_sem, args0]
  refine SWp.seq (Wp.s ?_)
  simp -implicitDefEqProofs [go_sem]
  refine ⟨by omega, ?_⟩
  refine SWp.join (α := Unit) (fun _ => ([(5, .sl (.own V.length l.length) 1 (bxs H.length l))], H ++ imH l, V ++ [l.length])) (fun _ => True) ?_ ?_
  · refine SWp.seq (Wp.s ?_)
    simp -implicitDefEqProofs [go_sem]
    refine SWp.block ?_
    refine SWp.loop (α := Nat) (fun i => ([(1, .fn 79 []), (5, .sl (.own V.length i) 1 (bxs H.length (l.take i))), (11, .sl tk 1 (l.map imE)), (12, ci l.length), (13, ci i)], H ++ imH (l.take i), V ++ [i])) (fun i => i ≤ l.length) (fun i => l.length - i) 0 (Nat.zero_le _) (Sh.forget (by simp [go_sem, bxs]) (by simp [imH]) rfl) ?_
    intro i hi
    dsimp only
    refine Wp.s ?_
    simp -implicitDefEqProofs [go_sem]
    refine ⟨fun h => ⟨h, ?_⟩, fun h => Sh.forget (by simp [go_sem]; rw [List.take_of_length_le h]; exact .of_eq (by rw [show i = l.length by omega])) (by rw [List.take_of_length_le h]) (by rw [show i = l.length by omega])⟩
    obtain ⟨n1, n2⟩ := hn l[i] (List.getElem_mem h)
    refine CC.mono (cloneSecB_cc _ _ .sh l[i] n1 (by omega)) ?_
    rintro _ _ _ ⟨rfl, rfl, rfl⟩
    simp -implicitDefEqProofs [go_sem]
    refine ⟨by omega, i + 1, by omega, by omega, Sh.forget ?_ ?_ rfl⟩
    · rw [List.take_succ_eq_append_getElem h, bxs_snoc, List.length_take, Nat.min_eq_left (by omega)]
      simp [go_sem, wrap_succ (show i ≤ 1000000000 by omega), Nat.min_eq_left hi]
    · rw [List.take_succ_eq_append_getElem h, imH, imH, List.map_append]
      rfl
  · rintro _ -
    dsimp only
    refine Wp.s ?_
    simp -implicitDefEqProofs [go_sem]
    refine Fin.cut (H.length + l.length) (V.length + 1) ⟨rfl, rfl, rfl⟩ (by omega) (by omega) (List.take_of_length_le (by simp)) (List.take_of_length_le (by simp)) (.refl _) ?_ ?_
    · rw [okV]
      exact ⟨Nat.lt_succ_self _, okE_bxs _ _ _ _ (Nat.le_refl _)⟩
    intro b cs hb
    rw [List.getElem?_append] at hb
    split at hb
    · exact okL_mono (by omega) (Nat.le_succ _) (hokH b cs hb)
    · obtain ⟨v, -, hv⟩ := List.mem_map.1 (List.mem_of_getElem? hb)
      obtain rfl := Option.some.inj hv
      rw [okL_secsF]; trivial
theorem imCopied_cc (H : Hp) (V : List Nat) (tk : Tk) (l : Img) (hl : l.length ≤ 1000000) (hn : ∀ v ∈ l, v ≠ [] ∧ v.length ≤ 1000000) : CC Tryz.prog 124 [.sl tk 1 (l.map imE)] H V (fun r H' V' => r = .sl (.own V.length l.length) 1 (bxs H.length l) ∧ H' = H ++ imH l ∧ V' = V ++ [l.length]) := by
  refine CC.of_swp Tryz.func124 rfl (by kernel_rfl) (by rw [Tryz.ntmps124]; exact len_le _ _ rfl) fun hok hokH => ?_
  clear hok
  refine SWp.seq (Wp.s ?_)
  simp -implicitDefEqProofs [go_sem, args0]
  refine SWp.seq (Wp.s ?_)
  simp -implicitDefEqProofs [go_sem]
  refine CC.mono (mapCl_cc _ _ tk l hl hn) ?_
  rintro _ _ _ ⟨rfl, rfl, rfl⟩
  simp -implicitDefEqProofs [go_sem]
  refine Wp.s ?_
  simp -implicitDefEqProofs [go_sem]
  refine Fin.cut (H.length + l.length) (V.length + 1) ⟨rfl, rfl, rfl⟩ (by omega) (by omega) (List.take_of_length_le (by simp)) (List.take_of_length_le (by simp)) (.refl _) ?_ ?_
  · rw [okV]
    exact ⟨Nat.lt_succ_self _, okE_bxs _ _ _ _ (Nat.le_refl _)⟩
  intro b cs hb
  rw [List.getElem?_append] at hb
  split at hb
  · exact okL_mono (by omega) (Nat.le_succ _) (hokH b cs hb)
  · obtain ⟨v, -, hv⟩ := List.mem_map.1 (List.mem_of_getElem? hb)
    obtain rfl := Option.some.inj hv
    rw [okL_secsF]; trivial
theorem fitsB_cc (H : Hp) (V : List Nat) (tk : Tk) (b : Nat) (l : Img) (w : Wr) (hl : l.length ≤ 1000000000) (hs : ∀ v ∈ l, v.length ≤ 1000000000) (hw : w.data.length ≤ 1000000000) (hb : b + l.length ≤ H.length) : CC Tryz.prog 125 [.sl tk 1 (bxs b l), .agg (wrC w)] H V (Pu (er (fitsS (imgSz l) w)) H V) := by
  refine CC.of_swp Tryz.func125 rfl (by kernel_rfl) (by rw [Tryz.ntmps125]; exact len_le _ _ rfl) fun hok hokH => ?_
  clear hok
  refine SWp.seq (Wp.s ?_)
  simp -implicitDefEqProofs [go_sem, args0]
  refine SWp.seq (SWp.block (SWp.seq (Wp.s ?_)))
  by_cases h1 : w.volume < 0
  · simp -implicitDefEqProofs [go_sem, h1]
    refine Wp.s ?_
    simp -implicitDefEqProofs [go_sem]
    exact Fin.er (by rw [fitsS, if_pos (.inl h1)]) hokH (by simp) (by simp)
  by_cases h2 : (l.length : Int) ≤ w.volume
  · simp -implicitDefEqProofs [go_sem, h1, h2]
    refine Wp.s ?_
    simp -implicitDefEqProofs [go_sem]
    exact Fin.er (by rw [fitsS, if_pos (.inr (by simpa using h2))]) hokH (by simp) (by simp)
  simp -implicitDefEqProofs [go_sem, h1, h2]
  refine Wp.s ?_
  obtain ⟨n, hn⟩ := Int.eq_ofNat_of_zero_le (Int.not_lt.1 h1)
  have hnl : n < l.length := by omega
  have hvl := hs l[n] (List.getElem_mem hnl)
  by_cases h3 : w.data.length = 0
  · simp -implicitDefEqProofs [go_sem, h1, h2, h3]
    exact Fin.er (by rw [fitsS, if_neg (by simp; omega), if_pos h3]) hokH (by simp) (by simp)
  simp -implicitDefEqProofs [go_sem, h1, h2, h3]
  refine SWp.drawnT [] [] (.s 0 .pl <| .s 1 .pl <| .s 2 .pl <| .s 3 .pl <| .s 4 .pl <| .s 5 .pl <| .s 6 .pl <| .s 7 .pl <| .s 8 .pl <| .s 9 .pl <| .s 10 .pl <| .s 11 .pl <| .s 12 .pl <| .s 13 .pl <| .s 14 .pl <| .s 15 .pl <| .s 16 .pl <| .s 17 .pl <| .s 18 .pl <| .n) (by kernel_rfl) (by kernel_rfl) ?_
  have hg : (imgSz l).getD w.volume.toNat 0 = (l[n].length : Int) := by rw [hn]; exact imgSz_getD l n hnl
  have hwr : IntKind.i64.wrap ((l[n].length : Int) - (w.data.length : Int)) = (l[n].length : Int) - (w.data.length : Int) := IntWalk.i64_in _ ⟨by omega, by omega⟩
  have hfit : fitsS (imgSz l) w = if w.start < 0 ∨ (l[n].length : Int) - (w.data.length : Int) < w.start then 2 else 0 := by
    rw [fitsS, if_neg (by simp; omega), if_neg h3, hg]
  rw [hfit]
  by_cases h4 : w.start < 0
  · simp -implicitDefEqProofs [go_sem, h4]
    exact Fin.er rfl hokH (by simp) (by simp)
  · simp -implicitDefEqProofs [go_sem, h4, hn, hnl, hwr]
    refine ⟨fun h5 => Fin.er (by rw [if_pos h5]) hokH (by simp) (by simp), fun h5 => ?_⟩
    refine Wp.s ?_
    simp -implicitDefEqProofs [go_sem]
    exact Fin.er (by rw [if_neg (by omega)]) hokH (by simp) (by simp)
/-! ### Applied writes, plain -/
def putV (v : List Sec) (p : Nat) (d : List Sec) : List Sec := v.take p ++ d ++ v.drop (p + d.length)
def ap1 (l : Img) (w : Wr) : Img := l.set w.volume.toNat (putV (l.getD w.volume.toNat []) w.start.toNat w.data)
/-- What Apply yields: the image, and the number of writes, and the error. -/
def apI : Img → List Wr → Nat → Img × Nat × Nat
  | l, [], _ => (l, 0, 0)
  | l, w :: ws, i => if fitsS (imgSz l) w ≠ 0 then ([], i, fitsS (imgSz l) w) else apI (ap1 l w) ws (i + 1)
theorem putV_len {v : List Sec} {p : Nat} {d : List Sec} (h : p + d.length ≤ v.length) : (putV v p d).length = v.length := by
  rw [putV, List.length_append, List.length_append, List.length_take, List.length_drop]; omega
end Go.Proofs.YtpadnceoacbaeaaGreat
namespace Go.Proofs.YtpadnceoacbaeaaGreat
open Go.Proofs
def apR (l : Img) (ws : List Wr) : Img × Nat × Nat := if sizesE (imgSz l) ≠ 0 then ([], 0, sizesE (imgSz l)) else apI l ws 0
def apV (x : Img × Nat × Nat) : CV := .tup [imV x.1, ci x.2.1, er x.2.2]
theorem okV_apV (i j : Nat) (x : Img × Nat × Nat) : okV i j (apV x) := by
  rw [apV, okV, okL, okL, okL, okL]
  simp [go_sem, okL, okV]
theorem imH_get (H : Hp) (k : Img) (j : Nat) (h : j < k.length) : (H ++ imH k)[H.length + j]? = some (some (secsF k[j])) := by
  rw [hget, imH, List.getElem?_map, List.getElem?_eq_getElem h]; rfl
theorem sizes_pos {l : Img} (h : sizesE (imgSz l) = 0) : l.length ≤ 8 ∧ ∀ v ∈ l, v ≠ [] ∧ v.length ≤ 4096 := by
  obtain ⟨s1, s2, s3⟩ := sizesE_0 h
  rw [imgSz, List.length_map] at s2
  refine ⟨by omega, fun v hv => ?_⟩
  have := s3 (v.length : Int) (List.mem_map.2 ⟨v, hv, rfl⟩)
  refine ⟨fun e => ?_, by omega⟩
  rw [e] at this; simp at this
theorem fitsI_0 {k : Img} {w : Wr} (h : fitsS (imgSz k) w = 0) : ∃ n : Nat, w.volume = (n : Int) ∧ ∃ hn : n < k.length, w.data.length ≠ 0 ∧ ∃ p : Nat, w.start = (p : Int) ∧ p + w.data.length ≤ k[n].length := by
  unfold fitsS at h
  rw [imgSz, List.length_map] at h
  split at h
  · cases h
  · rename_i h1
    split at h
    · cases h
    · rename_i h2
      split at h
      · cases h
      · rename_i h3
        obtain ⟨n, hn⟩ := Int.eq_ofNat_of_zero_le (show 0 ≤ w.volume by omega)
        obtain ⟨p, hp⟩ := Int.eq_ofNat_of_zero_le (show 0 ≤ w.start by omega)
        have hnk : n < k.length := by omega
        have hg := imgSz_getD k n hnk
        rw [imgSz] at hg
        rw [hn, Int.toNat_natCast, hg] at h3
        exact ⟨n, hn, hnk, h2, p, hp, by omega⟩
theorem ap1_len (k : Img) (w : Wr) : (ap1 k w).length = k.length := List.length_set ..
theorem ap1_sz {k : Img} {w : Wr} (h : fitsS (imgSz k) w = 0) : (ap1 k w).map List.length = k.map List.length := by
  obtain ⟨n, hvn, hnk, hd0, p, hpn, hpl⟩ := fitsI_0 h
  rw [ap1, hvn, hpn, Int.toNat_natCast, Int.toNat_natCast, List.getD_eq_getElem?_getD, List.getElem?_eq_getElem hnk, Option.getD_some, List.map_set, putV_len hpl]
  apply List.ext_getElem
  · simp
  · intro i h1 h2
    by_cases e : n = i
    · subst e; simp
    · simp [List.getElem_set_ne e]
theorem okE_bxs' (b : Nat) (k : Img) (jb jv : Nat) (h : b + k.length ≤ jb) : okE jb jv (bxs b k) := okE_bxs jb jv b k h
theorem okH_imH (i j : Nat) : ∀ l : Img, okH i j (imH l)
  | [] => trivial
  | v :: l => ⟨by rw [okL_secsF]; trivial, okH_imH i j l⟩
theorem imH_set (H : Hp) (k : Img) (n : Nat) (v : List Sec) : (H ++ imH k).set (H.length + n) (some (secsF v)) = H ++ imH (k.set n v) := by
  rw [List.set_append_right _ _ (by omega), Nat.add_sub_cancel_left, imH, imH, List.map_set]
theorem FyL.rfl' (b : Nat) (cs : List CV) : ∀ l : List CV, FyL b cs l l
  | [] => .nil
  | c :: l => .cons (.refl c) (FyL.rfl' b cs l)
theorem FyE.rfl' (b : Nat) (cs : List CV) : ∀ l : List (List CV), FyE b cs l l
  | [] => .nil
  | c :: l => .cons (FyL.rfl' b cs c) (FyE.rfl' b cs l)
theorem FyE.app {bx : Nat} {cs : List CV} {a b : List (List CV)} {c d : List (List CV)} : FyE bx cs a b → FyE bx cs c d → FyE bx cs (a ++ c) (b ++ d)
  | .nil, h => h
  | .cons h t, g => .cons h (FyE.app t g)
theorem gst_bxs {n nb nv b : Nat} {V : List Nat} {cs : List CV} : ∀ (l d : Img) (H : Hp) (tk : Tk), (∀ j (h : j < l.length), H[b + d.length + j]? = some (some (secsF l[j]))) →
    ∃ H' : Hp, H'.take b = H.take b ∧ Gst n nb nv [(0, .tup (.sl tk 1 (d.map imE ++ bxs (b + d.length) l) :: cs))] H V [(0, .tup (.sl .sh 1 ((d ++ l).map imE) :: cs))] H' V
  | [], d, H, tk, h => ⟨H, rfl, Gst.forget fun p hp => by
      obtain rfl : p = _ := by simpa using hp
      simp only [tget, if_pos, bxs, List.append_nil]
      exact .tup (.cons (.sh _ _ _) (LeL.refl cs))⟩
  | v :: l, d, H, tk, h => by
    have h0 : H[b + d.length]? = some (some (secsF v)) := h 0 (by simp)
    obtain ⟨H', h1, h2⟩ := gst_bxs (n := n) (nb := nb) (nv := nv) (b := b) (V := V) (cs := cs) l (d ++ [v]) (H.set (b + d.length) none) .sh (fun j hj => by
      rw [List.length_append, List.length_singleton, List.getElem?_set_ne (by omega)]
      have := h (j + 1) (by simpa using hj)
      rw [show b + (d.length + 1) + j = b + d.length + (j + 1) by omega, this]
      rfl)
    refine ⟨H', by rw [h1, List.take_set_of_le (by omega)], Gst.trans (T' := [(0, .tup (.sl .sh 1 (d.map imE ++ (imE v :: bxs (b + d.length + 1) l)) :: cs))]) (Gst.freezeY h0 fun p hp => ?_) ?_⟩
    · obtain rfl : p = _ := by simpa using hp
      simp only [tget, if_pos, bxs]
      have := Fy.bsl (b := b + d.length) (cs := secsF v) 0 v.length 8 (by rw [secsF_len]; omega)
      rw [List.drop_zero, chunks_secs] at this
      exact .tup (.cons (.sl _ _ (FyE.app (FyE.rfl' _ _ _) (.cons (.cons this .nil) (FyE.rfl' _ _ _)))) (FyL.rfl' _ _ _))
    · have e1 : d.map imE ++ (imE v :: bxs (b + d.length + 1) l) = (d ++ [v]).map imE ++ bxs (b + (d ++ [v]).length) l := by simp [Nat.add_assoc]
      rw [e1]
      rw [List.append_assoc] at h2
      exact h2
/-- An image of boxes is handed back, with an error. -/
theorem fin_bxs {H : Hp} {V V' : List Nat} {tk : Tk} {k : Img} {a b : Nat} (hokH : ∀ (b : Nat) cs, H[b]? = some (some cs) → okL H.length V.length cs) (hV : V'.take V.length = V) :
    Fin H.length V.length (Pu (apV (k, a, b)) H V) (.tup [.sl tk 1 (bxs H.length k), ci a, er b]) (H ++ imH k) V' := by
  obtain ⟨H', h1, h2⟩ := gst_bxs (n := 1) (nb := H.length) (nv := V.length) (b := H.length) (V := V') (cs := [ci a, er b]) k [] (H ++ imH k) tk (fun j hj => imH_get H k j hj)
  refine ⟨_, H, V, Gst.trans h2 ?_, ⟨rfl, rfl, rfl⟩⟩
  rw [List.take_left] at h1
  have := Gst.cut (n := 1) (nb := H.length) (nv := V.length) (T := [(0, apV (k, a, b))]) (H := H') (V := V') H.length V.length (Nat.le_refl _) (Nat.le_refl _) (fun p hp => by simp at hp; subst hp; exact okV_apV _ _ _) (by rw [h1]; exact hokH)
  rwa [h1, hV] at this
set_option maxRecDepth 8000 in
theorem imApply_cc (H : Hp) (V : List Nat) (tk : Tk) (l : Img) (ws : List Wr) (hl : l.length ≤ 1000000000) (hn : ws.length ≤ 1000000000) (hw : ∀ w ∈ ws, w.data.length ≤ 1000000000) : CC Tryz.prog 100 [.sl tk 1 (l.map imE), .sl .sh 3 (ws.map wrC)] H V (Pu (apV (apR l ws)) H V) := by
  refine CC.of_swp Tryz.func100 rfl (by kernel_rfl) (by rw [Tryz.ntmps100]; exact len_le _ _ rfl) fun hok hokH => ?_
  clear hok
  have bad : ∀ (i e : Nat) (H' : Hp) (V' : List Nat), apR l ws = ([], i, e) → H'.take H.length = H → V'.take V.length = V → Fin H.length V.length (Pu (apV (apR l ws)) H V) (.tup [.v (.slice none 0 0), ci i, er e]) H' V' := fun i e H' V' h1 h2 h3 => by
    rw [h1]
    exact Fin.pu (.tup (.cons (.nil 1 (by decide)) (.cons (.refl _) (.cons (.refl _) .nil)))) (okV_apV _ _ _) hokH h2 h3
  refine SWp.seq (Wp.s ?_)
  simp -implicitDefEqProofs [go_sem, args0]
  refine SWp.seq (SWp.seq (Wp.s ?_))
  simp -implicitDefEqProofs [go_sem]
  refine CC.mono (iCheck_cc _ _ tk l hl) ?_
  rintro _ _ _ ⟨rfl, rfl, rfl⟩
  simp -implicitDefEqProofs [go_sem]
  refine SWp.seq (Wp.s ?_)
  by_cases h0 : sizesE (imgSz l) = 0
  case neg =>
    simp -implicitDefEqProofs [go_sem, h0]
    refine Wp.s ?_
    simp -implicitDefEqProofs [go_sem]
    exact bad 0 _ _ _ (by rw [apR, if_pos h0]) (by simp) (by simp)
  have e0 : apR l ws = apI l ws 0 := by rw [apR, if_neg (by simp [h0])]
  simp -implicitDefEqProofs [go_sem, h0]
  refine Wp.s ?_
  simp -implicitDefEqProofs [go_sem]
  obtain ⟨hl8, hvs⟩ := sizes_pos h0
  refine SWp.seq (Wp.s ?_)
  simp -implicitDefEqProofs [go_sem]
  refine CC.mono (imCopied_cc _ _ tk l (by omega) (fun v hv => ⟨(hvs v hv).1, by have := (hvs v hv).2; omega⟩)) ?_
  rintro _ _ _ ⟨rfl, rfl, rfl⟩
  simp -implicitDefEqProofs [go_sem]
  refine SWp.join (α := Img) (fun k => ([(8, .sl (.own V.length l.length) 1 (bxs H.length l))], H ++ imH k, V ++ [l.length])) (fun k => k.map List.length = l.map List.length ∧ apI l ws 0 = (k, 0, 0)) ?_ ?_
  · refine SWp.seq (Wp.s ?_)
    simp -implicitDefEqProofs [go_sem]
    refine SWp.block ?_
    refine SWp.loop (α := Nat × Img) (fun x => ([(8, .sl (.own V.length l.length) 1 (bxs H.length l)), (19, .sl .sh 3 (ws.map wrC)), (20, ci ws.length), (21, ci x.1)], H ++ imH x.2, V ++ [l.length])) (fun x => x.1 ≤ ws.length ∧ x.2.map List.length = l.map List.length ∧ apI l ws 0 = apI x.2 (ws.drop x.1) x.1) (fun x => ws.length - x.1) (0, l) ⟨Nat.zero_le _, rfl, rfl⟩ (Sh.forget (by simp [go_sem]) rfl rfl) ?_
    rintro ⟨i, k⟩ ⟨hi, hk, hap⟩
    dsimp only at hi hk hap ⊢
    refine SWp.seq (Wp.s ?_)
    simp -implicitDefEqProofs [go_sem]
    refine SWp.seq (Wp.s ?_)
    simp -implicitDefEqProofs [go_sem]
    have hkl : k.length = l.length := by have := congrArg List.length hk; simpa using this
    refine ⟨fun h => ?_, fun h => ?_⟩
    case refine_2 =>
      rw [List.drop_of_length_le h] at hap
      exact ⟨k, ⟨hk, hap⟩, Sh.forget (by simp [go_sem]) rfl rfl⟩
    rw [List.drop_eq_getElem_cons h] at hap
    have hbxe := bxs_eq H.length hk
    have hkn : ∀ v ∈ k, v.length ≤ 4096 := fun v hv => by
      have : v.length ∈ k.map List.length := List.mem_map.2 ⟨v, hv, rfl⟩
      rw [hk] at this
      obtain ⟨u, hu, he⟩ := List.mem_map.1 this
      have := (hvs u hu).2; omega
    have hdw := hw _ (List.getElem_mem h)
    obtain ⟨G, hG⟩ : ∃ G, G = H ++ imH k := ⟨_, rfl⟩
    have hGl : G.length = H.length + l.length := by rw [hG]; simp [hkl]
    have hGH : G.take H.length = H := by rw [hG]; simp
    rw [← hG]
    rw [← hbxe]
    refine SWp.seq (SWp.block (SWp.seq (Wp.s ?_)))
    simp -implicitDefEqProofs [go_sem, h]
    refine SWp.seq (SWp.seq (Wp.s ?_))
    simp -implicitDefEqProofs [go_sem]
    refine CC.mono (fitsB_cc _ _ _ H.length k ws[i] (by omega) (fun v hv => by have := hkn v hv; omega) hdw (by simp [hGl, hkl])) ?_
    rintro _ _ _ ⟨rfl, rfl, rfl⟩
    simp -implicitDefEqProofs [go_sem]
    refine SWp.seq (Wp.s ?_)
    by_cases hf : fitsS (imgSz k) ws[i] = 0
    case neg =>
      simp -implicitDefEqProofs [go_sem, hf]
      refine Wp.s ?_
      simp -implicitDefEqProofs [go_sem]
      refine bad i _ _ _ (by rw [e0, hap, apI, if_pos hf]) ?_ (by simp)
      rw [List.take_append_of_le_length (by omega)]; exact hGH
    rw [apI, if_neg (by simp [hf])] at hap
    simp -implicitDefEqProofs [go_sem, hf]
    refine Wp.s ?_
    simp -implicitDefEqProofs [go_sem]
    obtain ⟨n, hvn, hnk, hd0, p, hpn, hpl⟩ := fitsI_0 hf
    have hGn : G[H.length + n]? = some (some (secsF k[n])) := by rw [hG]; exact imH_get H k n hnk
    have hkl4 := hkn _ (List.getElem_mem hnk)
    refine SWp.drawnT [G.length] [10] (.s 0 .pl <| .s 1 .pl <| .s 2 .ld <| .s 3 .pl <| .s 4 .ld <| .s 5 .pl <| .s 6 .ld <| .s 7 .pl <| .s 8 .pl <| .s 9 .pl <| .s 10 .st <| .n) (by kernel_rfl) (by kernel_rfl) ?_
    have hX : ∀ (z : List CV) (K : List CV → Prop), hbx (G ++ [some z]) (H.length + n) K = K (secsF k[n]) := fun z K => hbx_of (by rw [List.getElem?_append_left (by omega)]; exact hGn) K
    have hmn : min (k[n].length - p) ws[i].data.length = ws[i].data.length := Nat.min_eq_right (by omega)
    have htk : List.take (k[n].length - p) (ws[i].data.map secC) = ws[i].data.map secC := List.take_of_length_le (by rw [List.length_map]; omega)
    simp -implicitDefEqProofs [go_sem, hvn, hpn, hnk, hX, hmn, htk]
    refine ⟨by omega, secsF_all _, by omega, Kp.keep fun b hb => ?_, Wp.s ?_⟩
    · obtain rfl : b = G.length := by simpa using hb
      rw [List.getElem?_set_ne (by omega)]
    simp -implicitDefEqProofs [go_sem, wrap_succ (show i ≤ 1000000000 by omega)]
    refine ⟨i + 1, ap1 k ws[i], ⟨by omega, (ap1_sz hf).trans hk, hap⟩, by omega, ?_⟩
    refine Sh.trim (L := imH (ap1 k ws[i])) (by simp [go_sem]) (by simp [go_sem, okE_bxs' H.length k, ap1_len]) hokH (okH_imH _ _ _) (by simp) ?_ (by simp)
    rw [imH_len, ap1_len, hkl, List.set_append_left _ _ (by omega), List.take_append_of_le_length (by simp; omega), List.take_of_length_le (by simp; omega), hG]
    rw [show List.take (p * 8) (secsF k[n]) ++ ((List.map secC ws[i].data).flatten ++ List.drop (p * 8 + ws[i].data.length * 8) (secsF k[n])) = secsF (putV k[n] p ws[i].data) from by
      rw [← Nat.add_mul, secsF_take, secsF_drop, putV, secsF_app, secsF_app, List.append_assoc]; rfl]
    rw [imH_set, ap1, hvn, hpn, Int.toNat_natCast, Int.toNat_natCast, List.getD_eq_getElem?_getD, List.getElem?_eq_getElem hnk, Option.getD_some]
  rintro k ⟨hk, hap⟩
  dsimp only
  have hkl : k.length = l.length := by have := congrArg List.length hk; simpa using this
  rw [← bxs_eq H.length hk]
  refine Wp.s ?_
  simp -implicitDefEqProofs [go_sem]
  rw [e0, hap]
  exact fin_bxs hokH (by simp)
end Go.Proofs.YtpadnceoacbaeaaGreat
namespace Go.Proofs.YtpadnceoacbaeaaGreat
open Go.Proofs
/-- What cycle.Apply yields. -/
def apC (l : Img) (c : Cyc) : Img × Nat :=
  if sizesE (imgSz l) ≠ 0 then ([], sizesE (imgSz l)) else if chkC c (imgSz l) ≠ 0 then ([], chkC c (imgSz l)) else ((apR l c.wrs).1, (apR l c.wrs).2.2)
def apcV (x : Img × Nat) : CV := .tup [imV x.1, er x.2]
theorem okV_apcV (i j : Nat) (x : Img × Nat) : okV i j (apcV x) := by
  rw [apcV, okV, okL, okL, okL]
  simp [go_sem, okL, okV]
set_option maxRecDepth 8000 in
theorem cyApply_cc (H : Hp) (V : List Nat) (l : Img) (c : Cyc) (hl : l.length ≤ 1000000000) (hw : c.wrs.length ≤ 1000000000) (hws : WrS c.wrs) (hp : c.poss.length ≤ 1000000000) : CC Tryz.prog 69 [.sl .sh 1 (l.map imE), .agg (cycC c)] H V (Pu (apcV (apC l c)) H V) := by
  refine CC.of_swp Tryz.func69 rfl (by kernel_rfl) (by rw [Tryz.ntmps69]; exact len_le _ _ rfl) fun hok hokH => ?_
  clear hok
  have bad : ∀ (e : Nat) (H' : Hp) (V' : List Nat), apC l c = ([], e) → H'.take H.length = H → V'.take V.length = V → Fin H.length V.length (Pu (apcV (apC l c)) H V) (.tup [.v (.slice none 0 0), er e]) H' V' := fun e H' V' h1 h2 h3 => by
    rw [h1]
    exact Fin.pu (.tup (.cons (.nil 1 (by decide)) (.cons (.refl _) .nil))) (okV_apcV _ _ _) hokH h2 h3
  refine SWp.seq (Wp.s ?_)
  simp -implicitDefEqProofs [go_sem, args0]
  refine SWp.seq (SWp.seq (Wp.s ?_))
  simp -implicitDefEqProofs [go_sem]
  refine CC.mono (iCheck_cc _ _ .sh l hl) ?_
  rintro _ _ _ ⟨rfl, rfl, rfl⟩
  simp -implicitDefEqProofs [go_sem]
  refine SWp.seq (Wp.s ?_)
  by_cases h0 : sizesE (imgSz l) = 0
  case neg =>
    simp -implicitDefEqProofs [go_sem, h0]
    refine Wp.s ?_
    simp -implicitDefEqProofs [go_sem]
    exact bad _ _ _ (by rw [apC, if_pos h0]) (by simp) (by simp)
  simp -implicitDefEqProofs [go_sem, h0]
  refine Wp.s ?_
  simp -implicitDefEqProofs [go_sem]
  obtain ⟨hl8, hvs⟩ := sizes_pos h0
  refine SWp.seq (Wp.s ?_)
  simp -implicitDefEqProofs [go_sem]
  refine SWp.join (α := Unit) (fun _ => ([(0, .sl .sh 1 (l.map imE)), (3, .ptr H.length 0), (7, .sl (.own V.length l.length) 1 ((imgSz l).map ic))], H ++ [some (cycC c)], V ++ [l.length])) (fun _ => True) ?_ ?_
  · refine SWp.seq (Wp.s ?_)
    simp -implicitDefEqProofs [go_sem]
    refine SWp.block ?_
    refine SWp.loop (α := Nat) (fun i => ([(0, .sl .sh 1 (l.map imE)), (3, .ptr H.length 0), (7, .sl (.own V.length i) 1 ((imgSz (l.take i)).map ic)), (19, .sl .sh 1 (l.map imE)), (20, ci l.length), (21, ci i)], H ++ [some (cycC c)], V ++ [i])) (fun i => i ≤ l.length) (fun i => l.length - i) 0 (Nat.zero_le _) (Sh.tokT (by simp [go_sem, imgSz]) rfl rfl) ?_
    intro i hi
    dsimp only
    refine SWp.seq (Wp.s ?_)
    simp -implicitDefEqProofs [go_sem]
    refine SWp.seq (Wp.s ?_)
    simp -implicitDefEqProofs [go_sem]
    refine ⟨fun h => ?_, fun h => ?_⟩
    case refine_2 =>
      obtain rfl : i = l.length := by omega
      rw [List.take_length]
      exact Sh.forget (by simp [go_sem]) rfl rfl
    refine SWp.seq (SWp.block (SWp.seq (Wp.s ?_)))
    simp -implicitDefEqProofs [go_sem, h]
    refine Wp.s ?_
    simp -implicitDefEqProofs [go_sem]
    refine ⟨by omega, Wp.s ?_⟩
    simp -implicitDefEqProofs [go_sem, wrap_succ (show i ≤ 1000000000 by omega)]
    refine ⟨i + 1, by omega, by omega, ?_⟩
    have : (imgSz (l.take (i + 1))).map ic = (imgSz (l.take i)).map ic ++ [ic (l[i].length : Int)] := by
      rw [List.take_succ_eq_append_getElem h, imgSz, List.map_append, List.map_append]; rfl
    rw [this]
    exact Sh.forget (by simp [go_sem, ic]) rfl (by simp)
  rintro _ -
  dsimp only
  refine SWp.seq (SWp.seq (Wp.s ?_))
  simp -implicitDefEqProofs [go_sem]
  refine CC.mono (cCheck_cc _ _ _ c (imgSz l) hw hws (by rw [imgSz, List.length_map]; omega) (by omega)) ?_
  rintro _ _ _ ⟨rfl, rfl, rfl⟩
  simp -implicitDefEqProofs [go_sem]
  refine SWp.seq (Wp.s ?_)
  by_cases h1 : chkC c (imgSz l) = 0
  case neg =>
    simp -implicitDefEqProofs [go_sem, h1]
    refine Wp.s ?_
    simp -implicitDefEqProofs [go_sem]
    exact bad _ _ _ (by rw [apC, if_neg (by simp [h0]), if_pos h1]) (by simp) (by simp)
  simp -implicitDefEqProofs [go_sem, h1]
  refine Wp.s ?_
  simp -implicitDefEqProofs [go_sem]
  refine SWp.seq (Wp.s ?_)
  simp -implicitDefEqProofs [go_sem, cycC]
  refine CC.mono (imApply_cc _ _ .sh l c.wrs hl hw (fun w h => by have := hws w h; omega)) ?_
  rintro _ _ _ ⟨rfl, rfl, rfl⟩
  simp -implicitDefEqProofs [go_sem, apV]
  refine Wp.s ?_
  simp -implicitDefEqProofs [go_sem]
  refine Fin.pu ?_ (okV_apcV _ _ _) hokH (by simp) (by simp)
  rw [apC, if_neg (by simp [h0]), if_neg (by simp [h1])]
  exact .refl _
end Go.Proofs.YtpadnceoacbaeaaGreat
namespace Go.Proofs.YtpadnceoacbaeaaGreat
open Go.Proofs
/-! ### ref22.Fold: what is folded is of bounded size (no more is wanted of it) -/
/-- Where in a write a sector stands. -/
def hKB (w : Wr) (v p : Int) : Int × Bool := if w.volume ≠ v ∨ w.data.length = 0 ∨ p < w.start then (0, false) else (p - w.start, decide (p - w.start < w.data.length))
theorem holds_cc (H : Hp) (V : List Nat) (w : Wr) (v p : Int) (h0 : 0 ≤ w.start) (h1 : w.start ≤ 4096) (hp : p ≤ 1000000) : CC Tryz.prog 141 [.agg (wrC w), ci v, ci p] H V (Pu (.tup [ci (hKB w v p).1, .v (.bool (hKB w v p).2)]) H V) := by
  refine CC.of_swp Tryz.func141 rfl (by kernel_rfl) (by rw [Tryz.ntmps141]; exact len_le _ _ rfl) fun hok hokH => ?_
  clear hok
  have fin : ∀ (a : Int) (b : Bool) (H' : Hp) (V' : List Nat), hKB w v p = (a, b) → H'.take H.length = H → V'.take V.length = V → Fin H.length V.length (Pu (.tup [ci (hKB w v p).1, .v (.bool (hKB w v p).2)]) H V) (.tup [ci a, .v (.bool b)]) H' V' := fun a b H' V' e h2 h3 => by
    rw [e]; exact Fin.pu (.refl _) (by simp [go_sem]) hokH h2 h3
  refine SWp.seq (Wp.s ?_)
  simp -implicitDefEqProofs [go_sem, args0]
  refine SWp.seq (SWp.seq (Wp.s ?_))
  by_cases c1 : w.volume = v
  case neg =>
    simp -implicitDefEqProofs [go_sem, c1]
    refine Wp.s ?_
    simp -implicitDefEqProofs [go_sem]
    exact fin 0 false _ _ (by rw [hKB, if_pos (.inl c1)]) (by simp) (by simp)
  by_cases c2 : w.data.length = 0
  · simp -implicitDefEqProofs [go_sem, c1, c2]
    refine Wp.s ?_
    simp -implicitDefEqProofs [go_sem]
    exact fin 0 false _ _ (by rw [hKB, if_pos (.inr (.inl c2))]) (by simp) (by simp)
  by_cases c3 : p < w.start
  · simp -implicitDefEqProofs [go_sem, c1, c2, c3]
    refine Wp.s ?_
    simp -implicitDefEqProofs [go_sem]
    exact fin 0 false _ _ (by rw [hKB, if_pos (.inr (.inr c3))]) (by simp) (by simp)
  have c4 : ¬ w.start < 0 := by omega
  simp -implicitDefEqProofs [go_sem, c1, c2, c3]
  refine Wp.s ?_
  simp -implicitDefEqProofs [go_sem, c4]
  refine SWp.seq (SWp.seq (Wp.s ?_))
  simp -implicitDefEqProofs [go_sem, c4]
  refine Wp.s ?_
  simp -implicitDefEqProofs [go_sem]
  have w1 : IntKind.i64.wrap (p - w.start) = p - w.start := IntWalk.i64_in _ ⟨by omega, by omega⟩
  refine SWp.seq (Wp.s ?_)
  simp -implicitDefEqProofs [go_sem, w1]
  refine SWp.seq (SWp.drawnT [] [] (.s 0 .pl <| .s 1 .pl <| .s 2 .pl <| .s 3 .pl <| .s 4 .pl <| .s 5 .pl <| .s 6 .pl <| .s 7 .pl <| .n) (by kernel_rfl) (by kernel_rfl) ?_)
  simp -implicitDefEqProofs [go_sem]
  refine Wp.s ?_
  simp -implicitDefEqProofs [go_sem]
  exact fin _ _ _ _ (by rw [hKB, if_neg (by simp [c1, c2]; omega)]) (by simp) (by simp)
theorem hKB_lt {w : Wr} {v p : Int} (h : (hKB w v p).2 = true) : 0 ≤ (hKB w v p).1 ∧ (hKB w v p).1 < w.data.length := by
  unfold hKB at h ⊢
  split at h
  · cases h
  · rename_i q
    rw [if_neg q]
    exact ⟨by show 0 ≤ p - w.start; omega, of_decide_eq_true h⟩
/-- Writes that fit. -/
def WrF (l : List Wr) : Prop := ∀ w ∈ l, 0 ≤ w.start ∧ w.start ≤ 4096 ∧ w.data.length ≤ 4096
def LkR (H : Hp) (V : List Nat) : CV → Hp → List Nat → Prop := fun r H' V' => ∃ (s : Sec) (b : Bool), r = .tup [.agg (secC s), .v (.bool b)] ∧ H = H' ∧ V = V'
theorem Lookup_cc (H : Hp) (V : List Nat) (tk : Tk) (ws : List Wr) (v p : Int) (hn : ws.length ≤ 1000000) (hw : WrF ws) (hp : p ≤ 1000000) : CC Tryz.prog 134 [.sl tk 3 (ws.map wrC), ci v, ci p] H V (LkR H V) := by
  refine CC.of_swp Tryz.func134 rfl (by kernel_rfl) (by rw [Tryz.ntmps134]; exact len_le _ _ rfl) fun hok hokH => ?_
  clear hok
  have fin : ∀ (s : Sec) (b : Bool) (H' : Hp) (V' : List Nat), H'.take H.length = H → V'.take V.length = V → Fin H.length V.length (LkR H V) (.tup [.agg (secC s), .v (.bool b)]) H' V' := fun s b H' V' h2 h3 =>
    Fin.pure ⟨s, b, rfl, rfl, rfl⟩ h2 h3 (.refl _) (by simp [go_sem]) hokH
  refine SWp.seq (Wp.s ?_)
  simp -implicitDefEqProofs [go_sem, args0]
  refine SWp.join (α := Unit) (fun _ => ([(6, .ptr H.length 0)], H ++ [some (secC sec0)], V)) (fun _ => True) ?_ ?_
  · have w1 : IntKind.i64.wrap ((ws.length : Int) - 1) = (ws.length : Int) - 1 := IntWalk.i64_in _ ⟨by omega, by omega⟩
    refine SWp.seq (Wp.s ?_)
    simp -implicitDefEqProofs [go_sem, w1]
    refine SWp.block ?_
    refine SWp.loop (α := Nat) (fun i => ([(0, .sl tk 3 (ws.map wrC)), (1, ci v), (2, ci p), (6, .ptr H.length 0), (8, ci ((i : Int) - 1))], H ++ [some (secC sec0)], V)) (fun i => i ≤ ws.length) (fun i => i) ws.length (Nat.le_refl _) (Sh.forget (by simp [go_sem]) rfl rfl) ?_
    intro i hi
    dsimp only at hi ⊢
    refine SWp.seq (SWp.seq (Wp.s ?_))
    by_cases h : i = 0
    · subst h
      simp -implicitDefEqProofs [go_sem]
      refine Wp.s ?_
      simp -implicitDefEqProofs [go_sem]
      exact Sh.forget (by simp [go_sem]) rfl rfl
    obtain ⟨k, rfl⟩ : ∃ k, i = k + 1 := ⟨i - 1, by omega⟩
    have e1 : ((k + 1 : Nat) : Int) - 1 = (k : Int) := by omega
    rw [e1]
    have hk : k < ws.length := by omega
    have hwk := hw _ (List.getElem_mem hk)
    simp -implicitDefEqProofs [go_sem]
    refine Wp.s ?_
    simp -implicitDefEqProofs [go_sem]
    refine SWp.seq (SWp.block (SWp.seq (Wp.s ?_)))
    simp -implicitDefEqProofs [go_sem, hk]
    refine CC.mono (holds_cc _ _ ws[k] v p hwk.1 hwk.2.1 hp) ?_
    rintro _ _ _ ⟨rfl, rfl, rfl⟩
    simp -implicitDefEqProofs [go_sem]
    refine SWp.seq (Wp.s ?_)
    by_cases hb : (hKB ws[k] v p).2 = true
    · obtain ⟨b1, b2⟩ := hKB_lt hb
      obtain ⟨q, hq⟩ := Int.eq_ofNat_of_zero_le b1
      have hq2 : q < ws[k].data.length := by omega
      simp -implicitDefEqProofs [go_sem, hb]
      refine Wp.s ?_
      simp -implicitDefEqProofs [go_sem, hq, hk, hq2]
      exact fin _ _ _ _ (by simp) (by simp)
    · have hb' : (hKB ws[k] v p).2 = false := by simpa using hb
      have w2 : IntKind.i64.wrap ((k : Int) - 1) = (k : Int) - 1 := IntWalk.i64_in _ ⟨by omega, by omega⟩
      simp -implicitDefEqProofs [go_sem, hb']
      refine Wp.s ?_
      simp -implicitDefEqProofs [go_sem]
      refine Wp.s ?_
      simp -implicitDefEqProofs [go_sem]
      exact ⟨k, by omega, by omega, Sh.forget (by simp [go_sem, w2]) rfl rfl⟩
  rintro _ -
  dsimp only
  refine Wp.s ?_
  simp -implicitDefEqProofs [go_sem]
  exact fin sec0 _ _ _ (by simp) (by simp)
end Go.Proofs.YtpadnceoacbaeaaGreat
namespace Go.Proofs.YtpadnceoacbaeaaGreat
open Go.Proofs
/-- The marks in a box are others. -/
def AddR (b : Nat) (H : Hp) (V : List Nat) : CV → Hp → List Nat → Prop := fun _ H' V' => ∃ M : List Bool, M.length = 4096 ∧ H' = H.set b (some (M.map cbo)) ∧ V = V'
theorem hset_ok {H : Hp} {V : List Nat} {b : Nat} {c : List CV} (hc : okL H.length V.length c) (hokH : ∀ (b : Nat) cs, H[b]? = some (some cs) → okL H.length V.length cs) (b' : Nat) (cs : List CV) (h : (H.set b (some c))[b']? = some (some cs)) : okL H.length V.length cs := by
  by_cases e : b = b'
  · subst e
    rw [List.getElem?_set] at h
    split at h
    · obtain rfl : c = cs := by
        split at h <;> simp_all
      exact hc
    · exact absurd rfl ‹_›
  · rw [List.getElem?_set_ne e] at h
    exact hokH _ _ h
theorem okL_bos' (i j : Nat) : ∀ l : List Bool, okL i j (l.map cbo)
  | [] => trivial
  | b :: l => ⟨trivial, okL_bos' i j l⟩
theorem set_self' {H : Hp} {b : Nat} {c : List CV} (h : H[b]? = some (some c)) : H.set b (some c) = H := by
  obtain ⟨h1, h2⟩ := List.getElem?_eq_some_iff.1 h
  rw [← h2, List.set_getElem_self]
theorem cbo_set (M : List Bool) (i : Nat) (h : i < M.length) : (M.map cbo).take i ++ cbo true :: (M.map cbo).drop (i + 1) = (M.set i true).map cbo := by
  rw [List.map_set, List.set_eq_take_append_cons_drop, if_pos (by simpa using h)]
set_option maxRecDepth 8000 in
theorem add_cc (H : Hp) (V : List Nat) (b : Nat) (M : List Bool) (a n : Int) (hM : M.length = 4096) (hb : H[b]? = some (some (M.map cbo))) (a0 : 0 ≤ a) (a1 : a ≤ 4096) (n0 : 0 ≤ n) (n1 : n ≤ 4096) : CC Tryz.prog 135 [.bsl b 0 4096 1, .agg [ci a, ci n]] H V (AddR b H V) := by
  refine CC.of_swp Tryz.func135 rfl (by kernel_rfl) (by rw [Tryz.ntmps135]; exact len_le _ _ rfl) fun hok hokH => ?_
  clear hok
  have hbl : b < H.length := (List.getElem?_eq_some_iff.1 hb).1
  have fin : ∀ (r : CV) (M' : List Bool) (H' : Hp) (V' : List Nat), M'.length = 4096 → H'.take H.length = H.set b (some (M'.map cbo)) → V'.take V.length = V → Fin H.length V.length (AddR b H V) r H' V' := fun r M' H' V' h1 h2 h3 => by
    refine ⟨.any, H.set b (some (M'.map cbo)), V, ?_, M', h1, rfl, rfl⟩
    refine Gst.trans (T' := [(0, .any)]) (H' := H') (V' := V') (Gst.forget fun p hp => ?_) ?_
    · obtain rfl : p = _ := by simpa using hp
      exact .any _
    · have := Gst.cut (n := 1) (nb := H.length) (nv := V.length) (T := [(0, .any)]) (H := H') (V := V') H.length V.length (Nat.le_refl _) (Nat.le_refl _) (fun p hp => by simp at hp; subst hp; rw [okV]; trivial) (by rw [h2]; exact hset_ok (okL_bos' _ _ _) hokH)
      rwa [h2, h3] at this
  have hb2 : ∀ (Y : List CV) (K : List CV → Prop), hbx (H ++ [some Y]) b K = K (M.map cbo) := fun Y K => hbx_of (by rw [List.getElem?_append_left hbl]; exact hb) K
  have hs0 : H.set b (some (M.map cbo)) = H := set_self' hb
  have hs1 : ∀ (Y : List CV) (Z : List CV) (K : List CV → Prop), hbx (H.set b (some Z) ++ [some Y]) b K = K Z := fun Y Z K => hbx_of (by rw [List.getElem?_append_left (by simpa using hbl), List.getElem?_set_self hbl]) K
  refine SWp.seq (Wp.s ?_)
  simp -implicitDefEqProofs [go_sem, args0]
  refine SWp.seq (SWp.seq (Wp.s ?_))
  by_cases c1 : n ≤ 0
  · have c1' : ¬ 0 < n := by omega
    simp -implicitDefEqProofs [go_sem, c1, c1']
    refine Wp.s ?_
    simp -implicitDefEqProofs [go_sem]
    exact fin _ M _ _ hM (by rw [hs0]; simp) (by simp)
  by_cases c2 : 4096 ≤ a
  · have c1' : 0 < n := by omega
    simp -implicitDefEqProofs [go_sem, c1, c1', c2]
    refine Wp.s ?_
    simp -implicitDefEqProofs [go_sem]
    exact fin _ M _ _ hM (by rw [hs0]; simp) (by simp)
  have c1' : 0 < n := by omega
  simp -implicitDefEqProofs [go_sem, c1, c1', c2]
  refine Wp.s ?_
  simp -implicitDefEqProofs [go_sem]
  refine SWp.seq (Wp.s ?_)
  simp -implicitDefEqProofs [go_sem]
  have c3 : ¬ a < 0 := by omega
  have w1 : IntKind.i64.wrap (a + n) = a + n := IntWalk.i64_in _ ⟨by omega, by omega⟩
  have m1 : min n 4096 = n := by omega
  obtain ⟨e, he⟩ : ∃ e : Nat, min 4096 (a + n) = (e : Int) := ⟨(min 4096 (a + n)).toNat, by omega⟩
  have he2 : e ≤ 4096 := by omega
  refine SWp.seq (SWp.seq (Wp.s ?_))
  simp -implicitDefEqProofs [go_sem, c3]
  refine Wp.s ?_
  simp -implicitDefEqProofs [go_sem, m1, w1, he]
  refine SWp.seq (Wp.s ?_)
  simp -implicitDefEqProofs [go_sem]
  refine SWp.block ?_
  refine SWp.loop (α := Nat × List Bool) (fun x => ([(0, .bsl b 0 4096 1), (5, ci e), (6, ci (a + x.1))], H.set b (some (x.2.map cbo)) ++ [some [ci a, ci n]], V)) (fun x => a + x.1 ≤ 4096 ∧ x.2.length = 4096) (fun x => 4096 - x.1) (0, M) ⟨by show a + 0 ≤ 4096; omega, hM⟩ (Sh.forget (by simp [go_sem]) (by rw [hs0]) rfl) ?_
  rintro ⟨i, M'⟩ ⟨hi, hM'⟩
  dsimp only at hi hM' ⊢
  refine SWp.seq (SWp.seq (Wp.s ?_))
  by_cases h : a + (i : Int) < e
  · obtain ⟨q, hq⟩ := Int.eq_ofNat_of_zero_le (show 0 ≤ a + (i : Int) by omega)
    have hq2 : q < M'.length := by omega
    have w2 : IntKind.i64.wrap (a + (i : Int) + 1) = a + ((i + 1 : Nat) : Int) := by rw [IntWalk.i64_in _ ⟨by omega, by omega⟩]; omega
    simp -implicitDefEqProofs [go_sem, h]
    refine Wp.s ?_
    simp -implicitDefEqProofs [go_sem]
    refine SWp.seq (SWp.block (Wp.s ?_))
    have hX : ∀ (Y : List CV) (Z : List CV) (K : List CV → Prop), hbx (H.set b (some Z) ++ [some Y]) b K = K Z := hs1
    simp -implicitDefEqProofs [go_sem, hq, hs1, hM']
    refine ⟨by omega, by omega, Wp.s ?_⟩
    have w3 : IntKind.i64.wrap ((q : Int) + 1) = a + ((i + 1 : Nat) : Int) := by rw [IntWalk.i64_in _ ⟨by omega, by omega⟩]; omega
    simp -implicitDefEqProofs [go_sem]
    refine ⟨i + 1, M'.set q true, ⟨by omega, by rw [List.length_set]; exact hM'⟩, by omega, ?_⟩
    exact Sh.forget (by simp [go_sem, w3]) (by rw [List.set_append_left _ _ (by simpa using hbl), List.set_set, ← cbo_set M' q hq2]) rfl
  · simp -implicitDefEqProofs [go_sem, h]
    refine Wp.s ?_
    simp -implicitDefEqProofs [go_sem]
    exact fin _ M' _ _ hM' (by rw [List.take_append_of_le_length (by simp), List.take_of_length_le (by simp)]) (by simp)
end Go.Proofs.YtpadnceoacbaeaaGreat
namespace Go.Proofs.YtpadnceoacbaeaaGreat
open Go.Proofs
def exE (e : Int × Int) : List CV := [ci e.1, ci e.2]
theorem flat_exE : ∀ A : List (Int × Int), ((A.map exE).flatten).length = A.length * 2
  | [] => rfl
  | x :: A => by rw [List.map_cons, List.flatten_cons, List.length_append, flat_exE A, List.length_cons]; show 2 + _ = _; omega
theorem chunks_exE : ∀ B : List (Int × Int), chunks 2 B.length (B.map exE).flatten = B.map exE
  | [] => rfl
  | o :: B => by
    rw [List.length_cons, chunks, List.map_cons, List.flatten_cons]
    rw [show (exE o ++ (B.map exE).flatten).take 2 = exE o from rfl, show (exE o ++ (B.map exE).flatten).drop 2 = (B.map exE).flatten from rfl, chunks_exE B]
theorem okE_exE (i j : Nat) : ∀ B : List (Int × Int), okE i j (B.map exE)
  | [] => trivial
  | o :: B => ⟨⟨trivial, trivial, trivial⟩, okE_exE i j B⟩
/-- Extents that fit. -/
def ExF (i : Nat) (es : List (Int × Int)) : Prop := ∀ e ∈ es, 0 ≤ e.1 ∧ e.1 ≤ 4096 ∧ 0 ≤ e.2 ∧ e.2 ≤ i
theorem ExF.mono {i j : Nat} {es : List (Int × Int)} (h : ExF i es) (hij : i ≤ j) : ExF j es := fun e he => by have := h e he; omega
def ExR (H : Hp) (V : List Nat) : CV → Hp → List Nat → Prop := fun r H' V' => ∃ es : List (Int × Int), r = .sl .sh 2 (es.map exE) ∧ es.length ≤ 4096 ∧ ExF 4096 es ∧ H = H' ∧ V = V'
def RepX (j : Nat) (es : List (Int × Int)) (cv : CV) (G : Hp) : Prop := (es = [] ∧ cv = .v (.slice none 0 0)) ∨ ∃ b, es ≠ [] ∧ cv = .bsa b es.length 2 ∧ j ≤ b ∧ G[b]? = some (some (es.map exE).flatten)
theorem set_lastX (G : Hp) (b : Nat) (c : List CV) : (G.set b none ++ [some c])[G.length]? = some (some c) := by
  rw [List.getElem?_append_right (by simp)]; simp
set_option maxRecDepth 8000 in
theorem list01_cc (H : Hp) (V : List Nat) (b : Nat) (M : List Bool) (hM : M.length = 4096) (hb : H[b]? = some (some (M.map cbo))) : CC Tryz.prog 136 [.bsl b 0 4096 1] H V (ExR H V) := by
  refine CC.of_swp Tryz.func136 rfl (by kernel_rfl) (by rw [Tryz.ntmps136]; exact len_le _ _ rfl) fun hok hokH => ?_
  clear hok
  have hbl : b < H.length := (List.getElem?_eq_some_iff.1 hb).1
  refine SWp.seq (Wp.s ?_)
  simp -implicitDefEqProofs [go_sem, args0]
  refine SWp.seq (Wp.s ?_)
  simp -implicitDefEqProofs [go_sem]
  refine SWp.join (α := CV × Hp) (fun x => ([(3, x.1)], x.2, V)) (fun x => ∃ es, es.length ≤ 4096 ∧ ExF 4096 es ∧ RepX H.length es x.1 x.2 ∧ x.2.take H.length = H) ?_ ?_
  · refine SWp.seq (Wp.s ?_)
    simp -implicitDefEqProofs [go_sem]
    refine SWp.block ?_
    refine SWp.loop (α := Nat × CV × Hp) (fun x => ([(0, .bsl b 0 4096 1), (3, x.2.1), (4, ci x.1)], x.2.2, V)) (fun x => x.1 ≤ 4096 ∧ ∃ es, es.length ≤ x.1 ∧ ExF x.1 es ∧ RepX H.length es x.2.1 x.2.2 ∧ x.2.2.take H.length = H ∧ (0 < x.1 → M[x.1 - 1]? = some true → es ≠ [])) (fun x => 4096 - x.1) (0, .v (.slice none 0 0), H) ⟨Nat.zero_le _, [], Nat.zero_le _, (fun e h => by cases h), .inl ⟨rfl, rfl⟩, by simp, fun h => absurd h (Nat.lt_irrefl 0)⟩ (Sh.forget (by simp [go_sem]) rfl rfl) ?_
    rintro ⟨i, cv, G⟩ ⟨hi, es, h1, h2, h3, h4, h5⟩
    dsimp only at hi h1 h2 h3 h4 h5 ⊢
    have hGl : H.length ≤ G.length := by
      have := congrArg List.length h4
      simp at this; omega
    have hGb : G[b]? = some (some (M.map cbo)) := by
      rw [← hb, ← h4, List.getElem?_take, if_pos hbl]
    refine SWp.seq (SWp.seq (Wp.s ?_))
    by_cases h : i < 4096
    case neg =>
      have h' : ¬ (i : Int) < 4096 := by omega
      simp -implicitDefEqProofs [go_sem, h']
      refine Wp.s ?_
      simp -implicitDefEqProofs [go_sem]
      obtain rfl : i = 4096 := by omega
      exact ⟨cv, G, ⟨es, h1, h2, h3, h4⟩, Sh.forget (by simp [go_sem]) rfl rfl⟩
    have hiM : i < M.length := by omega
    have h' : (i : Int) < 4096 := by omega
    simp -implicitDefEqProofs [go_sem, h']
    refine Wp.s ?_
    simp -implicitDefEqProofs [go_sem]
    refine SWp.seq (SWp.block (SWp.seq (SWp.seq (Wp.s ?_))))
    by_cases hm : M[i] = true
    case neg =>
      have hm' : M[i] = false := by simpa using hm
      simp -implicitDefEqProofs [go_sem, hbx_of hGb, hm', hiM, hM, h, h']
      refine Wp.s ?_
      simp -implicitDefEqProofs [go_sem]
      refine Wp.s ?_
      simp -implicitDefEqProofs [go_sem]
      refine ⟨i + 1, cv, G, ⟨by omega, es, by omega, h2.mono (by omega), h3, h4, fun _ q => ?_⟩, by omega, Sh.forget ?_ rfl rfl⟩
      · rw [Nat.add_sub_cancel, List.getElem?_eq_getElem hiM, hm'] at q
        exact absurd (Option.some.inj q) (by decide)
      · simp [go_sem, wrap_succ (show i ≤ 1000000000 by omega)]
    simp -implicitDefEqProofs [go_sem, hbx_of hGb, hm, hiM, hM, h, h']
    refine Wp.s ?_
    simp -implicitDefEqProofs [go_sem]
    refine SWp.seq (Wp.s ?_)
    by_cases hq : 0 < i ∧ M[i - 1]? = some true
    · obtain ⟨q1, q2⟩ := hq
      obtain ⟨k, rfl⟩ : ∃ k, i = k + 1 := ⟨i - 1, by omega⟩
      rw [Nat.add_sub_cancel] at q2
      obtain ⟨q3, q4⟩ := List.getElem?_eq_some_iff.1 q2
      have hne := h5 q1 (by rw [Nat.add_sub_cancel]; exact q2)
      have w1 : IntKind.i64.wrap ((k : Int) + 1 - 1) = (k : Int) := by rw [IntWalk.i64_in _ ⟨by omega, by omega⟩]; omega
      have w1' : IntKind.i64.wrap (k : Int) = (k : Int) := IntWalk.i64_in _ ⟨by omega, by omega⟩
      rcases h3 with ⟨e0, _⟩ | ⟨b', _, rfl, hb', hGb'⟩
      · exact absurd e0 hne
      obtain ⟨A, x, rfl⟩ : ∃ A x, es = A ++ [x] := ⟨es.dropLast, es.getLast hne, (List.dropLast_concat_getLast hne).symm⟩
      obtain ⟨a, n⟩ := x
      have hx := h2 (a, n) (by simp)
      dsimp only at hx
      rw [List.map_append, List.flatten_append, show (List.map exE [(a, n)]).flatten = [ci a, ci n] from rfl] at hGb'
      have hXl := flat_exE A
      obtain ⟨X, hX⟩ : ∃ X, X = (A.map exE).flatten := ⟨_, rfl⟩
      rw [← hX] at hGb' hXl
      have hA4 : A.length ≤ 4096 := by simp at h1; omega
      have w8 : IntKind.i64.wrap (A.length : Int) = (A.length : Int) := IntWalk.i64_in _ ⟨by omega, by omega⟩
      have w9 : IntKind.i64.wrap (n + 1) = n + 1 := IntWalk.i64_in _ ⟨by omega, by omega⟩
      have hgx : ∀ (h : A.length * 2 + 1 < (X ++ [ci a, ci n]).length), (X ++ [ci a, ci n])[A.length * 2 + 1] = ci n := fun h => by
        rw [List.getElem_append_right (by omega)]; simp [hXl]
      have htk : (X ++ [ci a, ci n]).take (A.length * 2 + 1) = X ++ [ci a] := by
        rw [List.take_append, List.take_of_length_le (by omega), hXl, Nat.add_sub_cancel_left]; rfl
      have hdr : (X ++ [ci a, ci n]).drop (A.length * 2 + 1 + 1) = [] := List.drop_eq_nil_of_le (by simp [hXl])
      simp -implicitDefEqProofs [go_sem, hbx_of hGb, q3, q4, w1, w1', hM]
      refine ⟨by omega, by omega, ?_⟩
      refine Wp.s ?_
      simp -implicitDefEqProofs [go_sem, hbx_of hGb', hgx, w8, w9, htk, hdr, hXl]
      refine ⟨by omega, Wp.s ?_⟩
      have w10 : IntKind.i64.wrap ((k : Int) + 1 + 1) = (k : Int) + 1 + 1 := IntWalk.i64_in _ ⟨by omega, by omega⟩
      simp -implicitDefEqProofs [go_sem, w10]
      have hbG : b' < G.length := (List.getElem?_eq_some_iff.1 hGb').1
      refine ⟨k + 2, .bsa b' (A.length + 1) 2, G.set b' (some (X ++ [ci a, ci (n + 1)])), ⟨by omega, A ++ [(a, n + 1)], by simpa using by simp at h1; omega, fun e he => ?_, .inr ⟨b', by simp, by simp, hb', ?_⟩, by rw [List.take_set_of_le hb']; exact h4, fun _ _ => by simp⟩, by omega, Sh.forget ?_ ?_ rfl⟩
      · rcases List.mem_append.1 he with he | he
        · have := h2 e (List.mem_append_left _ he); omega
        · obtain rfl : e = (a, n + 1) := by simpa using he
          dsimp only; omega
      · rw [List.getElem?_set_self hbG, List.map_append, List.flatten_append, ← hX]; rfl
      · simp [go_sem]
        exact .of_eq (by rw [show (k : Int) + 2 = (k : Int) + 1 + 1 by omega])
      · simp
    · rcases Nat.eq_zero_or_pos i with rfl | hpos
      · obtain rfl : es = [] := List.eq_nil_of_length_eq_zero (by omega)
        rcases h3 with ⟨_, rfl⟩ | ⟨b', hne, _⟩
        case inr => exact absurd rfl hne
        simp -implicitDefEqProofs [go_sem]
        refine SWp.condF (by simp [go_sem]) ?_
        refine SWp.opx (pre := [_, _, _, _]) (post := [_]) rfl (by intro c e; cases e) ?_
        simp -implicitDefEqProofs [go_sem]
        refine ⟨_, _, _, appboxN (sz := 2) (tk := .ti) (ys := [[ci 0, ci 1]]) slTy150 slTy150 (by decide) rfl rfl (by simp) (by simp), ?_⟩
        simp -implicitDefEqProofs [go_sem]
        refine Wp.s ?_
        simp -implicitDefEqProofs [go_sem]
        refine ⟨1, .bsa G.length 1 2, G ++ [some [ci 0, ci 1]], ⟨by omega, [(0, 1)], by simp, fun e he => ?_, .inr ⟨G.length, by simp, by simp, hGl, at_len _ _⟩, by rw [List.take_append_of_le_length hGl]; exact h4, fun _ _ => by simp⟩, by omega, Sh.forget ?_ rfl rfl⟩
        · obtain rfl : e = (0, 1) := by simpa using he
          dsimp only; omega
        · simp [go_sem]; exact .refl _
      · obtain ⟨k, rfl⟩ : ∃ k, i = k + 1 := ⟨i - 1, by omega⟩
        have q3 : k < M.length := by omega
        have q4 : M[k] = false := by
          have : ¬ M[k]? = some true := fun q => hq ⟨hpos, by rw [Nat.add_sub_cancel]; exact q⟩
          rw [List.getElem?_eq_getElem q3] at this
          simpa using this
        have w1 : IntKind.i64.wrap ((k : Int) + 1 - 1) = (k : Int) := by rw [IntWalk.i64_in _ ⟨by omega, by omega⟩]; omega
        have w1' : IntKind.i64.wrap (k : Int) = (k : Int) := IntWalk.i64_in _ ⟨by omega, by omega⟩
        have w10 : IntKind.i64.wrap ((k : Int) + 1 + 1) = (k : Int) + 1 + 1 := IntWalk.i64_in _ ⟨by omega, by omega⟩
        simp -implicitDefEqProofs [go_sem, hbx_of hGb, q3, q4, w1, w1', hM]
        refine ⟨by omega, by omega, ?_⟩
        rcases h3 with ⟨rfl, rfl⟩ | ⟨b', hne, rfl, hb', hGb'⟩
        · refine SWp.condF (by simp [go_sem]) ?_
          refine SWp.opx (pre := [_, _, _, _]) (post := [_]) rfl (by intro c e; cases e) ?_
          simp -implicitDefEqProofs [go_sem]
          refine ⟨_, _, _, appboxN (sz := 2) (tk := .ti) (ys := [[ci ((k : Int) + 1), ci 1]]) slTy150 slTy150 (by decide) rfl rfl (by simp) (by simp), ?_⟩
          simp -implicitDefEqProofs [go_sem]
          refine Wp.s ?_
          simp -implicitDefEqProofs [go_sem, w10]
          refine ⟨k + 2, .bsa G.length 1 2, G ++ [some [ci ((k : Int) + 1), ci 1]], ⟨by omega, [((k : Int) + 1, 1)], by simp, fun e he => ?_, .inr ⟨G.length, by simp, by simp, hGl, at_len _ _⟩, by rw [List.take_append_of_le_length hGl]; exact h4, fun _ _ => by simp⟩, by omega, Sh.forget ?_ rfl rfl⟩
          · obtain rfl : e = ((k : Int) + 1, 1) := by simpa using he
            dsimp only; omega
          · simp [go_sem]; exact .of_eq (by rw [show (k : Int) + 2 = (k : Int) + 1 + 1 by omega])
        · have hXl := flat_exE es
          obtain ⟨X, hX⟩ : ∃ X, X = (es.map exE).flatten := ⟨_, rfl⟩
          rw [← hX] at hGb' hXl
          have hbG : b' < G.length := (List.getElem?_eq_some_iff.1 hGb').1
          refine Wp.s ?_
          simp -implicitDefEqProofs [go_sem, hbx_of hGb', hXl]
          refine ⟨by omega, Wp.s ?_⟩
          simp -implicitDefEqProofs [go_sem, w10]
          refine ⟨k + 2, .bsa G.length (es.length + 1) 2, G.set b' none ++ [some (X ++ [ci ((k : Int) + 1), ci 1])], ⟨by omega, es ++ [((k : Int) + 1, 1)], by simpa using h1, fun e he => ?_, .inr ⟨G.length, by simp, by simp, hGl, ?_⟩, by rw [List.take_append_of_le_length (by simpa using hGl), List.take_set_of_le hb']; exact h4, fun _ _ => by simp⟩, by omega, Sh.forget ?_ rfl rfl⟩
          · rcases List.mem_append.1 he with he | he
            · have := h2 e he; omega
            · obtain rfl : e = ((k : Int) + 1, 1) := by simpa using he
              dsimp only; omega
          · rw [set_lastX, List.map_append, List.flatten_append, ← hX]; rfl
          · simp [go_sem]; exact .of_eq (by rw [show (k : Int) + 2 = (k : Int) + 1 + 1 by omega])
  rintro ⟨cv, G⟩ ⟨es, h1, h2, h3, h4⟩
  dsimp only at h1 h2 h3 h4 ⊢
  refine Wp.s ?_
  simp -implicitDefEqProofs [go_sem]
  rcases h3 with ⟨rfl, rfl⟩ | ⟨b', hne, rfl, hb', hGb'⟩
  · exact Fin.pure (r' := .sl .sh 2 []) ⟨[], rfl, h1, h2, rfl, rfl⟩ h4 (by simp) (.nil 2 (by decide)) (by simp [go_sem, okE]) hokH
  · exact Fin.froz (xs := es.map exE) (b := b') (o := 0) (n := es.length) ⟨es, rfl, h1, h2, rfl, rfl⟩ (.bsa _ _ _) hGb' (by rw [List.drop_zero, chunks_exE]) (by rw [flat_exE]; omega) hb' (okE_exE _ _ _) hokH h4 (by simp)
end Go.Proofs.YtpadnceoacbaeaaGreat
namespace Go.Proofs.YtpadnceoacbaeaaGreat
open Go.Proofs
theorem flat_rep (n : Nat) : (List.replicate n [CV.v (.bool false)]).flatten = (List.replicate n false).map cbo := by
  induction n with
  | zero => rfl
  | succ n ih => rw [List.replicate_succ, List.flatten_cons, ih, List.replicate_succ, List.map_cons]; rfl
set_option maxRecDepth 8000 in
theorem extents_cc (H : Hp) (V : List Nat) (ws : List Wr) (v : Int) (hn : ws.length ≤ 1000000) (hw : WrF ws) : CC Tryz.prog 120 [.sl .sh 3 (ws.map wrC), ci v] H V (ExR H V) := by
  refine CC.of_swp Tryz.func120 rfl (by kernel_rfl) (by rw [Tryz.ntmps120]; exact len_le _ _ rfl) fun hok hokH => ?_
  clear hok
  refine SWp.seq (Wp.s ?_)
  simp -implicitDefEqProofs [go_sem, args0]
  refine SWp.seq (Wp.s ?_)
  simp -implicitDefEqProofs [go_sem, -List.reduceReplicate]
  have hr : List.replicate 4096 (CV.v (.bool false)) = (List.replicate 4096 false).map cbo := by rw [List.map_replicate]
  rw [hr]
  have hl0 : (List.replicate 4096 false).length = 4096 := List.length_replicate
  generalize List.replicate 4096 false = M0 at hl0 ⊢
  refine SWp.join (α := List Bool) (fun M => ([(5, .bsl H.length 0 4096 1)], H ++ [some (M.map cbo)], V)) (fun M => M.length = 4096) ?_ ?_
  · refine SWp.seq (Wp.s ?_)
    simp -implicitDefEqProofs [go_sem]
    refine SWp.block ?_
    refine SWp.loop (α := Nat × List Bool) (fun x => ([(0, .sl .sh 3 (ws.map wrC)), (1, ci v), (5, .bsl H.length 0 4096 1), (6, ci x.1)], H ++ [some (x.2.map cbo)], V)) (fun x => x.1 ≤ ws.length ∧ x.2.length = 4096) (fun x => ws.length - x.1) (0, M0) ⟨Nat.zero_le _, hl0⟩ (Sh.forget (by simp [go_sem]) rfl rfl) ?_
    rintro ⟨i, M⟩ ⟨hi, hM⟩
    dsimp only at hi hM ⊢
    refine SWp.seq (SWp.seq (Wp.s ?_))
    simp -implicitDefEqProofs [go_sem]
    refine Wp.s ?_
    simp -implicitDefEqProofs [go_sem]
    refine ⟨fun h => ?_, fun h => ⟨M, hM, Sh.forget (by simp [go_sem]) rfl rfl⟩⟩
    have hwi := hw _ (List.getElem_mem h)
    refine SWp.seq (SWp.block (SWp.seq (Wp.s ?_)))
    by_cases hv : ws[i].volume = v
    · simp -implicitDefEqProofs [go_sem, h, hv]
      refine SWp.condT (by simp [go_sem]) ?_
      refine SWp.drawnT [] [13] (.s 0 .pl <| .s 1 .pl <| .s 2 .pl <| .s 3 .pl <| .s 4 .pl <| .s 5 .ld <| .s 6 .pl <| .s 7 .pl <| .s 8 .pl <| .s 9 .pl <| .s 10 .ld <| .s 11 .pl <| .s 12 .pl <| .s 13 .st <| .n) (by kernel_rfl) (by kernel_rfl) ?_
      simp -implicitDefEqProofs [go_sem, h]
      refine CC.mono (add_cc _ _ H.length M ws[i].start ws[i].data.length hM (at_len _ _) hwi.1 hwi.2.1 (by omega) (by omega)) ?_
      rintro _ _ _ ⟨M', hM', rfl, rfl⟩
      simp -implicitDefEqProofs [go_sem]
      refine Wp.s ?_
      simp -implicitDefEqProofs [go_sem]
      refine ⟨i + 1, M', ⟨by omega, hM'⟩, by omega, Sh.forget ?_ (by simp) rfl⟩
      simp [go_sem, wrap_succ (show i ≤ 1000000000 by omega)]
    · simp -implicitDefEqProofs [go_sem, h, hv]
      refine Wp.s ?_
      simp -implicitDefEqProofs [go_sem]
      refine Wp.s ?_
      simp -implicitDefEqProofs [go_sem]
      refine ⟨i + 1, M, ⟨by omega, hM⟩, by omega, Sh.forget ?_ rfl rfl⟩
      simp [go_sem, wrap_succ (show i ≤ 1000000000 by omega)]
  intro M hM
  dsimp only
  refine SWp.seq (Wp.s ?_)
  simp -implicitDefEqProofs [go_sem]
  refine CC.mono (list01_cc _ _ H.length M hM (at_len _ _)) ?_
  rintro _ _ _ ⟨es, rfl, h1, h2, rfl, rfl⟩
  simp -implicitDefEqProofs [go_sem]
  refine Wp.s ?_
  simp -implicitDefEqProofs [go_sem]
  exact Fin.pure (r' := .sl .sh 2 (es.map exE)) ⟨es, rfl, h1, h2, rfl, rfl⟩ (by simp) (by simp) (.refl _) (by rw [okV_sh]; exact okE_exE _ _ _) hokH
end Go.Proofs.YtpadnceoacbaeaaGreat
namespace Go.Proofs.YtpadnceoacbaeaaGreat
open Go.Proofs
def PkR (n : Nat) (H : Hp) (V : List Nat) : CV → Hp → List Nat → Prop := fun r H' V' => ∃ L : List Wr, L.length = n ∧ (∀ w ∈ L, w.data.length ≤ 4096) ∧ ∃ k, r = .sl (.own V.length k) 3 (L.map wrC) ∧ H = H' ∧ V' = V ++ [k]
set_option maxRecDepth 8000 in
theorem pick_cc (H : Hp) (V : List Nat) (ws : List Wr) (v : Int) (es : List (Int × Int)) (hn : ws.length ≤ 1000000) (hw : WrF ws) (he1 : es.length ≤ 4096) (he2 : ExF 4096 es) : CC Tryz.prog 119 [.sl .sh 3 (ws.map wrC), ci v, .sl .sh 2 (es.map exE)] H V (PkR es.length H V) := by
  refine CC.of_swp Tryz.func119 rfl (by kernel_rfl) (by rw [Tryz.ntmps119]; exact len_le _ _ rfl) fun hok hokH => ?_
  clear hok
  refine SWp.seq (Wp.s ?_)
  simp -implicitDefEqProofs [go_sem, args0]
  refine SWp.seq (Wp.s ?_)
  simp -implicitDefEqProofs [go_sem]
  refine SWp.join (α := List Wr × Nat) (fun x => ([(7, .sl (.own V.length x.2) 3 (x.1.map wrC))], H, V ++ [x.2])) (fun x => x.1.length = es.length ∧ ∀ w ∈ x.1, w.data.length ≤ 4096) ?_ ?_
  · refine SWp.seq (Wp.s ?_)
    simp -implicitDefEqProofs [go_sem]
    refine SWp.block ?_
    refine SWp.loop (α := Nat × List Wr × Nat) (fun x => ([(0, .sl .sh 3 (ws.map wrC)), (1, ci v), (2, .sl .sh 2 (es.map exE)), (7, .sl (.own V.length x.2.2) 3 (x.2.1.map wrC)), (8, ci x.1)], H, V ++ [x.2.2])) (fun x => x.1 ≤ es.length ∧ x.2.1.length = x.1 ∧ ∀ w ∈ x.2.1, w.data.length ≤ 4096) (fun x => es.length - x.1) (0, [], 0) ⟨Nat.zero_le _, rfl, fun w h => by cases h⟩ (Sh.tokT (by simp [go_sem]) rfl rfl) ?_
    rintro ⟨i, L, k⟩ ⟨hi, hL, hLw⟩
    dsimp only at hi hL hLw ⊢
    refine SWp.seq (SWp.seq (Wp.s ?_))
    simp -implicitDefEqProofs [go_sem]
    refine Wp.s ?_
    simp -implicitDefEqProofs [go_sem]
    refine ⟨fun h => ?_, fun h => ⟨L, ⟨by omega, hLw⟩, k, Sh.forget (by simp [go_sem]) rfl rfl⟩⟩
    obtain ⟨x1, x2, x3, x4⟩ := he2 _ (List.getElem_mem h)
    refine SWp.seq (SWp.block (SWp.seq (Wp.s ?_)))
    simp -implicitDefEqProofs [go_sem, h, exE]
    refine SWp.join (α := List Sec × Nat) (fun x => ([(0, .sl .sh 3 (ws.map wrC)), (1, ci v), (2, .sl .sh 2 (es.map exE)), (7, .sl (.own V.length k) 3 (L.map wrC)), (8, ci i), (9, .ptr H.length 0)], H ++ [some [ci v, ci es[i].1, .sl (.own (V.length + 1) x.2) 8 (x.1.map secC)]], V ++ [k, x.2])) (fun x => x.1.length ≤ 4096) ?_ ?_
    · refine SWp.seq (Wp.s ?_)
      simp -implicitDefEqProofs [go_sem]
      refine SWp.block ?_
      refine SWp.loop (α := Nat × List Sec × Nat) (fun x => ([(0, .sl .sh 3 (ws.map wrC)), (1, ci v), (2, .sl .sh 2 (es.map exE)), (7, .sl (.own V.length k) 3 (L.map wrC)), (8, ci i), (9, .ptr H.length 0), (10, ci x.1)], H ++ [some [ci v, ci es[i].1, .sl (.own (V.length + 1) x.2.2) 8 (x.2.1.map secC)]], V ++ [k, x.2.2])) (fun x => (x.1 : Int) ≤ es[i].2 ∧ x.2.1.length = x.1) (fun x => es[i].2.toNat - x.1) (0, [], 0) ⟨x3, rfl⟩ (Sh.tokL (b := H.length) (ds := [ci v, ci es[i].1, .sl (.own (V.length + 1) 0) 8 []]) (at_len _ _) (by simp [go_sem]) (by simp [CV.isObj]) (by simp [go_sem]) (by simp) (by simp)) ?_
      rintro ⟨j, S, u⟩ ⟨hj, hS⟩
      dsimp only at hj hS ⊢
      have w1 : IntKind.i64.wrap (es[i].1 + (j : Int)) = es[i].1 + (j : Int) := IntWalk.i64_in _ ⟨by omega, by omega⟩
      refine SWp.seq (SWp.seq (Wp.s ?_))
      by_cases hjn : (j : Int) < es[i].2
      case neg =>
        simp -implicitDefEqProofs [go_sem, h, hjn, exE]
        refine Wp.s ?_
        simp -implicitDefEqProofs [go_sem]
        exact ⟨S, by omega, u, Sh.forget (by simp [go_sem]) rfl rfl⟩
      simp -implicitDefEqProofs [go_sem, h, hjn, exE]
      refine Wp.s ?_
      simp -implicitDefEqProofs [go_sem]
      refine SWp.seq (SWp.block (SWp.seq (Wp.s ?_)))
      simp -implicitDefEqProofs [go_sem, h, exE, w1]
      refine CC.mono (Lookup_cc _ _ .sh ws v (es[i].1 + (j : Int)) hn hw (by omega)) ?_
      rintro _ _ _ ⟨sx, bx, rfl, rfl, rfl⟩
      simp -implicitDefEqProofs [go_sem]
      refine Wp.s ?_
      simp -implicitDefEqProofs [go_sem]
      refine ⟨by omega, Wp.s ?_⟩
      simp -implicitDefEqProofs [go_sem, wrap_succ (show j ≤ 1000000000 by omega)]
      refine ⟨j + 1, S ++ [sx], ⟨by omega, by simp [hS]⟩, by omega, u + 1, ?_⟩
      exact Sh.trim (L := [some [ci v, ci es[i].1, .sl (.own (V.length + 1) (u + 1)) 8 ((S ++ [sx]).map secC)]]) (by simp [go_sem]) (by simp [go_sem, okE_exE, okV_sh, okE_wrs]) hokH (by simp [go_sem, okE_secs, -List.map_append]) (by simp) (by simp) (by simp)
    rintro ⟨S, u⟩ hS
    dsimp only at hS ⊢
    refine Wp.s ?_
    simp -implicitDefEqProofs [go_sem]
    refine ⟨by omega, Wp.s ?_⟩
    simp -implicitDefEqProofs [go_sem, wrap_succ (show i ≤ 1000000000 by omega)]
    refine ⟨i + 1, L ++ [⟨v, es[i].1, S⟩], ⟨by omega, by simp [hL], fun w hwm => ?_⟩, by omega, k + 1, ?_⟩
    · rcases List.mem_append.1 hwm with hwm | hwm
      · exact hLw w hwm
      · obtain rfl : w = _ := by simpa using hwm
        exact hS
    refine Sh.geT (T1 := [(0, .sl .sh 3 (ws.map wrC)), (1, ci v), (2, .sl .sh 2 (es.map exE)), (7, .sl (.own V.length (k + 1)) 3 ((L ++ [Wr.mk v es[i].1 S]).map wrC)), (8, ci (i + 1 : Nat))]) (GLe.get ?_) ?_
    · rw [List.map_append]
      simp [go_sem, -List.map_append]
      exact Ge.slk (LeE.snoc _ (.cons (.refl _) (.cons (.refl _) (.cons (.sh ..) .nil))))
    · exact Sh.cut H.length (V.length + 1) (by simp [go_sem]) (Nat.le_refl _) (by omega) (TOk.all (by simp [go_sem, okV_sh, okE_wrs, okE_exE, -List.map_append])) (fun b cs hb => okL_mono (Nat.le_refl _) (by omega) (hokH b cs hb)) (by simp) (by simp)
  rintro ⟨L, k⟩ ⟨h1, h2⟩
  dsimp only at h1 h2 ⊢
  refine Wp.s ?_
  simp -implicitDefEqProofs [go_sem]
  exact Fin.cut H.length (V.length + 1) ⟨L, h1, h2, k, rfl, rfl, rfl⟩ (Nat.le_refl _) (Nat.le_succ _) (by simp) (by simp) (.refl _) (by simp [go_sem, okE_wrs]) (fun b cs hb => okL_mono (Nat.le_refl _) (by omega) (hokH b cs hb))
end Go.Proofs.YtpadnceoacbaeaaGreat
namespace Go.Proofs.YtpadnceoacbaeaaGreat
open Go.Proofs
def FoR (H : Hp) (V : List Nat) : CV → Hp → List Nat → Prop := fun r H' V' => ∃ (L : List Wr) (e : Nat), L.length ≤ 40000 ∧ (∀ w ∈ L, w.data.length ≤ 4096) ∧ r = .tup [.sl .sh 3 (L.map wrC), er e] ∧ H = H' ∧ V = V'
set_option maxRecDepth 8000 in
theorem Fold_cc (H : Hp) (V : List Nat) (ws : List Wr) (hn : ws.length ≤ 1000000) (hw : WrS ws) : CC Tryz.prog 95 [.sl .sh 3 (ws.map wrC)] H V (FoR H V) := by
  refine CC.of_swp Tryz.func95 rfl (by kernel_rfl) (by rw [Tryz.ntmps95]; exact len_le _ _ rfl) fun hok hokH => ?_
  clear hok
  have m0 : ∀ n ∈ mostS, 1 ≤ n ∧ n ≤ 4096 := by decide
  refine SWp.seq (Wp.s ?_)
  simp -implicitDefEqProofs [go_sem, args0]
  refine SWp.join (α := Unit) (fun _ => ([(0, .sl .sh 3 (ws.map wrC))], H, V)) (fun _ => WrF ws) ?_ ?_
  · refine SWp.seq (Wp.s ?_)
    simp -implicitDefEqProofs [go_sem]
    refine SWp.block ?_
    refine SWp.loop (α := Nat) (fun i => ([(0, .sl .sh 3 (ws.map wrC)), (4, ci i)], H, V)) (fun i => i ≤ ws.length ∧ WrF (ws.take i)) (fun i => ws.length - i) 0 ⟨Nat.zero_le _, fun w h => by simp at h⟩ (Sh.forget (by simp [go_sem]) rfl rfl) ?_
    rintro i ⟨hi, hF⟩
    dsimp only at hi hF ⊢
    refine SWp.seq (SWp.seq (Wp.s ?_))
    simp -implicitDefEqProofs [go_sem]
    refine Wp.s ?_
    simp -implicitDefEqProofs [go_sem]
    refine ⟨fun h => ?_, fun h => ⟨by rwa [List.take_of_length_le h] at hF, Sh.forget (by simp [go_sem]) rfl rfl⟩⟩
    have hwi := hw _ (List.getElem_mem h)
    refine SWp.seq (SWp.block (SWp.seq ?_))
    refine SWp.drawnT [] [] (.s 1 .pl <| .s 2 .pl <| .s 3 .pl <| .s 4 .pl <| .s 0 .pl <| .s 5 .pl <| .s 6 .pl <| .n) (by kernel_rfl) (by kernel_rfl) ?_
    simp -implicitDefEqProofs [go_sem, h]
    refine CC.mono (most_cc _ _) ?_
    rintro _ _ _ ⟨v0, rfl, rfl, rfl⟩
    simp -implicitDefEqProofs [go_sem]
    refine CC.mono (refFits_cc _ _ _ mostS ws[i] (by decide) m0 (by omega)) ?_
    rintro _ _ _ ⟨rfl, rfl, rfl⟩
    simp -implicitDefEqProofs [go_sem]
    refine SWp.seq (Wp.s ?_)
    by_cases hf : fitsS mostS ws[i] = 0
    case neg =>
      simp -implicitDefEqProofs [go_sem, hf]
      refine Wp.s ?_
      simp -implicitDefEqProofs [go_sem]
      exact Fin.pure (r' := .tup [.sl .sh 3 [], er (fitsS mostS ws[i])]) ⟨[], _, Nat.zero_le _, (fun w h => by cases h), rfl, rfl, rfl⟩ (by simp) (by simp) (.tup (.cons (.nil 3 (by decide)) (.cons (.refl _) .nil))) (by simp [go_sem, okE]) hokH
    obtain ⟨q1, q2, q3, q4, q5⟩ := fitsS_0 (by decide) hf
    simp -implicitDefEqProofs [go_sem, hf]
    refine Wp.s ?_
    simp -implicitDefEqProofs [go_sem]
    refine Wp.s ?_
    simp -implicitDefEqProofs [go_sem]
    refine ⟨i + 1, ⟨by omega, fun w hwm => ?_⟩, by omega, ?_⟩
    · rw [List.take_succ_eq_append_getElem h] at hwm
      rcases List.mem_append.1 hwm with hwm | hwm
      · exact hF w hwm
      · obtain rfl : w = _ := by simpa using hwm
        exact ⟨q4, by omega, by omega⟩
    · exact Sh.cut H.length V.length (by simp [go_sem, wrap_succ (show i ≤ 1000000000 by omega)]) (Nat.le_refl _) (Nat.le_refl _) (TOk.all (by simp [go_sem, okV_sh, okE_wrs])) (by simpa using hokH) (by simp) (by simp)
  rintro _ hF
  dsimp only
  refine SWp.seq (Wp.s ?_)
  simp -implicitDefEqProofs [go_sem]
  refine SWp.join (α := List Wr × Nat) (fun x => ([(6, .sl (.own V.length x.2) 3 (x.1.map wrC))], H, V ++ [x.2])) (fun x => x.1.length ≤ 40000 ∧ ∀ w ∈ x.1, w.data.length ≤ 4096) ?_ ?_
  · refine SWp.seq (Wp.s ?_)
    simp -implicitDefEqProofs [go_sem]
    refine SWp.block ?_
    refine SWp.loop (α := Nat × List Wr × Nat) (fun x => ([(0, .sl .sh 3 (ws.map wrC)), (6, .sl (.own V.length x.2.2) 3 (x.2.1.map wrC)), (7, ci x.1)], H, V ++ [x.2.2])) (fun x => x.1 ≤ 8 ∧ x.2.1.length ≤ 4096 * x.1 ∧ ∀ w ∈ x.2.1, w.data.length ≤ 4096) (fun x => 8 - x.1) (0, [], 0) ⟨Nat.zero_le _, Nat.zero_le _, fun w h => by cases h⟩ (Sh.tokT (by simp [go_sem]) rfl rfl) ?_
    rintro ⟨i, L, k⟩ ⟨hi, hL, hLw⟩
    dsimp only at hi hL hLw ⊢
    refine SWp.seq (SWp.seq (Wp.s ?_))
    by_cases h : i < 8
    case neg =>
      have h' : ¬ (i : Int) < 8 := by omega
      simp -implicitDefEqProofs [go_sem, h']
      refine Wp.s ?_
      simp -implicitDefEqProofs [go_sem]
      exact ⟨L, ⟨by omega, hLw⟩, k, Sh.forget (by simp [go_sem]) rfl rfl⟩
    have h' : (i : Int) < 8 := by omega
    simp -implicitDefEqProofs [go_sem, h']
    refine Wp.s ?_
    simp -implicitDefEqProofs [go_sem]
    refine SWp.seq (SWp.block (Wp.s ?_))
    simp -implicitDefEqProofs [go_sem]
    refine CC.mono (extents_cc _ _ ws (i : Int) hn hF) ?_
    rintro _ _ _ ⟨es, rfl, e1, e2, rfl, rfl⟩
    simp -implicitDefEqProofs [go_sem]
    refine CC.mono (pick_cc _ _ ws (i : Int) es hn hF e1 e2) ?_
    rintro _ _ _ ⟨P, hP, hPw, u, rfl, rfl, rfl⟩
    simp -implicitDefEqProofs [go_sem]
    refine ⟨by omega, Wp.s ?_⟩
    simp -implicitDefEqProofs [go_sem, wrap_succ (show i ≤ 1000000000 by omega)]
    refine ⟨i + 1, L ++ P, ⟨by omega, by rw [List.length_append]; omega, fun w hwm => ?_⟩, by omega, k + 1, ?_⟩
    · rcases List.mem_append.1 hwm with hwm | hwm
      · exact hLw w hwm
      · exact hPw w hwm
    · exact Sh.cut H.length (V.length + 1) (by simp [go_sem]) (Nat.le_refl _) (by omega) (TOk.all (by simp [go_sem, okV_sh, okE_wrs, -List.map_append])) (fun b cs hb => okL_mono (Nat.le_refl _) (by omega) (hokH b cs (by simpa using hb))) (by simp) (by simp)
  rintro ⟨L, k⟩ ⟨h1, h2⟩
  dsimp only at h1 h2 ⊢
  refine Wp.s ?_
  simp -implicitDefEqProofs [go_sem]
  exact Fin.pure (r' := .tup [.sl .sh 3 (L.map wrC), er 0]) ⟨L, 0, h1, h2, rfl, rfl, rfl⟩ (by simp) (by simp) (.tup (.cons (.sh ..) (.cons (.refl _) .nil))) (by simp [go_sem, okE_wrs]) hokH
end Go.Proofs.YtpadnceoacbaeaaGreat
namespace Go.Proofs.YtpadnceoacbaeaaGreat
open Go.Proofs
def gapB (l : List Bool) : Bool := l.contains false
def gapT (l : List Bool) (i : Nat) : Bool := (l.take i).contains false
theorem gapT_step {l : List Bool} {i : Nat} (h : i < l.length) (h1 : gapT l i = false) (h2 : l[i] = true) : gapT l (i + 1) = false := by
  unfold gapT at *
  rw [List.take_succ_eq_append_getElem h, h2, Bool.eq_false_iff]
  rw [Bool.eq_false_iff] at h1
  simpa using h1
theorem gapB_at {l : List Bool} {i : Nat} (h : i < l.length) (h2 : l[i] = false) : gapB l = true := List.contains_iff_mem.2 (h2 ▸ List.getElem_mem h)
theorem gapB_all {l : List Bool} {i : Nat} (h : l.length ≤ i) (h1 : gapT l i = false) : gapB l = false := by
  unfold gapT at h1; rwa [List.take_of_length_le h] at h1
theorem indexBo_cc (H : Hp) (V : List Nat) (tk : Tk) (l : List Bool) (hl : l.length ≤ 1000000000) : CC Tryz.prog 121 [.sl tk 1 (l.map boE), .v (.bool false)] H V (Ix (gapB l) H V) := by
  refine CC.of_swp Tryz.func121 rfl (by kernel_rfl) (by rw [Tryz.ntmps121]; exact len_le _ _ rfl) fun hok hokH => ?_
  clear hok
  refine SWp.seq (Wp.s ?_)
  simp -implicitDefEqProofs [go_sem, args0]
  refine SWp.join (α := Unit) (fun _ => ([], H, V)) (fun _ => gapB l = false) ?_ ?_
  · refine SWp.seq (Wp.s ?_)
    simp -implicitDefEqProofs [go_sem]
    refine SWp.block ?_
    refine SWp.loop (α := Nat) (fun i => ([(0, .sl tk 1 (l.map boE)), (1, .v (.bool false)), (7, ci l.length), (8, ci i)], H, V)) (fun i => i ≤ l.length ∧ gapT l i = false) (fun i => l.length - i) 0 ⟨Nat.zero_le _, rfl⟩
      (Sh.forget (by simp [go_sem]) rfl rfl) ?_
    rintro i ⟨hi, hp⟩
    dsimp only
    refine SWp.seq (Wp.s ?_)
    simp -implicitDefEqProofs [go_sem]
    refine SWp.seq (Wp.s ?_)
    simp -implicitDefEqProofs [go_sem]
    refine ⟨fun h => ?_, fun h => ⟨gapB_all h hp, Sh.forget (by simp [go_sem]) rfl rfl⟩⟩
    · refine SWp.seq (SWp.block (SWp.seq (Wp.s ?_)))
      simp -implicitDefEqProofs [go_sem, h]
      refine SWp.seq (Wp.s ?_)
      cases hq : l[i]
      · simp -implicitDefEqProofs [go_sem, h, hq]
        refine Wp.s ?_
        simp -implicitDefEqProofs [go_sem]
        exact Fin.ix (by rw [decide_eq_true (by omega)]; exact (gapB_at h hq).symm) hokH (by simp) (by simp)
      · simp -implicitDefEqProofs [go_sem, h, hq]
        refine Wp.s ?_
        simp -implicitDefEqProofs [go_sem]
        refine Wp.s ?_
        simp -implicitDefEqProofs [go_sem]
        refine ⟨i + 1, ⟨by omega, gapT_step h hp hq⟩, by omega, Sh.forget ?_ rfl rfl⟩
        simp [go_sem, wrap_big (show i < 9223372036854775807 by omega)]
  · rintro _ hp
    dsimp only
    refine SWp.seq (Wp.s ?_)
    simp -implicitDefEqProofs [go_sem]
    refine Wp.s ?_
    simp -implicitDefEqProofs [go_sem]
    exact Fin.ix (by rw [hp]; rfl) hokH (by simp) (by simp)
theorem containsBo_cc (H : Hp) (V : List Nat) (tk : Tk) (l : List Bool) (hl : l.length ≤ 1000000000) : CC Tryz.prog 96 [.sl tk 1 (l.map boE), .v (.bool false)] H V (Pu (.v (.bool (gapB l))) H V) := by
  refine CC.of_swp Tryz.func96 rfl (by kernel_rfl) (by rw [Tryz.ntmps96]; exact len_le _ _ rfl) fun hok hokH => ?_
  clear hok
  refine SWp.seq (Wp.s ?_)
  simp -implicitDefEqProofs [go_sem, args0]
  refine SWp.seq (Wp.s ?_)
  simp -implicitDefEqProofs [go_sem]
  refine CC.mono (indexBo_cc _ _ _ l hl) ?_
  rintro _ _ _ ⟨k, rfl, hk, rfl, rfl⟩
  simp -implicitDefEqProofs [go_sem]
  refine Wp.s ?_
  simp -implicitDefEqProofs [go_sem]
  exact Fin.bool hk hokH (by simp) (by simp)
/-- Whether a number is among others. -/
def hasI (l : List Int) (a : Int) : Bool := l.contains a
def hasT (l : List Int) (a : Int) (i : Nat) : Bool := (l.take i).contains a
theorem hasT_step {l : List Int} {a : Int} {i : Nat} (h : i < l.length) (h1 : hasT l a i = false) (h2 : ¬ a = l[i]) : hasT l a (i + 1) = false := by
  unfold hasT at *
  rw [Bool.eq_false_iff] at h1 ⊢
  intro q
  have := List.contains_iff_mem.1 q
  rw [List.take_succ_eq_append_getElem h, List.mem_append, List.mem_singleton] at this
  rcases this with q | q
  · exact h1 (List.contains_iff_mem.2 q)
  · exact h2 q
theorem hasI_at {l : List Int} {a : Int} {i : Nat} (h : i < l.length) (h2 : a = l[i]) : hasI l a = true := List.contains_iff_mem.2 (h2 ▸ List.getElem_mem h)
theorem hasI_all {l : List Int} {a : Int} {i : Nat} (h : l.length ≤ i) (h1 : hasT l a i = false) : hasI l a = false := by
  unfold hasT at h1; rwa [List.take_of_length_le h] at h1
theorem indexI_cc (H : Hp) (V : List Nat) (tk : Tk) (l : List Int) (a : Int) (hl : l.length ≤ 1000000000) : CC Tryz.prog 122 [.sl tk 1 (l.map ic), ci a] H V (Ix (hasI l a) H V) := by
  refine CC.of_swp Tryz.func122 rfl (by kernel_rfl) (by rw [Tryz.ntmps122]; exact len_le _ _ rfl) fun hok hokH => ?_
  clear hok
  refine SWp.seq (Wp.s ?_)
  simp -implicitDefEqProofs [go_sem, args0]
  refine SWp.join (α := Unit) (fun _ => ([], H, V)) (fun _ => hasI l a = false) ?_ ?_
  · refine SWp.seq (Wp.s ?_)
    simp -implicitDefEqProofs [go_sem]
    refine SWp.block ?_
    refine SWp.loop (α := Nat) (fun i => ([(0, .sl tk 1 (l.map ic)), (1, ci a), (7, ci l.length), (8, ci i)], H, V)) (fun i => i ≤ l.length ∧ hasT l a i = false) (fun i => l.length - i) 0 ⟨Nat.zero_le _, rfl⟩
      (Sh.forget (by simp [go_sem]) rfl rfl) ?_
    rintro i ⟨hi, hp⟩
    dsimp only
    refine SWp.seq (Wp.s ?_)
    simp -implicitDefEqProofs [go_sem]
    refine SWp.seq (Wp.s ?_)
    simp -implicitDefEqProofs [go_sem]
    refine ⟨fun h => ?_, fun h => ⟨hasI_all h hp, Sh.forget (by simp [go_sem]) rfl rfl⟩⟩
    · refine SWp.seq (SWp.block (SWp.seq (Wp.s ?_)))
      simp -implicitDefEqProofs [go_sem, h]
      refine SWp.seq (Wp.s ?_)
      by_cases hq : a = l[i]
      · simp -implicitDefEqProofs [go_sem, h, hq]
        refine Wp.s ?_
        simp -implicitDefEqProofs [go_sem]
        exact Fin.ix (by rw [decide_eq_true (by omega)]; exact (hasI_at h rfl).symm) hokH (by simp) (by simp)
      · simp -implicitDefEqProofs [go_sem, h, hq]
        refine Wp.s ?_
        simp -implicitDefEqProofs [go_sem]
        refine Wp.s ?_
        simp -implicitDefEqProofs [go_sem]
        refine ⟨i + 1, ⟨by omega, hasT_step h hp hq⟩, by omega, Sh.forget ?_ rfl rfl⟩
        simp [go_sem, wrap_big (show i < 9223372036854775807 by omega)]
  · rintro _ hp
    dsimp only
    refine SWp.seq (Wp.s ?_)
    simp -implicitDefEqProofs [go_sem]
    refine Wp.s ?_
    simp -implicitDefEqProofs [go_sem]
    exact Fin.ix (by rw [hp]; rfl) hokH (by simp) (by simp)
theorem containsI_cc (H : Hp) (V : List Nat) (tk : Tk) (l : List Int) (a : Int) (hl : l.length ≤ 1000000000) : CC Tryz.prog 97 [.sl tk 1 (l.map ic), ci a] H V (Pu (.v (.bool (hasI l a))) H V) := by
  refine CC.of_swp Tryz.func97 rfl (by kernel_rfl) (by rw [Tryz.ntmps97]; exact len_le _ _ rfl) fun hok hokH => ?_
  clear hok
  refine SWp.seq (Wp.s ?_)
  simp -implicitDefEqProofs [go_sem, args0]
  refine SWp.seq (Wp.s ?_)
  simp -implicitDefEqProofs [go_sem]
  refine CC.mono (indexI_cc _ _ _ l a hl) ?_
  rintro _ _ _ ⟨k, rfl, hk, rfl, rfl⟩
  simp -implicitDefEqProofs [go_sem]
  refine Wp.s ?_
  simp -implicitDefEqProofs [go_sem]
  exact Fin.bool hk hokH (by simp) (by simp)
end Go.Proofs.YtpadnceoacbaeaaGreat
namespace Go.Proofs.YtpadnceoacbaeaaGreat
open Go.Proofs
/-! ### The run of a plan -/
structure Rn where
  f : Fan
  cyc : List Cyc
  src : List Img
  tgt : List Img
  good : Bool
def iE (x : Img) : List CV := [imV x]
@[go_sem, simp] theorem iE_len (x : Img) : (iE x).length = 1 := rfl
@[go_sem] theorem okL_iE (i j : Nat) (x : Img) : okL i j (iE x) = True := by simp [iE, go_sem, okL, okV]
@[go_sem] theorem okE_imgs (i j : Nat) (l : List Img) : okE i j (l.map iE) = True := eq_true (okE_map iE l fun e => by rw [okL_iE]; trivial)
def rnC (R : Rn) (c s t : CV) : List CV := [ci R.f.limit, .sl .sh 5 (R.f.kept.map cycC), .sl .sh 1 (R.f.app.map ic), .sl .sh 1 (R.f.lost.map boE), c, s, t, cbo R.good]
structure RunAt (b bT kc vc ks vs : Nat) (R : Rn) (H : Hp) (V : List Nat) : Prop where
  box : H[b]? = some (some (rnC R (.sl (.own kc vc) 5 (R.cyc.map cycC)) (.sl (.own ks vs) 1 (R.src.map iE)) (.bsl bT 0 R.tgt.length 1)))
  tg : H[bT]? = some (some (R.tgt.map imV))
  vk : V[kc]? = some vc
  vS : V[ks]? = some vs
  hk : kc ≠ ks
  hb : b ≠ bT
theorem behind_cc (H : Hp) (V : List Nat) (b bT kc vc ks vs : Nat) (R : Rn) (t : Nat) (ht : t < R.f.app.length) (hr : RunAt b bT kc vc ks vs R H V) (hc : R.cyc.length ≤ 1000000) (h0 : 0 ≤ R.f.app[t]) (h1 : R.f.app[t] ≤ 1000000000000) : CC Tryz.prog 30 [.ptr b 0, ci t] H V (Pu (ci ((R.cyc.length : Int) - R.f.app[t])) H V) := by
  refine CC.of_swp Tryz.func30 rfl (by kernel_rfl) (by rw [Tryz.ntmps30]; exact len_le _ _ rfl) fun hok hokH => ?_
  clear hok
  have w1 : IntKind.i64.wrap ((R.cyc.length : Int) - R.f.app[t]) = (R.cyc.length : Int) - R.f.app[t] := IntWalk.i64_in _ ⟨by omega, by omega⟩
  refine SWp.seq (Wp.s ?_)
  simp -implicitDefEqProofs [go_sem, args0]
  refine SWp.seq (SWp.drawnT [] [] (.s 0 .pl <| .s 1 .pl <| .s 2 .pl <| .s 3 .pl <| .s 4 .pl <| .s 5 .pl <| .s 6 .pl <| .s 7 .pl <| .s 8 .pl <| .s 9 .pl <| .s 10 .pl <| .s 11 .pl <| .s 12 .pl <| .s 13 .pl <| .s 14 .pl <| .n) (by kernel_rfl) (by kernel_rfl) ?_)
  simp -implicitDefEqProofs [go_sem, hbx_of hr.box, rnC, ht, w1]
  refine Wp.s ?_
  simp -implicitDefEqProofs [go_sem]
  exact Fin.pu (.refl _) (by simp [go_sem]) hokH (by simp) (by simp)
end Go.Proofs.YtpadnceoacbaeaaGreat
namespace Go.Proofs.YtpadnceoacbaeaaGreat
open Go.Proofs
/-- What stands in the box of a run. -/
def rnB (bT kc vc ks vs : Nat) (R : Rn) : List CV := rnC R (.sl (.own kc vc) 5 (R.cyc.map cycC)) (.sl (.own ks vs) 1 (R.src.map iE)) (.bsl bT 0 R.tgt.length 1)
theorem okL_rnB {i j bT kc vc ks vs : Nat} {R : Rn} (h1 : bT < i) (h2 : kc < j) (h3 : ks < j) : okL i j (rnB bT kc vc ks vs R) := by
  simp [rnB, rnC, okL, okV, go_sem, okE_cycs, okE_ints, okE_bos, okE_imgs, h1, okTk, h2, h3]
theorem RunAt.lt {b bT kc vc ks vs : Nat} {R : Rn} {H : Hp} {V : List Nat} (h : RunAt b bT kc vc ks vs R H V) : b < H.length ∧ bT < H.length ∧ kc < V.length ∧ ks < V.length :=
  ⟨(List.getElem?_eq_some_iff.1 h.box).1, (List.getElem?_eq_some_iff.1 h.tg).1, (List.getElem?_eq_some_iff.1 h.vk).1, (List.getElem?_eq_some_iff.1 h.vS).1⟩
theorem fin_run {H H' : Hp} {V V' : List Nat} {b : Nat} {c : List CV} {r : CV} (hc : okL H.length V.length c) (hokH : ∀ (b : Nat) cs, H[b]? = some (some cs) → okL H.length V.length cs) (h2 : H'.take H.length = H.set b (some c)) (h3 : V'.take V.length = V) : Fin H.length V.length (fun _ H'' V'' => H'' = H.set b (some c) ∧ V = V'') r H' V' := by
  refine ⟨.any, H.set b (some c), V, ?_, rfl, rfl⟩
  refine Gst.trans (T' := [(0, .any)]) (H' := H') (V' := V') (Gst.forget fun p hp => ?_) ?_
  · obtain rfl : p = _ := by simpa using hp
    exact .any _
  · have := Gst.cut (n := 1) (nb := H.length) (nv := V.length) (T := [(0, .any)]) (H := H') (V := V') H.length V.length (Nat.le_refl _) (Nat.le_refl _) (fun p hp => by simp at hp; subst hp; rw [okV]; trivial) (by rw [h2]; exact hset_ok hc hokH)
    rwa [h2, h3] at this
def exF : Except Nat Fan → Fan × Nat
  | .ok f => (f, 0)
  | .error e => (zfan, e)
theorem dvF_eq (x : Except Nat Fan) : dvF x = .tup [.agg (fanC (exF x).1), er (exF x).2] := by cases x <;> rfl
def loseR (R : Rn) (t : Nat) : Rn :=
  let x := exF (loseF R.f t)
  if R.f.lost.getD t false = true then { R with good := R.good && decide (x.2 = 8) }
  else if R.good = true ∧ x.2 = 0 ∧ x.1.app.length = R.tgt.length ∧ x.1.lost.length = R.tgt.length then { R with f := x.1 } else { R with good := false }
set_option maxRecDepth 8000 in
theorem lose_cc (H : Hp) (V : List Nat) (b bT kc vc ks vs : Nat) (R : Rn) (t : Nat) (ht : t < R.f.lost.length) (hr : RunAt b bT kc vc ks vs R H V) (hs : Sm R.f) : CC Tryz.prog 62 [.ptr b 0, ci t] H V (fun _ H'' V'' => H'' = H.set b (some (rnB bT kc vc ks vs (loseR R t))) ∧ V = V'') := by
  refine CC.of_swp Tryz.func62 rfl (by kernel_rfl) (by rw [Tryz.ntmps62]; exact len_le _ _ rfl) fun hok hokH => ?_
  clear hok
  obtain ⟨l1, l2, l3, l4⟩ := hr.lt
  have hbx0 := hr.box
  refine SWp.seq (Wp.s ?_)
  simp -implicitDefEqProofs [go_sem, args0, hbx_of hr.box, rnC]
  refine CC.mono (show CC Tryz.prog 20 [.agg [ci R.f.limit, .sl .sh 5 (R.f.kept.map cycC), .sl .sh 1 (R.f.app.map ic), .sl .sh 1 (R.f.lost.map boE)], ci t] _ _ _ from Lose_cc _ _ R.f t hs) ?_
  rintro _ _ _ ⟨rfl, rfl, rfl⟩
  rw [dvF_eq]
  simp -implicitDefEqProofs [go_sem]
  have hX : ∀ (z : List CV) (K : List CV → Prop), hbx (H ++ [some z]) b K = K [ci R.f.limit, .sl .sh 5 (R.f.kept.map cycC), .sl .sh 1 (R.f.app.map ic), .sl .sh 1 (R.f.lost.map boE), .sl (.own kc vc) 5 (R.cyc.map cycC), .sl (.own ks vs) 1 (R.src.map iE), .bsl bT 0 R.tgt.length 1, cbo R.good] := fun z K => hbx_of (by rw [List.getElem?_append_left l1]; exact hbx0) K
  have hfin : ∀ (R' : Rn) (H' : Hp) (V' : List Nat), loseR R t = R' → H'.take H.length = H.set b (some (rnB bT kc vc ks vs R')) → V'.take V.length = V → Fin H.length V.length (fun _ H'' V'' => H'' = H.set b (some (rnB bT kc vc ks vs (loseR R t))) ∧ V = V'') (.tup []) H' V' := fun R' H' V' h1 h2 h3 => by
    rw [h1]; exact fin_run (okL_rnB l2 l3 l4) hokH h2 h3
  have htk : ∀ (z c : List CV), ((H ++ [some z]).set b (some c)).take H.length = H.set b (some c) := fun z c => by
    rw [List.set_append_left _ _ l1, List.take_append_of_le_length (by simp), List.take_of_length_le (by simp)]
  have htk2 : ∀ (z c c2 : List CV), (((H ++ [some z]).set b (some c)).set b (some c2)).take H.length = H.set b (some c2) := fun z c c2 => by
    rw [List.set_set]; exact htk z c2
  have hgd : R.f.lost.getD t false = R.f.lost[t] := by rw [List.getD_eq_getElem?_getD, List.getElem?_eq_getElem ht]; rfl
  have hL : loseR R t = let x := exF (loseF R.f t); if R.f.lost[t] = true then { R with good := R.good && decide (x.2 = 8) } else if R.good = true ∧ x.2 = 0 ∧ x.1.app.length = R.tgt.length ∧ x.1.lost.length = R.tgt.length then { R with f := x.1 } else { R with good := false } := by rw [← hgd]; rfl
  generalize exF (loseF R.f t) = x at hL ⊢
  obtain ⟨g, e⟩ := x
  dsimp only at hL ⊢
  refine SWp.seq (SWp.seq (Wp.s ?_))
  by_cases hl : R.f.lost[t] = true
  · rw [if_pos hl] at hL
    by_cases hgo : R.good = true
    · by_cases he : e = 8
      · simp -implicitDefEqProofs [go_sem, hX, ht, hl]
        refine Wp.s ?_
        simp -implicitDefEqProofs [go_sem, hX, hgo, he]
        exact hfin { R with good := true } _ _ (by rw [hL]; simp [hgo, he]) (by rw [htk]; rfl) (by simp)
      · have he' : ¬ (e : Int) = 8 := by omega
        simp -implicitDefEqProofs [go_sem, hX, ht, hl]
        refine Wp.s ?_
        simp -implicitDefEqProofs [go_sem, hX, hgo, he']
        exact hfin { R with good := false } _ _ (by rw [hL]; simp [hgo, he]) (by rw [htk]; rfl) (by simp)
    · have hgo' : R.good = false := by simpa using hgo
      simp -implicitDefEqProofs [go_sem, hX, ht, hl]
      refine Wp.s ?_
      simp -implicitDefEqProofs [go_sem, hX, hgo']
      exact hfin { R with good := false } _ _ (by rw [hL]; simp [hgo']) (by rw [htk]; rfl) (by simp)
  rw [if_neg hl] at hL
  have hl' : R.f.lost[t] = false := by simpa using hl
  simp -implicitDefEqProofs [go_sem, hX, ht, hl']
  refine Wp.s ?_
  simp -implicitDefEqProofs [go_sem]
  refine SWp.seq (SWp.drawnT [] [33] (.s 0 .pl <| .s 1 .pl <| .s 2 .pl <| .s 3 .pl <| .s 4 .pl <| .s 5 .pl <| .s 6 .pl <| .s 7 .pl <| .s 8 .pl <| .s 9 .pl <| .s 10 .pl <| .s 11 .pl <| .s 12 .pl <| .s 13 .pl <| .s 14 .pl <| .s 15 .pl <| .s 16 .pl <| .s 17 .pl <| .s 18 .pl <| .s 19 .pl <| .s 20 .pl <| .s 21 .pl <| .s 22 .pl <| .s 23 .pl <| .s 24 .pl <| .s 25 .pl <| .s 26 .pl <| .s 27 .pl <| .s 28 .pl <| .s 29 .pl <| .s 30 .pl <| .s 31 .pl <| .s 32 .pl <| .s 33 .st <| .n) (by kernel_rfl) (by kernel_rfl) ?_)
  have hX2 : ∀ (z c : List CV) (K : List CV → Prop), hbx ((H ++ [some z]).set b (some c)) b K = K c := fun z c K => hbx_of (List.getElem?_set_self (by simp; omega)) K
  have hX3 : ∀ (z c : List CV) (K : List CV → Prop), hbx ((H ++ [some z]).set b (some c)) H.length K = K z := fun z c K => hbx_of (by rw [List.getElem?_set_ne (by omega)]; exact at_len _ _) K
  by_cases hgo : R.good = true
  · by_cases he : e = 0
    · by_cases ha : g.app.length = R.tgt.length
      · by_cases hb2 : g.lost.length = R.tgt.length
        · simp -implicitDefEqProofs [go_sem, hX, hgo, he, ha, hb2]
          refine SWp.seq (Wp.s ?_)
          simp -implicitDefEqProofs [go_sem, hX2]
          refine Wp.s ?_
          simp -implicitDefEqProofs [go_sem, hX2, hX3]
          exact hfin { R with f := g } _ _ (by rw [hL, if_pos ⟨hgo, he, ha, hb2⟩]) (by rw [htk]; simp [rnB, rnC, fanC, hgo]) (by simp)
        · have hb3 : ¬ (g.lost.length : Int) = R.tgt.length := by omega
          simp -implicitDefEqProofs [go_sem, hX, hgo, he, ha, hb3]
          refine SWp.seq (Wp.s ?_)
          simp -implicitDefEqProofs [go_sem, hX2]
          refine Wp.s ?_
          simp -implicitDefEqProofs [go_sem, hX2]
          exact hfin { R with good := false } _ _ (by rw [hL, if_neg (by simp [hb2])]) (by rw [htk]; rfl) (by simp)
      · have hb3 : ¬ (g.app.length : Int) = R.tgt.length := by omega
        simp -implicitDefEqProofs [go_sem, hX, hgo, he, hb3]
        refine SWp.seq (Wp.s ?_)
        simp -implicitDefEqProofs [go_sem, hX2]
        refine Wp.s ?_
        simp -implicitDefEqProofs [go_sem, hX2]
        exact hfin { R with good := false } _ _ (by rw [hL, if_neg (by simp [ha])]) (by rw [htk]; rfl) (by simp)
    · have he' : ¬ (e : Int) = 0 := by omega
      simp -implicitDefEqProofs [go_sem, hX, hgo, he, he']
      refine SWp.seq (Wp.s ?_)
      simp -implicitDefEqProofs [go_sem, hX2]
      refine Wp.s ?_
      simp -implicitDefEqProofs [go_sem, hX2]
      exact hfin { R with good := false } _ _ (by rw [hL, if_neg (by simp [he])]) (by rw [htk]; rfl) (by simp)
  · have hgo' : R.good = false := by simpa using hgo
    simp -implicitDefEqProofs [go_sem, hX, hgo']
    refine SWp.seq (Wp.s ?_)
    simp -implicitDefEqProofs [go_sem, hX2]
    refine Wp.s ?_
    simp -implicitDefEqProofs [go_sem, hX2]
    exact hfin { R with good := false } _ _ (by rw [hL, if_neg (by simp [hgo'])]) (by rw [htk]; rfl) (by simp)
end Go.Proofs.YtpadnceoacbaeaaGreat
namespace Go.Proofs.YtpadnceoacbaeaaGreat
open Go.Proofs
theorem okL_imgs (i j : Nat) : ∀ l : List Img, okL i j (l.map imV)
  | [] => trivial
  | x :: l => ⟨by simp [go_sem], okL_imgs i j l⟩
/-- What a method of a run leaves. -/
def RunTo (b bT : Nat) (c d : List CV) (H : Hp) (V : List Nat) : CV → Hp → List Nat → Prop := fun _ H'' V'' => H'' = (H.set b (some c)).set bT (some d) ∧ V = V''
theorem fin_run2 {H H' : Hp} {V V' : List Nat} {b bT : Nat} {c d : List CV} {r : CV} (hc : okL H.length V.length c) (hd : okL H.length V.length d) (hokH : ∀ (b : Nat) cs, H[b]? = some (some cs) → okL H.length V.length cs) (h2 : H'.take H.length = (H.set b (some c)).set bT (some d)) (h3 : V'.take V.length = V) : Fin H.length V.length (RunTo b bT c d H V) r H' V' := by
  refine ⟨.any, (H.set b (some c)).set bT (some d), V, ?_, rfl, rfl⟩
  refine Gst.trans (T' := [(0, .any)]) (H' := H') (V' := V') (Gst.forget fun p hp => ?_) ?_
  · obtain rfl : p = _ := by simpa using hp
    exact .any _
  · have := Gst.cut (n := 1) (nb := H.length) (nv := V.length) (T := [(0, .any)]) (H := H') (V := V') H.length V.length (Nat.le_refl _) (Nat.le_refl _) (fun p hp => by simp at hp; subst hp; rw [okV]; trivial) (by
      rw [h2]
      have hl : (H.set b (some c)).length = H.length := List.length_set ..
      intro b' cs hb'
      have := hset_ok (H := H.set b (some c)) (V := V) (b := bT) (c := d) (by rw [hl]; exact hd) (by rw [hl]; exact hset_ok hc hokH) b' cs hb'
      rwa [hl] at this)
    rwa [h2, h3] at this
theorem imV_set (l : List Img) (t : Nat) (x : Img) (h : t < l.length) : (l.map imV).take t ++ ((iE x)[0].cells ++ (l.map imV).drop (t + 1)) = (l.set t x).map imV := by
  rw [List.map_set, List.set_eq_take_append_cons_drop, if_pos (by simpa using h)]
  rfl
def joinR (R : Rn) (t : Nat) : Rn :=
  let x := exF (joinF R.f t R.cyc.length)
  if R.f.lost.getD t false = false then { R with good := R.good && decide (x.2 = 12) }
  else if R.good = true ∧ x.2 = 0 ∧ x.1.app.length = R.tgt.length ∧ x.1.lost.length = R.tgt.length then { R with f := x.1, tgt := R.tgt.set t (R.src.getD R.cyc.length []) } else { R with good := false }
set_option maxRecDepth 8000 in
theorem join_cc (H : Hp) (V : List Nat) (b bT kc vc ks vs : Nat) (R : Rn) (t : Nat) (ht : t < R.f.lost.length) (htT : t < R.tgt.length) (hr : RunAt b bT kc vc ks vs R H V) (hs : Sm R.f) (hsl : R.cyc.length < R.src.length) (hc6 : R.cyc.length ≤ 1000000) : CC Tryz.prog 63 [.ptr b 0, ci t] H V (RunTo b bT (rnB bT kc vc ks vs (joinR R t)) ((joinR R t).tgt.map imV) H V) := by
  refine CC.of_swp Tryz.func63 rfl (by kernel_rfl) (by rw [Tryz.ntmps63]; exact len_le _ _ rfl) fun hok hokH => ?_
  clear hok
  obtain ⟨l1, l2, l3, l4⟩ := hr.lt
  have hbx0 := hr.box
  have htg := hr.tg
  have hbb := hr.hb
  refine SWp.seq (Wp.s ?_)
  simp -implicitDefEqProofs [go_sem, args0, hbx_of hr.box, rnC]
  refine SWp.seq (Wp.s ?_)
  simp -implicitDefEqProofs [go_sem, hbx_of hr.box, rnC]
  refine CC.mono (show CC Tryz.prog 22 [.agg [ci R.f.limit, .sl .sh 5 (R.f.kept.map cycC), .sl .sh 1 (R.f.app.map ic), .sl .sh 1 (R.f.lost.map boE)], ci t, ci R.cyc.length] _ _ _ from Join_cc _ _ R.f t R.cyc.length hs) ?_
  rintro _ _ _ ⟨rfl, rfl, rfl⟩
  rw [dvF_eq]
  simp -implicitDefEqProofs [go_sem]
  have hX : ∀ (z : List CV) (K : List CV → Prop), hbx (H ++ [some z]) b K = K [ci R.f.limit, .sl .sh 5 (R.f.kept.map cycC), .sl .sh 1 (R.f.app.map ic), .sl .sh 1 (R.f.lost.map boE), .sl (.own kc vc) 5 (R.cyc.map cycC), .sl (.own ks vs) 1 (R.src.map iE), .bsl bT 0 R.tgt.length 1, cbo R.good] := fun z K => hbx_of (by rw [List.getElem?_append_left l1]; exact hbx0) K
  have hfin : ∀ (R' : Rn) (H' : Hp) (V' : List Nat), joinR R t = R' → H'.take H.length = (H.set b (some (rnB bT kc vc ks vs R'))).set bT (some (R'.tgt.map imV)) → V'.take V.length = V → Fin H.length V.length (RunTo b bT (rnB bT kc vc ks vs (joinR R t)) ((joinR R t).tgt.map imV) H V) (.tup []) H' V' := fun R' H' V' h1 h2 h3 => by
    rw [h1]; exact fin_run2 (okL_rnB l2 l3 l4) (okL_imgs _ _ _) hokH h2 h3
  have hT0 : ∀ c : List CV, (H.set b (some c)).set bT (some (R.tgt.map imV)) = H.set b (some c) := fun c => by
    refine set_self' ?_
    rw [List.getElem?_set_ne hbb]; exact htg
  have htk : ∀ (z c : List CV), ((H ++ [some z]).set b (some c)).take H.length = H.set b (some c) := fun z c => by
    rw [List.set_append_left _ _ l1, List.take_append_of_le_length (by simp), List.take_of_length_le (by simp)]
  have htk2 : ∀ (z c c2 : List CV), (((H ++ [some z]).set b (some c)).set b (some c2)).take H.length = H.set b (some c2) := fun z c c2 => by
    rw [List.set_set]; exact htk z c2
  have hgd : R.f.lost.getD t false = R.f.lost[t] := by rw [List.getD_eq_getElem?_getD, List.getElem?_eq_getElem ht]; rfl
  have hL : joinR R t = let x := exF (joinF R.f t R.cyc.length); if R.f.lost[t] = false then { R with good := R.good && decide (x.2 = 12) } else if R.good = true ∧ x.2 = 0 ∧ x.1.app.length = R.tgt.length ∧ x.1.lost.length = R.tgt.length then { R with f := x.1, tgt := R.tgt.set t (R.src.getD R.cyc.length []) } else { R with good := false } := by rw [← hgd]; rfl
  generalize exF (joinF R.f t R.cyc.length) = x at hL ⊢
  obtain ⟨g, e⟩ := x
  dsimp only at hL ⊢
  refine SWp.seq (SWp.seq (Wp.s ?_))
  by_cases hl : R.f.lost[t] = false
  · rw [if_pos hl] at hL
    by_cases hgo : R.good = true
    · by_cases he : e = 12
      · simp -implicitDefEqProofs [go_sem, hX, ht, hl]
        refine Wp.s ?_
        simp -implicitDefEqProofs [go_sem, hX, hgo, he]
        exact hfin { R with good := true } _ _ (by rw [hL]; simp [hgo, he]) (by rw [htk, hT0]; rfl) (by simp)
      · have he' : ¬ (e : Int) = 12 := by omega
        simp -implicitDefEqProofs [go_sem, hX, ht, hl]
        refine Wp.s ?_
        simp -implicitDefEqProofs [go_sem, hX, hgo, he']
        exact hfin { R with good := false } _ _ (by rw [hL]; simp [hgo, he]) (by rw [htk, hT0]; rfl) (by simp)
    · have hgo' : R.good = false := by simpa using hgo
      simp -implicitDefEqProofs [go_sem, hX, ht, hl]
      refine Wp.s ?_
      simp -implicitDefEqProofs [go_sem, hX, hgo']
      exact hfin { R with good := false } _ _ (by rw [hL]; simp [hgo']) (by rw [htk, hT0]; rfl) (by simp)
  rw [if_neg hl] at hL
  have hl' : R.f.lost[t] = true := by simpa using hl
  simp -implicitDefEqProofs [go_sem, hX, ht, hl']
  refine Wp.s ?_
  simp -implicitDefEqProofs [go_sem]
  refine SWp.seq (SWp.drawnT [] [33] (.s 0 .pl <| .s 1 .pl <| .s 2 .pl <| .s 3 .pl <| .s 4 .pl <| .s 5 .pl <| .s 6 .pl <| .s 7 .pl <| .s 8 .pl <| .s 9 .pl <| .s 10 .pl <| .s 11 .pl <| .s 12 .pl <| .s 13 .pl <| .s 14 .pl <| .s 15 .pl <| .s 16 .pl <| .s 17 .pl <| .s 18 .pl <| .s 19 .pl <| .s 20 .pl <| .s 21 .pl <| .s 22 .pl <| .s 23 .pl <| .s 24 .pl <| .s 25 .pl <| .s 26 .pl <| .s 27 .pl <| .s 28 .pl <| .s 29 .pl <| .s 30 .pl <| .s 31 .pl <| .s 32 .pl <| .s 33 .st <| .n) (by kernel_rfl) (by kernel_rfl) ?_)
  have hX2 : ∀ (z c : List CV) (K : List CV → Prop), hbx ((H ++ [some z]).set b (some c)) b K = K c := fun z c K => hbx_of (List.getElem?_set_self (by simp; omega)) K
  have hX4 : ∀ (z c : List CV) (K : List CV → Prop), hbx ((H ++ [some z]).set b (some c)) bT K = K (R.tgt.map imV) := fun z c K => hbx_of (by rw [List.getElem?_set_ne hbb, List.getElem?_append_left l2]; exact htg) K
  have hX3 : ∀ (z c : List CV) (K : List CV → Prop), hbx ((H ++ [some z]).set b (some c)) H.length K = K z := fun z c K => hbx_of (by rw [List.getElem?_set_ne (by omega)]; exact at_len _ _) K
  by_cases hgo : R.good = true
  · by_cases he : e = 0
    · by_cases ha : g.app.length = R.tgt.length
      · by_cases hb2 : g.lost.length = R.tgt.length
        · simp -implicitDefEqProofs [go_sem, hX, hgo, he, ha, hb2]
          refine SWp.seq (Wp.s ?_)
          simp -implicitDefEqProofs [go_sem, hX2]
          refine SWp.condT (by simp [go_sem]) ?_
          refine SWp.drawnT [] [16, 18] (.s 0 .pl <| .s 1 .pl <| .s 2 .pl <| .s 3 .pl <| .s 4 .pl <| .s 5 .pl <| .s 6 .pl <| .s 7 .pl <| .s 8 .pl <| .s 9 .pl <| .s 10 .pl <| .s 11 .pl <| .s 12 .pl <| .s 13 .pl <| .s 14 .pl <| .s 15 .pl <| .s 16 .st <| .s 17 .pl <| .s 18 .st <| .n) (by kernel_rfl) (by kernel_rfl) ?_
          simp -implicitDefEqProofs [go_sem, hX2, hX3, hsl, htT]
          rw [hX4]
          refine ⟨rfl, rfl, by rw [List.length_map]; omega, ?_⟩
          have hsd : R.src.getD R.cyc.length [] = R.src[R.cyc.length] := by rw [List.getD_eq_getElem?_getD, List.getElem?_eq_getElem hsl]; rfl
          refine hfin { R with f := g, tgt := R.tgt.set t R.src[R.cyc.length] } _ _ (by rw [hL, if_pos ⟨hgo, he, ha, hb2⟩, hsd]) ?_ (by simp)
          rw [List.take_set, htk]
          refine (congrArg (fun d : List CV => List.set _ bT (some d)) (imV_set _ _ _ htT)).trans ?_
          simp [rnB, rnC, fanC, hgo]
        · have hb3 : ¬ (g.lost.length : Int) = R.tgt.length := by omega
          simp -implicitDefEqProofs [go_sem, hX, hgo, he, ha, hb3]
          refine SWp.seq (Wp.s ?_)
          simp -implicitDefEqProofs [go_sem, hX2]
          refine Wp.s ?_
          simp -implicitDefEqProofs [go_sem, hX2]
          exact hfin { R with good := false } _ _ (by rw [hL, if_neg (by simp [hb2])]) (by rw [htk, hT0]; rfl) (by simp)
      · have hb3 : ¬ (g.app.length : Int) = R.tgt.length := by omega
        simp -implicitDefEqProofs [go_sem, hX, hgo, he, hb3]
        refine SWp.seq (Wp.s ?_)
        simp -implicitDefEqProofs [go_sem, hX2]
        refine Wp.s ?_
        simp -implicitDefEqProofs [go_sem, hX2]
        exact hfin { R with good := false } _ _ (by rw [hL, if_neg (by simp [ha])]) (by rw [htk, hT0]; rfl) (by simp)
    · have he' : ¬ (e : Int) = 0 := by omega
      simp -implicitDefEqProofs [go_sem, hX, hgo, he, he']
      refine SWp.seq (Wp.s ?_)
      simp -implicitDefEqProofs [go_sem, hX2]
      refine Wp.s ?_
      simp -implicitDefEqProofs [go_sem, hX2]
      exact hfin { R with good := false } _ _ (by rw [hL, if_neg (by simp [he])]) (by rw [htk, hT0]; rfl) (by simp)
  · have hgo' : R.good = false := by simpa using hgo
    simp -implicitDefEqProofs [go_sem, hX, hgo']
    refine SWp.seq (Wp.s ?_)
    simp -implicitDefEqProofs [go_sem, hX2]
    refine Wp.s ?_
    simp -implicitDefEqProofs [go_sem, hX2]
    exact hfin { R with good := false } _ _ (by rw [hL, if_neg (by simp [hgo'])]) (by rw [htk, hT0]; rfl) (by simp)
end Go.Proofs.YtpadnceoacbaeaaGreat
namespace Go.Proofs.YtpadnceoacbaeaaGreat
open Go.Proofs
def nxC : Option Cyc → Cyc × Bool
  | none => (⟨0, 0, 0, [], []⟩, false)
  | some c => (c, true)
theorem dvN_eq (x : Option Cyc) : dvN x = .tup [.agg (cycC (nxC x).1), .v (.bool (nxC x).2)] := by cases x <;> rfl
theorem nxC_sm {f : Fan} (hs : Sm f) (t : Int) : (nxC (nextF f t)).1.wrs.length ≤ 1000000 ∧ WrS (nxC (nextF f t)).1.wrs ∧ (nxC (nextF f t)).1.poss.length ≤ 1000000 := by
  cases h : nextF f t with
  | none => exact ⟨Nat.zero_le _, (fun w hw => by cases hw), Nat.zero_le _⟩
  | some c =>
    unfold nextF at h
    split at h
    · cases h
    · exact hs.kc c (List.mem_of_find?_eq_some h)
/-- A target's next cycle, applied. -/
def nextR (R : Rn) (t : Nat) : Rn :=
  let x := nxC (nextF R.f t)
  if R.f.lost.getD t false = true ∨ (R.cyc.length : Int) - R.f.app.getD t 0 = 0 then { R with good := R.good && !x.2 }
  else
    let y := apC (R.tgt.getD t []) x.1
    let z := exF (appF R.f t x.1.number)
    if x.2 = false ∨ y.2 ≠ 0 ∨ z.2 ≠ 0 ∨ x.1.base ≠ R.f.app.getD t 0 ∨ z.1.app.length ≠ R.tgt.length ∨ z.1.lost.length ≠ R.tgt.length then { R with good := false }
    else { R with f := z.1, tgt := R.tgt.set t y.1 }
set_option maxRecDepth 8000 in
set_option maxHeartbeats 1600000 in
theorem next_cc (H : Hp) (V : List Nat) (b bT kc vc ks vs : Nat) (R : Rn) (t : Nat) (ht : t < R.f.lost.length) (hta : t < R.f.app.length) (htT : t < R.tgt.length) (hr : RunAt b bT kc vc ks vs R H V) (hs : Sm R.f) (hc6 : R.cyc.length ≤ 1000000) (h0 : 0 ≤ R.f.app[t]) (h1 : R.f.app[t] ≤ 1000000000000) (hi : R.tgt[t].length ≤ 1000000000) : CC Tryz.prog 31 [.ptr b 0, ci t] H V (RunTo b bT (rnB bT kc vc ks vs (nextR R t)) ((nextR R t).tgt.map imV) H V) := by
  refine CC.of_swp Tryz.func31 rfl (by kernel_rfl) (by rw [Tryz.ntmps31]; exact len_le _ _ rfl) fun hok hokH => ?_
  clear hok
  obtain ⟨l1, l2, l3, l4⟩ := hr.lt
  have hbx0 := hr.box
  have htg := hr.tg
  have hbb := hr.hb
  obtain ⟨s1, s2, s3⟩ := nxC_sm hs (t : Int)
  refine SWp.seq (Wp.s ?_)
  simp -implicitDefEqProofs [go_sem, args0, hbx_of hr.box, rnC]
  refine CC.mono (show CC Tryz.prog 13 [.agg [ci R.f.limit, .sl .sh 5 (R.f.kept.map cycC), .sl .sh 1 (R.f.app.map ic), .sl .sh 1 (R.f.lost.map boE)], ci t] _ _ _ from Next_cc _ _ R.f t hs) ?_
  rintro _ _ _ ⟨rfl, rfl, rfl⟩
  rw [dvN_eq]
  simp -implicitDefEqProofs [go_sem]
  have hX : ∀ (z : List CV) (K : List CV → Prop), hbx (H ++ [some z]) b K = K [ci R.f.limit, .sl .sh 5 (R.f.kept.map cycC), .sl .sh 1 (R.f.app.map ic), .sl .sh 1 (R.f.lost.map boE), .sl (.own kc vc) 5 (R.cyc.map cycC), .sl (.own ks vs) 1 (R.src.map iE), .bsl bT 0 R.tgt.length 1, cbo R.good] := fun z K => hbx_of (by rw [List.getElem?_append_left l1]; exact hbx0) K
  have hfin : ∀ (R' : Rn) (H' : Hp) (V' : List Nat), nextR R t = R' → H'.take H.length = (H.set b (some (rnB bT kc vc ks vs R'))).set bT (some (R'.tgt.map imV)) → V'.take V.length = V → Fin H.length V.length (RunTo b bT (rnB bT kc vc ks vs (nextR R t)) ((nextR R t).tgt.map imV) H V) (.tup []) H' V' := fun R' H' V' h1 h2 h3 => by
    rw [h1]; exact fin_run2 (okL_rnB l2 l3 l4) (okL_imgs _ _ _) hokH h2 h3
  have hT0 : ∀ c : List CV, (H.set b (some c)).set bT (some (R.tgt.map imV)) = H.set b (some c) := fun c => by
    refine set_self' ?_
    rw [List.getElem?_set_ne hbb]; exact htg
  have htk : ∀ (z c : List CV), ((H ++ [some z]).set b (some c)).take H.length = H.set b (some c) := fun z c => by
    rw [List.set_append_left _ _ l1, List.take_append_of_le_length (by simp), List.take_of_length_le (by simp)]
  have hgd : R.f.lost.getD t false = R.f.lost[t] := by rw [List.getD_eq_getElem?_getD, List.getElem?_eq_getElem ht]; rfl
  have hga : R.f.app.getD t 0 = R.f.app[t] := by rw [List.getD_eq_getElem?_getD, List.getElem?_eq_getElem hta]; rfl
  have hgt : R.tgt.getD t [] = R.tgt[t] := by rw [List.getD_eq_getElem?_getD, List.getElem?_eq_getElem htT]; rfl
  have hr1 : ∀ z : List CV, RunAt b bT kc vc ks vs R (H ++ [some z]) V := fun z => ⟨by rw [List.getElem?_append_left l1]; exact hbx0, by rw [List.getElem?_append_left l2]; exact htg, hr.vk, hr.vS, hr.hk, hbb⟩
  generalize hxd : nxC (nextF R.f t) = x at s1 s2 s3 ⊢
  obtain ⟨c, ok⟩ := x
  dsimp only at s1 s2 s3 ⊢
  refine SWp.seq (SWp.seq (Wp.s ?_))
  by_cases hl : R.f.lost[t] = true
  · have hN : nextR R t = { R with good := R.good && !ok } := by rw [nextR, hxd, if_pos (.inl (by rw [hgd]; exact hl))]
    cases hgo : R.good <;> cases hok : ok
    all_goals
      subst hok
      simp -implicitDefEqProofs [go_sem, hX, ht, hl]
      refine Wp.s ?_
      simp -implicitDefEqProofs [go_sem, hX, hgo]
      exact hfin _ _ _ hN (by rw [htk, hT0]; simp [rnB, rnC, hgo]) (by simp)
  have hl' : R.f.lost[t] = false := by simpa using hl
  simp -implicitDefEqProofs [go_sem, hX, ht, hl']
  refine CC.mono (behind_cc _ _ b bT kc vc ks vs R t hta (hr1 _) hc6 h0 h1) ?_
  rintro _ _ _ ⟨rfl, rfl, rfl⟩
  have hX2 : ∀ (z : List CV) (K : List CV → Prop), hbx (H ++ [some z]) bT K = K (R.tgt.map imV) := fun z K => hbx_of (by rw [List.getElem?_append_left l2]; exact htg) K
  by_cases hd : (R.cyc.length : Int) - R.f.app[t] = 0
  · have hN : nextR R t = { R with good := R.good && !ok } := by rw [nextR, hxd, if_pos (.inr (by rw [hga]; exact hd))]
    cases hgo : R.good <;> cases hok : ok
    all_goals
      subst hok
      simp -implicitDefEqProofs [go_sem, hd]
      refine Wp.s ?_
      simp -implicitDefEqProofs [go_sem, hX, hgo]
      exact hfin _ _ _ hN (by rw [htk, hT0]; simp [rnB, rnC, hgo]) (by simp)
  have hN : nextR R t = if ok = false ∨ (apC R.tgt[t] c).2 ≠ 0 ∨ (exF (appF R.f t c.number)).2 ≠ 0 ∨ c.base ≠ R.f.app[t] ∨ (exF (appF R.f t c.number)).1.app.length ≠ R.tgt.length ∨ (exF (appF R.f t c.number)).1.lost.length ≠ R.tgt.length then { R with good := false } else { R with f := (exF (appF R.f t c.number)).1, tgt := R.tgt.set t (apC R.tgt[t] c).1 } := by
    rw [nextR, hxd, if_neg (by rw [hgd, hga]; simp [hl, hd]), hga, hgt]
  simp -implicitDefEqProofs [go_sem, hd]
  refine Wp.s ?_
  simp -implicitDefEqProofs [go_sem]
  refine SWp.seq (SWp.drawnT [] [] (.s 0 .pl <| .s 1 .pl <| .s 2 .pl <| .s 3 .pl <| .s 4 .pl <| .s 5 .pl <| .s 6 .pl <| .s 7 .pl <| .s 8 .pl <| .s 9 .pl <| .s 10 .pl <| .s 11 .pl <| .s 12 .pl <| .s 13 .pl <| .n) (by kernel_rfl) (by kernel_rfl) ?_)
  simp -implicitDefEqProofs [go_sem, hX, hX2, htT]
  refine CC.mono (cyApply_cc _ _ R.tgt[t] c hi (by omega) s2 (by omega)) ?_
  rintro _ _ _ ⟨rfl, rfl, rfl⟩
  simp -implicitDefEqProofs [go_sem, apcV]
  refine SWp.seq (SWp.drawnT [] [12] (.s 0 .pl <| .s 1 .pl <| .s 2 .pl <| .s 3 .pl <| .s 4 .pl <| .s 5 .pl <| .s 6 .pl <| .c 7 <| .s 8 .pl <| .s 9 .pl <| .s 10 .pl <| .s 11 .pl <| .s 12 .st <| .s 13 .pl <| .n) (by kernel_rfl) (by kernel_rfl) ?_)
  simp -implicitDefEqProofs [go_sem, hX]
  refine ⟨_, fun H V => show CC Tryz.prog 18 [.agg [ci R.f.limit, .sl .sh 5 (R.f.kept.map cycC), .sl .sh 1 (R.f.app.map ic), .sl .sh 1 (R.f.lost.map boE)], ci t, ci c.number] H V _ from Applied_cc H V R.f t c.number hs, ?_⟩
  rw [dvF_eq]
  simp -implicitDefEqProofs [go_sem]
  generalize exF (appF R.f t c.number) = z at hN ⊢
  obtain ⟨g, e⟩ := z
  generalize apC R.tgt[t] c = y at hN ⊢
  obtain ⟨im, e2⟩ := y
  dsimp only at hN ⊢
  have hX4 : ∀ (z z2 : List CV) (K : List CV → Prop), hbx (H ++ [some z, some z2]) b K = K [ci R.f.limit, .sl .sh 5 (R.f.kept.map cycC), .sl .sh 1 (R.f.app.map ic), .sl .sh 1 (R.f.lost.map boE), .sl (.own kc vc) 5 (R.cyc.map cycC), .sl (.own ks vs) 1 (R.src.map iE), .bsl bT 0 R.tgt.length 1, cbo R.good] := fun z z2 K => hbx_of (by rw [List.getElem?_append_left l1]; exact hbx0) K
  have htk3 : ∀ (z z2 c : List CV), ((H ++ [some z, some z2]).set b (some c)).take H.length = H.set b (some c) := fun z z2 c => by
    rw [List.set_append_left _ _ l1, List.take_append_of_le_length (by simp), List.take_of_length_le (by simp)]
  refine SWp.seq (SWp.seq (SWp.drawnT [] [] (.s 0 .pl <| .s 1 .pl <| .s 2 .pl <| .s 3 .pl <| .s 4 .pl <| .s 5 .pl <| .s 6 .pl <| .s 7 .pl <| .s 8 .pl <| .s 9 .pl <| .s 10 .pl <| .s 11 .pl <| .s 12 .pl <| .s 13 .pl <| .s 14 .pl <| .s 15 .pl <| .s 16 .pl <| .s 17 .pl <| .s 18 .pl <| .s 19 .pl <| .s 20 .pl <| .s 21 .pl <| .s 22 .pl <| .s 23 .pl <| .s 24 .pl <| .s 25 .pl <| .s 26 .pl <| .s 27 .pl <| .s 28 .pl <| .s 29 .pl <| .s 30 .pl <| .s 31 .pl <| .s 32 .pl <| .s 33 .pl <| .s 34 .pl <| .s 35 .pl <| .s 36 .pl <| .s 37 .pl <| .s 38 .pl <| .s 39 .pl <| .s 40 .pl <| .s 41 .pl <| .s 42 .pl <| .s 43 .pl <| .s 44 .pl <| .n) (by kernel_rfl) (by kernel_rfl) ?_))
  cases hok : ok
  · subst hok
    simp -implicitDefEqProofs [go_sem]
    refine Wp.s ?_
    simp -implicitDefEqProofs [go_sem, hX4]
    exact hfin { R with good := false } _ _ (by rw [hN, if_pos (.inl rfl)]) (by rw [htk3, hT0]; rfl) (by simp)
  by_cases c1 : e2 = 0
  case neg =>
    have c1' : ¬ (e2 : Int) = 0 := by omega
    simp -implicitDefEqProofs [go_sem, c1, c1']
    refine Wp.s ?_
    simp -implicitDefEqProofs [go_sem, hX4]
    exact hfin { R with good := false } _ _ (by rw [hN, if_pos (.inr (.inl c1))]) (by rw [htk3, hT0]; rfl) (by simp)
  by_cases c2 : e = 0
  case neg =>
    have c2' : ¬ (e : Int) = 0 := by omega
    simp -implicitDefEqProofs [go_sem, c1, c2, c2']
    refine Wp.s ?_
    simp -implicitDefEqProofs [go_sem, hX4]
    exact hfin { R with good := false } _ _ (by rw [hN, if_pos (.inr (.inr (.inl c2)))]) (by rw [htk3, hT0]; rfl) (by simp)
  by_cases c3 : c.base = R.f.app[t]
  case neg =>
    simp -implicitDefEqProofs [go_sem, c1, c2, c3, hX4, hta]
    refine Wp.s ?_
    simp -implicitDefEqProofs [go_sem, hX4]
    exact hfin { R with good := false } _ _ (by rw [hN, if_pos (.inr (.inr (.inr (.inl c3))))]) (by rw [htk3, hT0]; rfl) (by simp)
  by_cases c4 : g.app.length = R.tgt.length
  case neg =>
    have c4' : ¬ (g.app.length : Int) = R.tgt.length := by omega
    simp -implicitDefEqProofs [go_sem, c1, c2, c3, c4, c4', hX4, hta]
    refine Wp.s ?_
    simp -implicitDefEqProofs [go_sem, hX4]
    exact hfin { R with good := false } _ _ (by rw [hN, if_pos (.inr (.inr (.inr (.inr (.inl c4)))))]) (by rw [htk3, hT0]; rfl) (by simp)
  by_cases c5 : g.lost.length = R.tgt.length
  case neg =>
    have c5' : ¬ (g.lost.length : Int) = R.tgt.length := by omega
    simp -implicitDefEqProofs [go_sem, c1, c2, c3, c4, c5, c5', hX4, hta]
    refine Wp.s ?_
    simp -implicitDefEqProofs [go_sem, hX4]
    exact hfin { R with good := false } _ _ (by rw [hN, if_pos (.inr (.inr (.inr (.inr (.inr c5)))))]) (by rw [htk3, hT0]; rfl) (by simp)
  simp -implicitDefEqProofs [go_sem, c1, c2, c3, c4, c5, hX4, hta]
  refine Wp.s ?_
  simp -implicitDefEqProofs [go_sem]
  refine SWp.drawnT [H.length + 1] [9, 12] (.s 0 .pl <| .s 1 .pl <| .s 2 .pl <| .s 3 .pl <| .s 4 .pl <| .s 5 .pl <| .s 6 .pl <| .s 7 .ld <| .s 8 .pl <| .s 9 .st <| .s 10 .pl <| .s 11 .pl <| .s 12 .st <| .n) (by kernel_rfl) (by kernel_rfl) ?_
  have hX5 : ∀ (z z2 : List CV) (K : List CV → Prop), hbx (H ++ [some z, some z2]) bT K = K (R.tgt.map imV) := fun z z2 K => hbx_of (by rw [List.getElem?_append_left l2]; exact htg) K
  have hX6 : ∀ (z z2 d : List CV) (K : List CV → Prop), hbx ((H ++ [some z, some z2]).set bT (some d)) b K = K [ci R.f.limit, .sl .sh 5 (R.f.kept.map cycC), .sl .sh 1 (R.f.app.map ic), .sl .sh 1 (R.f.lost.map boE), .sl (.own kc vc) 5 (R.cyc.map cycC), .sl (.own ks vs) 1 (R.src.map iE), .bsl bT 0 R.tgt.length 1, cbo R.good] := fun z z2 d K => hbx_of (by rw [List.getElem?_set_ne (Ne.symm hbb), List.getElem?_append_left l1]; exact hbx0) K
  simp -implicitDefEqProofs [go_sem, hX4, hX5, hX6, htT]
  have hne : bT ≠ b := Ne.symm hbb
  refine ⟨by omega, Kp.keep fun k hk => ?_, Kp.keep fun k hk => ?_, ?_⟩
  · obtain rfl : k = H.length + 1 := by simpa using hk
    rw [List.getElem?_set_ne (by omega)]
  · obtain rfl : k = H.length + 1 := by simpa using hk
    rw [List.getElem?_set_ne (by omega)]
  refine hfin { R with f := g, tgt := R.tgt.set t im } _ _ (by rw [hN, if_neg (by simp [hok, c1, c2, c3, c4, c5])]) ?_ (by simp)
  rw [List.take_set, List.take_set, List.take_left, List.set_comm _ _ hne]
  have := imV_set R.tgt t im htT
  refine (congrArg (fun d : List CV => List.set _ bT (some d)) this).trans ?_
  simp [rnB, rnC, fanC]
end Go.Proofs.YtpadnceoacbaeaaGreat
namespace Go.Proofs.YtpadnceoacbaeaaGreat
open Go.Proofs
theorem eqCyc_cc (H : Hp) (V : List Nat) (x y : List Cyc) (hl : x.length ≤ 1000000000) (hs : ∀ c ∈ x, CySm c) : CC Tryz.prog 28 [.sl .sh 5 (x.map cycC), .sl .sh 5 (y.map cycC), .fn 17 []] H V (Pu (.v (.bool (decide (x = y)))) H V) := by
  refine CC.of_swp Tryz.func28 rfl (by kernel_rfl) (by rw [Tryz.ntmps28]; exact len_le _ _ rfl) fun hok hokH => ?_
  clear hok
  refine SWp.seq (Wp.s ?_)
  simp -implicitDefEqProofs [go_sem, args0]
  refine SWp.seq (SWp.seq (Wp.s ?_))
  by_cases hlen : x.length = y.length
  case neg =>
    have hlen' : ¬ (x.length : Int) = (y.length : Int) := by omega
    simp -implicitDefEqProofs [go_sem, hlen']
    refine Wp.s ?_
    simp -implicitDefEqProofs [go_sem, hlen, hlen']
    exact Fin.bool (by simp [show x ≠ y from fun e => hlen (by rw [e])]) hokH (by simp) (by simp)
  simp -implicitDefEqProofs [go_sem, hlen]
  refine Wp.s ?_
  simp -implicitDefEqProofs [go_sem, hlen]
  refine SWp.join (α := Unit) (fun _ => ([], H, V)) (fun _ => x = y) ?_ ?_
  · refine SWp.seq (Wp.s ?_)
    simp -implicitDefEqProofs [go_sem]
    refine SWp.block ?_
    refine SWp.loop (α := Nat) (fun i => ([(1, .sl .sh 5 (y.map cycC)), (2, .fn 17 []), (15, .sl .sh 5 (x.map cycC)), (16, ci x.length), (17, ci i)], H, V)) (fun i => i ≤ x.length ∧ x.take i = y.take i) (fun i => x.length - i) 0 ⟨Nat.zero_le _, rfl⟩ (Sh.forget (by simp [go_sem, hlen]) rfl rfl) ?_
    rintro i ⟨hi, hp⟩
    dsimp only
    refine SWp.seq (Wp.s ?_)
    simp -implicitDefEqProofs [go_sem]
    refine SWp.seq (Wp.s ?_)
    simp -implicitDefEqProofs [go_sem]
    refine ⟨fun h => ?_, fun h => ⟨eq_of_take hlen h hp, Sh.forget (by simp [go_sem]) rfl rfl⟩⟩
    have h2 : i < y.length := by omega
    refine SWp.seq (SWp.block (SWp.seq (Wp.s ?_)))
    simp -implicitDefEqProofs [go_sem, h]
    refine SWp.seq (Wp.s ?_)
    simp -implicitDefEqProofs [go_sem, h2]
    refine SWp.seq (Wp.s ?_)
    simp -implicitDefEqProofs [go_sem]
    have hsi := hs _ (List.getElem_mem h)
    refine CC.mono (SameCyc_cc _ _ x[i] y[i] (by have := hsi.pl; omega) (by have := hsi.wl; omega) hsi.ws) ?_
    rintro _ _ _ ⟨rfl, rfl, rfl⟩
    by_cases he : x[i] = y[i]
    · simp -implicitDefEqProofs [go_sem, he]
      refine Wp.s ?_
      simp -implicitDefEqProofs [go_sem]
      refine Wp.s ?_
      simp -implicitDefEqProofs [go_sem]
      refine ⟨i + 1, ⟨by omega, take_eq_succ h h2 hp he⟩, by omega, Sh.cut H.length V.length ?_ (Nat.le_refl _) (Nat.le_refl _) (TOk.all (by simp [go_sem, okV_sh, okE_cycs])) (by simpa using hokH) (by simp) (by simp)⟩
      simp [go_sem, wrap_succ (show i ≤ 1000000000 by omega)]
    · simp -implicitDefEqProofs [go_sem, he]
      refine Wp.s ?_
      simp -implicitDefEqProofs [go_sem]
      exact Fin.bool (by simp [ne_at h h2 he]) hokH (by simp) (by simp)
  · rintro _ he
    dsimp only
    refine Wp.s ?_
    simp -implicitDefEqProofs [go_sem]
    exact Fin.bool (by simp [he]) hokH (by simp) (by simp)
end Go.Proofs.YtpadnceoacbaeaaGreat
namespace Go.Proofs.YtpadnceoacbaeaaGreat
/-! ### Plain: a fan-out whose cycles stand in a row -/
structure Cys (l : List Cyc) : Prop where
  ba : ∀ i (h : i < l.length), l[i].base = (i : Int)
  nu : ∀ i (h : i < l.length), l[i].number = (i : Int) + 1
  ck : ∀ c ∈ l, chkC c mostS = 0
  sm : ∀ c ∈ l, CySm c
theorem least_ge : ∀ (l : List (Int × Bool)) (z : Int), (∀ x ∈ l, 0 ≤ x.1) → (0 ≤ z → 0 ≤ l.foldl leastS z ∧ l.foldl leastS z ≤ z) ∧ ∀ x ∈ l, x.2 = false → 0 ≤ l.foldl leastS z ∧ l.foldl leastS z ≤ x.1
  | [], z, h => ⟨fun h => ⟨h, Int.le_refl _⟩, fun x hx => by cases hx⟩
  | y :: l, z, h => by
    obtain ⟨i1, i2⟩ := least_ge l (leastS z y) fun x hx => h x (List.mem_cons_of_mem _ hx)
    have hy := h y List.mem_cons_self
    rw [List.foldl_cons]
    have hst : (0 ≤ z → 0 ≤ leastS z y ∧ leastS z y ≤ z) ∧ (y.2 = false → 0 ≤ leastS z y ∧ leastS z y ≤ y.1) := by
      unfold leastS
      split
      · rename_i q; exact ⟨fun _ => by omega, fun _ => by omega⟩
      · rename_i q
        refine ⟨fun _ => by omega, fun e => ?_⟩
        have : ¬ (z < 0 ∨ y.1 < z) := fun q2 => q ⟨e, q2⟩
        omega
    refine ⟨fun hz => ?_, fun x hx h2 => ?_⟩
    · have := hst.1 hz
      have := i1 this.1
      omega
    · rcases List.mem_cons.1 hx with rfl | hx
      · have := hst.2 h2
        have := i1 this.1
        omega
      · exact i2 x hx h2
theorem leastI_le {app : List Int} {lost : List Bool} (h : ∀ (t : Nat) (x : Int), app[t]? = some x → 0 ≤ x) {t : Nat} {x : Int} (h1 : app[t]? = some x) (h2 : lost[t]? = some false) : 0 ≤ leastI app lost ∧ leastI app lost ≤ x := by
  refine (least_ge (app.zip lost) (-1) fun y hy => ?_).2 (x, false) ?_ rfl
  · obtain ⟨i, hi⟩ := List.mem_iff_getElem?.1 hy
    exact h i _ (List.getElem?_zip_eq_some.1 hi).1
  · exact List.mem_iff_getElem?.2 ⟨t, List.getElem?_zip_eq_some.2 ⟨h1, h2⟩⟩
theorem leastI_ex {app : List Int} {lost : List Bool} (h : 0 ≤ leastI app lost) : ∃ t : Nat, app[t]? = some (leastI app lost) ∧ lost[t]? = some false := by
  rcases leastI_mem (app.zip lost) (-1) with q | ⟨x, hx, x1, x2⟩
  · rw [leastI, q] at h; omega
  · obtain ⟨i, hi⟩ := List.mem_iff_getElem?.1 hx
    obtain ⟨p1, p2⟩ := List.getElem?_zip_eq_some.1 hi
    exact ⟨i, by rw [p1]; exact congrArg some x2.symm, by rw [p2, x1]⟩
theorem leastI_all {app : List Int} {lost : List Bool} (h0 : ∀ (t : Nat) (x : Int), app[t]? = some x → 0 ≤ x) (hl : lost.length = app.length) (h : leastI app lost < 0) {t : Nat} (ht : t < lost.length) : lost[t]? = some true := by
  cases hb : lost[t]? with
  | none => rw [List.getElem?_eq_none_iff] at hb; omega
  | some b =>
    cases b
    · have := leastI_le h0 (List.getElem?_eq_getElem (show t < app.length by omega)) hb
      omega
    · rfl
theorem tidyK_neg {n : Int} (h : n < 0) : ∀ k : List Cyc, tidyK n k = []
  | [] => rfl
  | c :: k => by
    rw [tidyK, List.dropWhile_cons, if_pos (by simp [needK]; omega)]
    exact tidyK_neg h k
theorem tidyK_drop {l : List Cyc} (hl : Cys l) {n : Nat} : ∀ (d m : Nat), m + d = n → tidyK n (l.drop m) = l.drop n
  | 0, m, h => by
    obtain rfl : m = n := h
    by_cases hm : m < l.length
    · rw [List.drop_eq_getElem_cons hm, tidyK, List.dropWhile_cons, if_neg (by simp [needK, hl.nu m hm]; omega)]
    · rw [List.drop_eq_nil_of_le (by omega)]; rfl
  | d + 1, m, h => by
    by_cases hm : m < l.length
    · rw [List.drop_eq_getElem_cons hm, tidyK, List.dropWhile_cons, if_pos (by simp [needK, hl.nu m hm]; omega)]
      exact tidyK_drop hl d (m + 1) (by omega)
    · rw [List.drop_eq_nil_of_le (by omega), List.drop_eq_nil_of_le (by omega)]; rfl
theorem fmax_ge : ∀ (l : List Int) (z : Int), z ≤ l.foldl max z ∧ ∀ x ∈ l, x ≤ l.foldl max z
  | [], z => ⟨Int.le_refl _, fun x hx => by cases hx⟩
  | y :: l, z => by
    obtain ⟨i1, i2⟩ := fmax_ge l (max z y)
    rw [List.foldl_cons]
    refine ⟨by omega, fun x hx => ?_⟩
    rcases List.mem_cons.1 hx with rfl | hx
    · omega
    · exact i2 x hx
theorem fmax_le {m : Int} : ∀ (l : List Int) (z : Int), (∀ x ∈ l, x ≤ m) → z ≤ m → l.foldl max z ≤ m
  | [], z, _, h => h
  | y :: l, z, h, hz => by
    rw [List.foldl_cons]
    have := h y List.mem_cons_self
    exact fmax_le l _ (fun x hx => h x (List.mem_cons_of_mem _ hx)) (by omega)
/-- The cycles behind the least. -/
def keptK (n : Int) (l : List Cyc) : List Cyc := if n < 0 then [] else l.drop n.toNat
structure FOk (l : List Cyc) (f : Fan) : Prop where
  a1 : 1 ≤ f.app.length
  a4 : f.app.length ≤ 4
  ll : f.lost.length = f.app.length
  l1 : 1 ≤ f.limit
  l4 : f.limit ≤ 4
  ap : ∀ (t : Nat) (x : Int), f.app[t]? = some x → 0 ≤ x ∧ x ≤ l.length
  kp : f.kept = keptK (leastF f) l
  kl : (f.kept.length : Int) ≤ f.limit
variable {l : List Cyc} {f : Fan}
theorem FOk.n0 (h : FOk l f) : ∀ (t : Nat) (x : Int), f.app[t]? = some x → 0 ≤ x := fun t x q => (h.ap t x q).1
theorem FOk.le (h : FOk l f) : leastF f ≤ l.length := by
  by_cases q : leastF f < 0
  · omega
  · obtain ⟨t, h1, h2⟩ := leastI_ex (app := f.app) (lost := f.lost) (by rw [← leastF_eq]; omega)
    exact (h.ap t _ h1).2
theorem FOk.mem (h : FOk l f) {x : Int} (hx : x ∈ f.app) : 0 ≤ x ∧ x ≤ l.length := by
  obtain ⟨t, ht⟩ := List.mem_iff_getElem?.1 hx
  exact h.ap t x ht
theorem FOk.kin (h : FOk l f) {c : Cyc} (hx : c ∈ f.kept) : c ∈ l := by
  rw [h.kp, keptK] at hx
  split at hx
  · cases hx
  · exact List.mem_of_mem_drop hx
theorem FOk.sm (hc : Cys l) (h : FOk l f) : Sm f := ⟨by have := h.kl; have := h.l4; omega, by have := h.a4; omega, by have := h.a4; have := h.ll; omega, fun c hx => by
  have := hc.sm c (h.kin hx)
  exact ⟨this.1, this.2, this.3⟩⟩
theorem FOk.new (hc : Cys l) (h : FOk l f) (h0 : 0 ≤ leastF f) : newF f = l.length := by
  have hle := h.le
  obtain ⟨n, hn⟩ := Int.eq_ofNat_of_zero_le h0
  have hk : f.kept = l.drop n := by rw [h.kp, keptK, if_neg (by omega), hn]; rfl
  rw [newF, hk]
  by_cases hnl : n < l.length
  · rw [List.getLast?_drop, if_neg (by omega), List.getLast?_eq_getElem?, List.getElem?_eq_getElem (show l.length - 1 < l.length by omega)]
    dsimp only
    rw [hc.nu]; omega
  · rw [List.drop_eq_nil_of_le (by omega)]
    show f.app.foldl max 0 = _
    obtain ⟨t, h1, h2⟩ := leastI_ex (app := f.app) (lost := f.lost) (by rw [← leastF_eq]; omega)
    rw [← leastF_eq] at h1
    have g1 := (fmax_ge f.app 0).2 _ (List.mem_iff_getElem?.2 ⟨t, h1⟩)
    have g2 := fmax_le f.app 0 (fun x hx => (h.mem hx).2) (by omega : (0 : Int) ≤ (l.length : Int))
    omega
theorem FOk.app_new (hc : Cys l) (h : FOk l f) {x : Int} (hx : x ∈ f.app) : x ≤ newF f := by
  by_cases q : 0 ≤ leastF f
  · rw [h.new hc q]; exact (h.mem hx).2
  · have hk : f.kept = [] := by rw [h.kp, keptK, if_pos (by omega)]
    rw [newF, hk]
    exact (fmax_ge f.app 0).2 _ hx
theorem fstE_all {g : Nat → Nat} : ∀ n, (∀ i, i < n → g i = 0) → fstE g n = 0
  | 0, _ => rfl
  | n + 1, h => fstE_s (fstE_all n fun i hi => h i (by omega)) (h n (by omega))
/-- Which numbers are boundaries. -/
theorem FOk.bnd (hc : Cys l) (h : FOk l f) (h0 : 0 ≤ leastF f) (n : Int) : bndF f n = true ↔ leastF f ≤ n ∧ n ≤ l.length := by
  have hle := h.le
  obtain ⟨m, hm⟩ := Int.eq_ofNat_of_zero_le h0
  have hk : f.kept = l.drop m := by rw [h.kp, keptK, if_neg (by omega), hm]; rfl
  rw [bndF, h.new hc h0, numF, hk]
  constructor
  · intro q
    simp only [Bool.or_eq_true, decide_eq_true_eq] at q
    rcases q with (q | q) | q
    · omega
    · obtain ⟨c, hc1, hc2⟩ := List.any_eq_true.1 q
      obtain ⟨i, hi, rfl⟩ := List.getElem_of_mem hc1
      rw [List.length_drop] at hi
      rw [List.getElem_drop, hc.nu] at hc2
      simp only [decide_eq_true_eq] at hc2
      omega
    · by_cases hml : m < l.length
      · rw [List.drop_eq_getElem_cons hml] at q
        simp only [decide_eq_true_eq] at q
        rw [hc.ba] at q
        omega
      · rw [List.drop_eq_nil_of_le (by omega)] at q
        cases q
  · rintro ⟨q1, q2⟩
    simp only [Bool.or_eq_true, decide_eq_true_eq]
    by_cases e1 : n = l.length
    · exact .inl (.inl e1)
    by_cases e2 : n = m
    · right
      rw [List.drop_eq_getElem_cons (show m < l.length by omega)]
      simp only [decide_eq_true_eq]
      rw [hc.ba]; omega
    · left; right
      refine List.any_eq_true.2 ⟨l[(n - 1).toNat]'(by omega), ?_, ?_⟩
      · refine List.mem_iff_getElem.2 ⟨(n - 1).toNat - m, by rw [List.length_drop]; omega, ?_⟩
        rw [List.getElem_drop]
        congr 1; omega
      · simp only [decide_eq_true_eq]
        rw [hc.nu]; omega
theorem FOk.chk (hc : Cys l) (hN : l.length ≤ 1000000) (h : FOk l f) : chkF f = 0 := by
  have a1 := h.a1; have a4 := h.a4; have l1 := h.l1; have l4 := h.l4; have kl := h.kl; have ll := h.ll
  have hkE : fstE (kErr f.kept) f.kept.length = 0 := by
    refine fstE_all _ fun i hi => ?_
    have hkc := hc.ck _ (h.kin (List.getElem_mem hi))
    cases i with
    | zero => exact kErr_z hi hkc
    | succ j =>
      rw [kErr_s hi hkc, if_pos]
      have hj : j < f.kept.length := by omega
      have hq := h.kp
      unfold keptK at hq
      split at hq
      · rw [hq] at hi; simp at hi
      · have hd : ∀ (i : Nat) (hi : i < f.kept.length), ∃ hi2 : (leastF f).toNat + i < l.length, f.kept[i] = l[(leastF f).toNat + i] := fun i hi => by
          have hi' := hi
          rw [hq, List.length_drop] at hi'
          refine ⟨by omega, ?_⟩
          have : f.kept[i]? = (l.drop (leastF f).toNat)[i]? := by rw [← hq]
          rw [List.getElem?_drop, List.getElem?_eq_getElem hi, List.getElem?_eq_getElem (by omega)] at this
          exact Option.some.inj this
        obtain ⟨p1, p2⟩ := hd (j + 1) hi
        obtain ⟨p3, p4⟩ := hd j hj
        rw [p2, p4, hc.ba, hc.nu]; omega
  unfold chkF
  rw [if_neg (by omega), if_neg, if_neg (by omega), if_neg (by simp [hkE]), if_neg]
  · unfold headE
    split
    · rfl
    · rename_i c rest hk
      rw [if_pos]
      have hq := h.kp
      unfold keptK at hq
      split at hq
      · rw [hk] at hq; cases hq
      · rw [hk] at hq
        have hlen := congrArg List.length hq
        rw [List.length_cons, List.length_drop] at hlen
        rw [List.drop_eq_getElem_cons (show (leastF f).toNat < l.length by omega)] at hq
        obtain ⟨rfl, -⟩ := List.cons.inj hq
        rw [hc.ba]; omega
  · intro q
    obtain ⟨x, hx, hb⟩ := List.any_eq_true.1 q
    obtain ⟨i, hi⟩ := List.mem_iff_getElem?.1 hx
    obtain ⟨p1, p2⟩ := List.getElem?_zip_eq_some.1 hi
    have hm : x.1 ∈ f.app := List.mem_iff_getElem?.2 ⟨i, p1⟩
    have h1 := h.app_new hc hm
    simp only [badT, Bool.or_eq_true, decide_eq_true_eq, Bool.and_eq_true, Bool.not_eq_true'] at hb
    rcases hb with hb | ⟨hb1, hb2⟩
    · omega
    · rw [hb1] at p2
      have h2 := leastI_le h.n0 p1 p2
      rw [← leastF_eq] at h2
      rw [Bool.eq_false_iff] at hb2
      exact hb2 ((h.bnd hc h2.1 x.1).2 ⟨h2.2, (h.mem hm).2⟩)
  · intro q
    rcases q with q | q | q
    · omega
    · omega
    · obtain ⟨x, hx, hb⟩ := List.any_eq_true.1 q
      have := h.mem hx
      simp only [badTime, inB, Bool.not_eq_true', Bool.and_eq_false_iff, decide_eq_false_iff_not] at hb
      omega
end Go.Proofs.YtpadnceoacbaeaaGreat
namespace Go.Proofs.YtpadnceoacbaeaaGreat
variable {l : List Cyc} {f : Fan}
theorem FOk.tidy (hc : Cys l) (h : FOk l f) {app : List Int} {lost : List Bool} (la : app.length = f.app.length) (ll : lost.length = f.app.length) (hap : ∀ (t : Nat) (x : Int), app[t]? = some x → 0 ≤ x ∧ x ≤ l.length)
    (hm : 0 ≤ leastI app lost → 0 ≤ leastF f ∧ leastF f ≤ leastI app lost) : FOk l (tidyF ⟨f.limit, f.kept, app, lost⟩) := by
  refine ⟨by show 1 ≤ app.length; rw [la]; exact h.a1, by show app.length ≤ 4; rw [la]; exact h.a4, by show lost.length = app.length; rw [la, ll], h.l1, h.l4, hap, ?_, ?_⟩
  · show tidyK (leastI app lost) f.kept = keptK (leastI app lost) l
    by_cases q : leastI app lost < 0
    · rw [tidyK_neg q, keptK, if_pos q]
    · obtain ⟨h1, h2⟩ := hm (by omega)
      obtain ⟨n, hn⟩ := Int.eq_ofNat_of_zero_le (show 0 ≤ leastI app lost by omega)
      obtain ⟨m, hm⟩ := Int.eq_ofNat_of_zero_le h1
      rw [h.kp, keptK, if_neg (by omega), keptK, if_neg q, hn, hm]
      exact tidyK_drop hc (n - m) m (by omega)
  · have := dropWhile_len (fun c => !needK (leastF ⟨f.limit, f.kept, app, lost⟩) c) f.kept
    have := h.kl
    show ((List.dropWhile _ f.kept).length : Int) ≤ f.limit
    omega
theorem set_get {α : Type} {l : List α} {t i : Nat} {x y : α} (h : (l.set t x)[i]? = some y) : (i = t ∧ y = x) ∨ (i ≠ t ∧ l[i]? = some y) := by
  by_cases e : t = i
  · subst e
    rw [List.getElem?_set] at h
    rw [if_pos rfl] at h
    split at h
    · exact .inl ⟨rfl, (Option.some.inj h).symm⟩
    · cases h
  · rw [List.getElem?_set_ne e] at h
    exact .inr ⟨fun q => e q.symm, h⟩
theorem FOk.loses (hc : Cys l) (h : FOk l f) (t : Nat) : FOk l (tidyF ⟨f.limit, f.kept, f.app, f.lost.set t true⟩) := by
  refine h.tidy hc rfl (by rw [List.length_set]; exact h.ll) h.ap fun q => ?_
  obtain ⟨i, h1, h2⟩ := leastI_ex q
  rcases set_get h2 with ⟨_, e⟩ | ⟨_, h3⟩
  · cases e
  · exact leastI_le h.n0 h1 h3
theorem FOk.applies (hc : Cys l) (h : FOk l f) {t a : Nat} (hl : f.lost[t]? = some false) (ha : f.app[t]? = some (a : Int)) (hN : a < l.length) : FOk l (tidyF ⟨f.limit, f.kept, f.app.set t ((a : Int) + 1), f.lost⟩) := by
  refine h.tidy hc (by rw [List.length_set]) h.ll (fun i x q => ?_) fun q => ?_
  · rcases set_get q with ⟨_, rfl⟩ | ⟨_, q⟩
    · omega
    · exact h.ap i x q
  · obtain ⟨i, h1, h2⟩ := leastI_ex q
    rcases set_get h1 with ⟨rfl, e⟩ | ⟨_, h3⟩
    · have := leastI_le h.n0 ha hl
      rw [← leastF_eq] at this
      omega
    · exact leastI_le h.n0 h3 h2
/-- A lost target comes back. -/
theorem FOk.joins (hc : Cys l) (h : FOk l f) {t n : Nat} (hl : f.lost[t]? = some true) (hN : n ≤ l.length) (h1 : leastF f < 0 → n = l.length) (h2 : leastF f ≤ n) : FOk l ⟨f.limit, f.kept, f.app.set t n, f.lost.set t false⟩ ∧ (0 ≤ leastF f → leastF ⟨f.limit, f.kept, f.app.set t n, f.lost.set t false⟩ = leastF f) := by
  have hlt : t < f.lost.length := (List.getElem?_eq_some_iff.1 hl).1
  have hap : ∀ (i : Nat) (x : Int), (f.app.set t (n : Int))[i]? = some x → 0 ≤ x ∧ x ≤ l.length := fun i x q => by
    rcases set_get q with ⟨_, rfl⟩ | ⟨_, q⟩
    · omega
    · exact h.ap i x q
  have hself := leastI_le (app := f.app.set t (n : Int)) (lost := f.lost.set t false) (fun i x q => (hap i x q).1) (t := t) (x := n) (List.getElem?_set_self (by have := h.ll; omega)) (List.getElem?_set_self hlt)
  have hL : leastF ⟨f.limit, f.kept, f.app.set t n, f.lost.set t false⟩ = leastI (f.app.set t (n : Int)) (f.lost.set t false) := rfl
  have hls : leastI (f.app.set t (n : Int)) (f.lost.set t false) = if leastF f < 0 then (n : Int) else leastF f := by
    obtain ⟨i, e1, e2⟩ := leastI_ex hself.1
    split
    · rename_i q
      rcases set_get e1 with ⟨_, e⟩ | ⟨ne, e⟩
      · exact e
      · rcases set_get e2 with ⟨e', _⟩ | ⟨_, e3⟩
        · exact absurd e' ne
        · have := leastI_le h.n0 e e3
          rw [← leastF_eq] at this; omega
    · rename_i q
      obtain ⟨j, g1, g2⟩ := leastI_ex (app := f.app) (lost := f.lost) (by rw [← leastF_eq]; omega)
      rw [← leastF_eq] at g1
      have hjt : t ≠ j := fun e => by subst e; rw [hl] at g2; cases g2
      have g3 := leastI_le (app := f.app.set t (n : Int)) (lost := f.lost.set t false) (fun i x q => (hap i x q).1) (t := j) (x := leastF f) (by rw [List.getElem?_set_ne hjt]; exact g1) (by rw [List.getElem?_set_ne hjt]; exact g2)
      rcases set_get e1 with ⟨_, e⟩ | ⟨ne, e⟩
      · omega
      · rcases set_get e2 with ⟨e', _⟩ | ⟨_, e3⟩
        · exact absurd e' ne
        · have := leastI_le h.n0 e e3
          rw [← leastF_eq] at this; omega
  refine ⟨⟨by show 1 ≤ (f.app.set t (n : Int)).length; rw [List.length_set]; exact h.a1, by show (f.app.set t (n : Int)).length ≤ 4; rw [List.length_set]; exact h.a4, by show (f.lost.set t false).length = (f.app.set t (n : Int)).length; rw [List.length_set, List.length_set]; exact h.ll, h.l1, h.l4, hap, ?_, h.kl⟩, fun q => by rw [hL, hls, if_neg (by omega)]⟩
  show f.kept = _
  rw [hL, hls, h.kp, keptK]
  split
  · rename_i q
    rw [h1 q, keptK, if_neg (by omega), Int.toNat_natCast, List.drop_length]
  · rename_i q
    rw [keptK, if_neg q]
theorem find_drop (hc : Cys l) {a : Nat} : ∀ (d m : Nat), m + d = a → (l.drop m).find? (fun c => decide ((a : Int) < c.number)) = l[a]?
  | 0, m, h => by
    obtain rfl : m = a := h
    by_cases hm : m < l.length
    · rw [List.drop_eq_getElem_cons hm, List.find?_cons_of_pos (by simp [hc.nu m hm]; omega), List.getElem?_eq_getElem hm]
    · rw [List.drop_eq_nil_of_le (by omega), List.getElem?_eq_none (by omega)]; rfl
  | d + 1, m, h => by
    by_cases hm : m < l.length
    · rw [List.drop_eq_getElem_cons hm, List.find?_cons_of_neg (by simp [hc.nu m hm]; omega)]
      exact find_drop hc d (m + 1) (by omega)
    · rw [List.drop_eq_nil_of_le (by omega), List.getElem?_eq_none (by omega)]; rfl
theorem FOk.find (hc : Cys l) (h : FOk l f) (h0 : 0 ≤ leastF f) {a : Nat} (ha : leastF f ≤ a) : f.kept.find? (fun c => decide ((a : Int) < c.number)) = l[a]? := by
  obtain ⟨m, hm⟩ := Int.eq_ofNat_of_zero_le h0
  rw [h.kp, keptK, if_neg (by omega), hm]
  exact find_drop hc (a - m) m (by omega)
theorem FOk.exists0 (hc : Cys l) (hN : l.length ≤ 1000000) (h : FOk l f) {t : Nat} (ht : t < f.app.length) : existsF f t = 0 := existsF_in (h.chk hc hN) (by omega)
/-! ### The run -/
structure ROk (sz : List Int) (k : Nat) (R : Rn) : Prop where
  good : R.good = true
  cy : Cys R.cyc
  ck : R.cyc.length ≤ k
  kk : k ≤ 40
  fo : FOk R.cyc R.f
  tl : R.tgt.length = R.f.app.length
  sl : R.src.length = R.cyc.length + 1
  sE : sizesE sz = 0
  ss : ∀ x ∈ R.src, imgSz x = sz
  ts : ∀ x ∈ R.tgt, imgSz x = sz
  ap : ∀ (i : Nat) (c : Cyc) (x : Img), R.cyc[i]? = some c → R.src[i]? = some x → ∃ y, R.src[i + 1]? = some y ∧ apC x c = (y, 0)
  tg : ∀ (t : Nat) (n : Int), R.f.lost[t]? = some false → R.f.app[t]? = some n → R.tgt[t]? = R.src[n.toNat]?
variable {sz : List Int} {k : Nat} {R : Rn}
theorem ROk.N (h : ROk sz k R) : R.cyc.length ≤ 40 := Nat.le_trans h.ck h.kk
theorem ROk.chk (h : ROk sz k R) : chkF R.f = 0 := h.fo.chk h.cy (by have := h.N; omega)
theorem ROk.sm (h : ROk sz k R) : Sm R.f := h.fo.sm h.cy
theorem Rn.same {R : Rn} {b : Bool} (h : R.good = true) (hb : b = true) : { R with good := R.good && b } = R := by
  subst hb; rw [h]; obtain ⟨a, b, c, d, e⟩ := R; cases h; rfl
theorem ROk.up (h : ROk sz k R) {k' : Nat} (h1 : k ≤ k') (h2 : k' ≤ 40) : ROk sz k' R := ⟨h.good, h.cy, by have := h.ck; omega, h2, h.fo, h.tl, h.sl, h.sE, h.ss, h.ts, h.ap, h.tg⟩
theorem ROk.lose (h : ROk sz k R) {t : Nat} (ht : t < R.f.app.length) : ROk sz k (loseR R t) := by
  have hlt : t < R.f.lost.length := by have := h.fo.ll; omega
  have hex := h.fo.exists0 h.cy (by have := h.N; omega) ht
  have hgd : R.f.lost.getD t false = R.f.lost[t] := getD_at hlt _
  rw [loseR, loseF_in hex hlt, hgd]
  by_cases q : R.f.lost[t] = true
  · rw [if_pos q, if_pos q]
    rw [show ({ R with good := R.good && decide ((exF (Except.error 8)).2 = 8) } : Rn) = R from Rn.same h.good rfl]; exact h
  · rw [if_neg q, if_neg q]
    have hF := h.fo.loses h.cy t
    rw [if_pos ⟨h.good, rfl, by show R.f.app.length = _; exact h.tl.symm, by show (R.f.lost.set t true).length = _; rw [List.length_set, h.fo.ll, h.tl]⟩]
    refine ⟨h.good, h.cy, h.ck, h.kk, hF, h.tl, h.sl, h.sE, h.ss, h.ts, h.ap, fun i n q1 q2 => ?_⟩
    rcases set_get (show (R.f.lost.set t true)[i]? = some false from q1) with ⟨_, e⟩ | ⟨_, q3⟩
    · cases e
    · exact h.tg i n q3 q2
theorem ROk.join (h : ROk sz k R) {t : Nat} (ht : t < R.f.app.length) : ROk sz k (joinR R t) := by
  have hlt : t < R.f.lost.length := by have := h.fo.ll; omega
  have hN := h.N
  have hex := h.fo.exists0 h.cy (by omega) ht
  have hgd : R.f.lost.getD t false = R.f.lost[t] := getD_at hlt _
  by_cases q : R.f.lost[t] = false
  · rw [joinR, joinF_in hex hlt, hgd, if_pos q, if_pos q]
    rw [show ({ R with good := R.good && decide ((exF (Except.error 12)).2 = 12) } : Rn) = R from Rn.same h.good rfl]; exact h
  have q' : R.f.lost[t] = true := by simpa using q
  have hle := h.fo.le
  have hj : joinF R.f t R.cyc.length = .ok ⟨R.f.limit, R.f.kept, R.f.app.set t R.cyc.length, R.f.lost.set t false⟩ := by
    rw [joinF_in hex hlt, if_neg q, if_neg, if_neg]
    · rintro ⟨q1, q2⟩
      have hk : R.f.kept = [] := by rw [h.fo.kp, keptK, if_pos q1]
      have := fmax_le R.f.app 0 (fun x hx => (h.fo.mem hx).2) (by omega : (0 : Int) ≤ (R.cyc.length : Int))
      rw [newF, hk] at q2
      dsimp only [List.getLast?_nil] at q2
      omega
    · rintro ⟨q1, q2⟩
      rw [(h.fo.bnd h.cy q1 _).2 ⟨hle, Int.le_refl _⟩] at q2
      cases q2
  rw [joinR, hj, hgd, if_neg q]
  have hF := (h.fo.joins h.cy (t := t) (n := R.cyc.length) (by rw [List.getElem?_eq_getElem hlt, q']) (Nat.le_refl _) (fun _ => rfl) hle).1
  rw [if_pos ⟨h.good, rfl, by show (R.f.app.set t _).length = _; rw [List.length_set]; exact h.tl.symm, by show (R.f.lost.set t false).length = _; rw [List.length_set, h.fo.ll, h.tl]⟩]
  have hsN : R.cyc.length < R.src.length := by have := h.sl; omega
  have hsg : R.src.getD R.cyc.length [] = R.src[R.cyc.length] := getD_at hsN _
  refine ⟨h.good, h.cy, h.ck, h.kk, hF, by show (R.tgt.set _ _).length = (R.f.app.set _ _).length; rw [List.length_set, List.length_set]; exact h.tl, h.sl, h.sE, h.ss, fun x hx => ?_, h.ap, fun i n q1 q2 => ?_⟩
  · rcases List.mem_or_eq_of_mem_set hx with hx | rfl
    · exact h.ts x hx
    · rw [hsg]; exact h.ss _ (List.getElem_mem hsN)
  · show (R.tgt.set t _)[i]? = _
    rcases set_get (show (R.f.app.set t _)[i]? = some n from q2) with ⟨rfl, rfl⟩ | ⟨ne, q3⟩
    · rw [List.getElem?_set_self (by have := h.tl; omega), hsg, Int.toNat_natCast, List.getElem?_eq_getElem hsN]
    · rw [List.getElem?_set_ne (Ne.symm ne)]
      rcases set_get (show (R.f.lost.set t false)[i]? = some false from q1) with ⟨e, _⟩ | ⟨_, q4⟩
      · exact absurd e ne
      · exact h.tg i n q4 q3
theorem ROk.next (h : ROk sz k R) {t : Nat} (ht : t < R.f.app.length) : ROk sz k (nextR R t) ∧ (R.f.lost[t]? = some false → ∀ a : Nat, R.f.app[t]? = some (a : Int) → a < R.cyc.length → (nextR R t).f.app = R.f.app.set t ((a : Int) + 1)) ∧ (nextR R t).f.lost = R.f.lost ∧ (nextR R t).cyc = R.cyc ∧ (nextR R t).src = R.src := by
  have hlt : t < R.f.lost.length := by have := h.fo.ll; omega
  have hN := h.N
  have hex := h.fo.exists0 h.cy (by omega) ht
  have hgd : R.f.lost.getD t false = R.f.lost[t] := getD_at hlt _
  have hga : R.f.app.getD t 0 = R.f.app[t] := getD_at ht _
  have q0 : ∀ R' : Rn, nextR R t = R' → R' = R → ROk sz k (nextR R t) ∧ (nextR R t).f.app = R.f.app ∧ (nextR R t).f.lost = R.f.lost ∧ (nextR R t).cyc = R.cyc ∧ (nextR R t).src = R.src := fun R' h1 h2 => by
    rw [h1, h2]; exact ⟨h, rfl, rfl, rfl, rfl⟩
  by_cases q : R.f.lost[t] = true
  · obtain ⟨p1, p2, p3, p4, p5⟩ := q0 { R with good := R.good && !(nxC none).2 } (by rw [nextR, nextF_in hex ht hlt, hgd, hga, if_pos q, if_pos (.inl q)]) (Rn.same h.good rfl)
    exact ⟨p1, fun q2 => (by rw [List.getElem?_eq_getElem hlt, q] at q2; cases q2), p3, p4, p5⟩
  have q' : R.f.lost[t] = false := by simpa using q
  have hlo : R.f.lost[t]? = some false := by rw [List.getElem?_eq_getElem hlt, q']
  obtain ⟨a1, a2⟩ := h.fo.ap t _ (List.getElem?_eq_getElem ht)
  obtain ⟨a, ha⟩ := Int.eq_ofNat_of_zero_le a1
  have hat : R.f.app[t]? = some (a : Int) := by rw [List.getElem?_eq_getElem ht, ha]
  have hle := leastI_le h.fo.n0 hat hlo
  rw [← leastF_eq] at hle
  have hfd := h.fo.find h.cy hle.1 hle.2
  have hP : (nxP R.f.app[t]) = fun c : Cyc => decide ((a : Int) < c.number) := by rw [ha]; rfl
  by_cases e : a < R.cyc.length
  case neg =>
    obtain ⟨p1, p2, p3, p4, p5⟩ := q0 { R with good := R.good && !(nxC none).2 } (by rw [nextR, nextF_in hex ht hlt, hgd, hga, if_neg q, hP, hfd, List.getElem?_eq_none (by omega), if_pos (.inr (by omega))]) (Rn.same h.good rfl)
    exact ⟨p1, fun _ a' h1 h2 => (by rw [hat] at h1; have := Option.some.inj h1; omega), p3, p4, p5⟩
  have hgt : R.tgt.getD t [] = R.tgt[t]'(by have := h.tl; omega) := getD_at _ _
  have htg := h.tg t a hlo hat
  rw [Int.toNat_natCast] at htg
  have hsa : a < R.src.length := by have := h.sl; omega
  rw [List.getElem?_eq_getElem (by have := h.tl; omega), List.getElem?_eq_getElem hsa] at htg
  have htg' := Option.some.inj htg
  obtain ⟨y, y1, y2⟩ := h.ap a _ _ (List.getElem?_eq_getElem e) (List.getElem?_eq_getElem hsa)
  have hnum : numF R.f ((a : Int) + 1) = true := by
    rw [List.getElem?_eq_getElem e] at hfd
    exact List.any_eq_true.2 ⟨_, List.mem_of_find?_eq_some hfd, by rw [decide_eq_true_eq, h.cy.nu]⟩
  have hF := h.fo.applies h.cy hlo hat e
  have happ : appF R.f t ((a : Int) + 1) = .ok (tidyF ⟨R.f.limit, R.f.kept, R.f.app.set t ((a : Int) + 1), R.f.lost⟩) := by
    rw [appF_in hex ht hlt, if_neg q, if_neg (by omega), if_neg (by rw [hnum]; simp)]
  have hE : nextR R t = ⟨tidyF ⟨R.f.limit, R.f.kept, R.f.app.set t ((a : Int) + 1), R.f.lost⟩, R.cyc, R.src, R.tgt.set t y, R.good⟩ := by
    rw [nextR, nextF_in hex ht hlt, hgd, hga, if_neg q, hP, hfd, ha, List.getElem?_eq_getElem e, if_neg (by rw [q']; simp; omega), hgt, htg', show apC R.src[a] (nxC (some R.cyc[a])).1 = (y, 0) from y2, show (nxC (some R.cyc[a])).1.number = (a : Int) + 1 from h.cy.nu a e, happ]
    refine if_neg ?_
    have := h.cy.ba a e
    rintro (q1 | q1 | q1 | q1 | q1 | q1)
    · cases q1
    · exact q1 rfl
    · exact q1 rfl
    · exact q1 this
    · exact q1 (by show (R.f.app.set t _).length = _; rw [List.length_set]; exact h.tl.symm)
    · exact q1 (by show R.f.lost.length = _; rw [h.fo.ll]; exact h.tl.symm)
  rw [hE]
  refine ⟨⟨h.good, h.cy, h.ck, h.kk, hF, by show (R.tgt.set _ _).length = (R.f.app.set _ _).length; rw [List.length_set, List.length_set]; exact h.tl, h.sl, h.sE, h.ss, fun x hx => ?_, h.ap, fun i n q1 q2 => ?_⟩, fun _ a' h1 h2 => ?_, rfl, rfl, rfl⟩
  · rcases List.mem_or_eq_of_mem_set hx with hx | rfl
    · exact h.ts x hx
    · exact h.ss _ (List.mem_of_getElem? y1)
  · show (R.tgt.set t _)[i]? = _
    rcases set_get (show (R.f.app.set t _)[i]? = some n from q2) with ⟨rfl, rfl⟩ | ⟨ne, q3⟩
    · rw [List.getElem?_set_self (by have := h.tl; omega), show ((a : Int) + 1).toNat = a + 1 by omega]
      exact y1.symm
    · rw [List.getElem?_set_ne (Ne.symm ne)]
      exact h.tg i n q1 q3
  · rw [hat] at h1
    have := Option.some.inj h1
    show R.f.app.set t _ = _
    rw [this]
end Go.Proofs.YtpadnceoacbaeaaGreat
