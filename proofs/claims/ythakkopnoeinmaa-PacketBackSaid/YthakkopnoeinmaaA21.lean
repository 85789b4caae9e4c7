import Derived.Test.YthakkopnoeinmaaA20
set_option linter.unusedSimpArgs false
set_option linter.unusedVariables false
namespace Go.Proofs.Ythakkopnoeinmaa
open Go.Proofs
theorem LeT {sz : Nat} {tk : Tk} {xs ys : List (List CV)} (h : xs = ys) : Le (.sl tk sz xs) (.sl .sh sz ys) := by subst h; exact .sh ..
theorem LeN {sz : Nat} {ys : List (List CV)} (hs : 0 < sz) (h : ys = []) : Le (.v (.slice none 0 0)) (.sl .sh sz ys) := by subst h; exact .nil sz hs
theorem LeL.head {a b : CV} {l m : List CV} (h : LeL (a :: l) (b :: m)) : Le a b := by cases h; assumption
theorem exPkArg {tk : Tk} : LeL [.agg [ci 1, ci 1, ci 0, ci 5, ci 8, .sl tk 2 [[ci 7, ci 2]], .v (.slice none 0 0)]] [.agg (pkC exPk)] :=
  .cons (.agg (.cons (.refl _) (.cons (.refl _) (.cons (.refl _) (.cons (.refl _) (.cons (.refl _) (.cons (LeT rfl) (.cons (LeN (by decide) rfl) .nil)))))))) .nil
theorem exPk2Arg {tk : Tk} : LeL [.agg [ci 1, ci 1, ci 0, ci 5, ci 8, .sl tk 2 [[ci 5, ci 2]], .v (.slice none 0 0)]] [.agg (pkC exPk2)] :=
  .cons (.agg (.cons (.refl _) (.cons (.refl _) (.cons (.refl _) (.cons (.refl _) (.cons (.refl _) (.cons (LeT rfl) (.cons (LeN (by decide) rfl) .nil)))))))) .nil
theorem exMs1Arg : LeL [.agg [ci 27, ci 0, ci 0, ci 0, ci 0, ci 0, .v (.slice none 0 0), .v (.slice none 0 0)]] [.agg (msC exMs1)] :=
  .cons (.agg (.cons (.refl _) (.cons (.refl _) (.cons (.refl _) (.cons (.refl _) (.cons (.refl _) (.cons (.refl _) (.cons (LeN (by decide) rfl) (.cons (LeN (by decide) rfl) .nil))))))))) .nil
theorem exMs2Arg : LeL [.agg [ci 1, ci 0, ci 0, ci 0, ci (-1), ci 0, .v (.slice none 0 0), .v (.slice none 0 0)]] [.agg (msC exMs2)] :=
  .cons (.agg (.cons (.refl _) (.cons (.refl _) (.cons (.refl _) (.cons (.refl _) (.cons (.refl _) (.cons (.refl _) (.cons (LeN (by decide) rfl) (.cons (LeN (by decide) rfl) .nil))))))))) .nil
theorem exMs3Arg {tk : Tk} : LeL [.agg [ci 1, ci 0, ci 0, ci 0, ci 0, ci 0, .v (.slice none 0 0), .sl tk 1 [[.v (.int .u8 3)]]]] [.agg (msC exMs3)] :=
  .cons (.agg (.cons (.refl _) (.cons (.refl _) (.cons (.refl _) (.cons (.refl _) (.cons (.refl _) (.cons (.refl _) (.cons (LeN (by decide) rfl) (.cons (LeT rfl) .nil))))))))) .nil
theorem exFront_bs : bs exFront = [[.v (.int .u8 1)], [.v (.int .u8 1)], [.v (.int .u8 0)], [.v (.int .u8 5)], [.v (.int .u8 8)], [.v (.int .u8 1)], [.v (.int .u8 7)], [.v (.int .u8 2)], [.v (.int .u8 0)]] := rfl
theorem sameP_cc (H : Hp) (V : List Nat) (p : Pk) (h1 : p.sel.length ≤ 900000000) (h2 : p.payload.length ≤ 900000000) : CC Try.prog 26 [.agg (pkC p), .agg (pkC p)] H V (Pu (cb true) H V) :=
  Same_cc H V _ _ _ _ _ _ _ (refl62 _ h1) (refl63 _ h2) rfl rfl rfl rfl
theorem sameZ_cc (H : Hp) (V : List Nat) : CC Try.prog 26 [.agg pkZ, .agg pkZ] H V (Pu (cb true) H V) :=
  Same_cc H V _ _ _ _ _ _ _ refl62_nil refl63_nil rfl rfl rfl rfl
theorem sameM_cc (H : Hp) (V : List Nat) (m : Ms) (h1 : m.values.length ≤ 900000000) (h2 : m.body.length ≤ 900000000) : CC Try.prog 27 [.agg (msC m), .agg (msC m)] H V (Pu (cb true) H V) :=
  SameMs_cc H V _ _ _ _ _ _ m.values h1 _ (refl63 _ h2) rfl
theorem sameMZ_cc (H : Hp) (V : List Nat) : CC Try.prog 27 [.agg msZ, .agg msZ] H V (Pu (cb true) H V) :=
  SameMz_cc H V _ _ _ _ _ _ _ refl63_nil rfl
theorem exPk_enc : encP exPk = exFront ++ crc4 exFront := by rw [encP, exPk_body]; rfl
theorem exPk_c5 : pkC exPk = [ci 1, ci 1, ci 0, ci 5, ci 8, .sl .sh 2 [[ci 7, ci 2]], .sl .sh 1 []] := rfl
theorem gapsArg {tk : Tk} : LeL [.sl .sh 2 ((gapsP exPk).map extC), .sl tk 2 [[ci 5, ci 2]]] [.sl .sh 2 ([(⟨5, 2⟩ : Ext2)].map extC), .sl .sh 2 ([(⟨5, 2⟩ : Ext2)].map extC)] := by
  rw [exPk_gaps]
  exact .cons (.refl _) (.cons (LeT rfl) .nil)
set_option maxRecDepth 10000 in
theorem awake_cc (H : Hp) (V : List Nat) : CC Try.prog 12 [] H V (Pu (cb true) H V) := by
  refine CC.of_swp Try.func12 rfl (by kernel_rfl) (by rw [Try.ntmps12]; exact len_le _ _ rfl) fun hok hokH => ?_
  refine SWp.seq (Wp.s ?_)
  simp -implicitDefEqProofs [go_sem, args0]
  refine SWp.seq (Wp.s ?_)
  simp -implicitDefEqProofs [go_sem]
  refine SWp.seq (Wp.s ?_)
  simp -implicitDefEqProofs [go_sem]
  refine CC.mono (CC.args exPkArg (Encode_cc _ _ exPk (by decide))) ?_
  rintro _ _ _ ⟨rfl, rfl, rfl⟩
  rw [exPk_check, encV_0]
  simp -implicitDefEqProofs [go_sem]
  refine SWp.seq (Wp.s ?_)
  simp -implicitDefEqProofs [go_sem]
  rw [← exFront_bs]
  refine SWp.seq (Wp.s ?_)
  simp -implicitDefEqProofs [go_sem]
  refine CC.mono (refSum_cc _ _ _ exFront (by decide)) ?_
  rintro _ _ _ ⟨rfl, rfl, rfl⟩
  simp -implicitDefEqProofs [go_sem]
  refine SWp.seq (Wp.s ?_)
  simp -implicitDefEqProofs [go_sem]
  refine CC.mono (DecPk_cc _ _ _ (encP exPk) (by rw [encP, exPk_body, sealed_len]; decide)) ?_
  rintro _ _ _ ⟨rfl, rfl, rfl⟩
  rw [decPk_enc exPk_check (by decide)]
  simp -implicitDefEqProofs [go_sem, dvPk]
  refine SWp.seq (Wp.s ?_)
  simp -implicitDefEqProofs [go_sem]
  refine CC.mono (CC.args exMs1Arg (EncodeMessage_cc _ _ exMs1 (by decide) (by decide))) ?_
  rintro _ _ _ ⟨rfl, rfl, rfl⟩
  rw [exMs1_check, encV_ne (by decide)]
  simp -implicitDefEqProofs [go_sem]
  refine SWp.seq (Wp.s ?_)
  simp -implicitDefEqProofs [go_sem]
  refine CC.mono (CC.args exMs2Arg (EncodeMessage_cc _ _ exMs2 (by decide) (by decide))) ?_
  rintro _ _ _ ⟨rfl, rfl, rfl⟩
  rw [exMs2_check, encV_ne (by decide)]
  simp -implicitDefEqProofs [go_sem]
  refine SWp.seq (Wp.s ?_)
  simp -implicitDefEqProofs [go_sem]
  refine CC.mono (CC.args exMs3Arg (EncodeMessage_cc _ _ exMs3 (by decide) (by decide))) ?_
  rintro _ _ _ ⟨rfl, rfl, rfl⟩
  rw [errM_0 exMs3_check exMs3_len, encV_0]
  simp -implicitDefEqProofs [go_sem]
  refine SWp.seq (Wp.s ?_)
  simp -implicitDefEqProofs [go_sem]
  refine CC.mono (DecMs_cc _ _ _ (encM exMs3) (by have := exMs3_len; omega)) ?_
  rintro _ _ _ ⟨rfl, rfl, rfl⟩
  rw [decMs_enc exMs3_check exMs3_len]
  simp -implicitDefEqProofs [go_sem, dvMs]
  refine SWp.seq (Wp.s ?_)
  simp -implicitDefEqProofs [go_sem, shr8R, shr16R, shr24R, crc4_bytes]
  refine ⟨by decide, ?_⟩
  refine CC.mono (Equal_cc _ _ _ _ _ _) ?_
  rintro _ _ _ ⟨rfl, rfl, rfl⟩
  rw [show same (encP exPk) (exFront ++ crc4 exFront) = true by rw [exPk_enc]; simp [same]]
  simp -implicitDefEqProofs [go_sem]
  refine CC.mono (CC.args (.cons exPkArg.head (.cons (.refl _) .nil)) (sameP_cc _ _ exPk (by decide) (by decide))) ?_
  rintro _ _ _ ⟨rfl, rfl, rfl⟩
  simp -implicitDefEqProofs [go_sem, show exMs3.kind = 1 from rfl, show exMs3.body.length = 1 from rfl]
  refine SWp.seq (Wp.s ?_)
  simp -implicitDefEqProofs [go_sem]
  refine SWp.seq (Wp.s ?_)
  simp -implicitDefEqProofs [go_sem]
  refine CC.mono (Gaps_cc _ _ exPk (by decide)) ?_
  rintro _ _ _ ⟨rfl, rfl, rfl⟩
  simp -implicitDefEqProofs [go_sem]
  refine CC.mono (CC.args gapsArg (eqExts_cc _ _ _ _ [⟨5, 2⟩] (by decide))) ?_
  rintro _ _ _ ⟨rfl, rfl, rfl⟩
  simp -implicitDefEqProofs [go_sem]
  refine CC.mono (CC.args exPk2Arg (Check_cc _ _ exPk2 (by decide))) ?_
  rintro _ _ _ ⟨rfl, rfl, rfl⟩
  rw [exPk2_check]
  simp -implicitDefEqProofs [go_sem]
  refine Wp.s ?_
  simp -implicitDefEqProofs [go_sem]
  exact Fin.bool rfl hokH (by simp) (by simp)
end Go.Proofs.Ythakkopnoeinmaa
namespace Go.Proofs.Ythakkopnoeinmaa
open Go.Proofs
theorem gapsL_len : ∀ (l : List Ext2) (a : Int), (gapsL a l).length = l.length
  | [], _ => rfl
  | x :: l, a => by rw [gapsL, List.length_cons, gapsL_len l, List.length_cons]
theorem gapsP_len (p : Pk) : (gapsP p).length ≤ p.sel.length := by
  unfold gapsP
  split
  · rw [gapsL_len]; omega
  · exact Nat.zero_le _
theorem PacketChecks_cc (H : Hp) (V : List Nat) (p : Pk) : CC Try.prog 3 [.agg (pkC p)] H V (Pu (cb true) H V) := by
  refine CC.of_swp Try.func3 rfl (by kernel_rfl) (by rw [Try.ntmps3]; exact len_le _ _ rfl) fun hok hokH => ?_
  clear hok
  refine SWp.seq (Wp.s ?_)
  simp -implicitDefEqProofs [go_sem, args0]
  refine SWp.seq (Wp.s ?_)
  simp -implicitDefEqProofs [go_sem]
  refine CC.mono (few_cc _ _ _) ?_
  rintro _ _ _ ⟨rfl, rfl, rfl⟩
  rcases hf : (decide (p.sel.length ≤ 40) && decide (p.payload.length ≤ 5000)) with - | -
  · simp -implicitDefEqProofs [go_sem]
    refine CC.mono (awake_cc _ _) ?_
    rintro _ _ _ ⟨rfl, rfl, rfl⟩
    simp -implicitDefEqProofs [go_sem]
    exact Fin.bool rfl hokH (by simp) (by simp)
  simp only [Bool.and_eq_true, decide_eq_true_eq] at hf
  simp -implicitDefEqProofs [go_sem]
  refine SWp.seq (SWp.drawnL [0, 2, 1, 3, 4, 5, 6, 8, 7, 9, 10, 11, 12, 13, 14, 15] (by kernel_rfl) (by kernel_rfl) rfl ?_)
  simp -implicitDefEqProofs [go_sem]
  refine CC.mono (Check_cc _ _ _ (by omega)) ?_
  rintro _ _ _ ⟨rfl, rfl, rfl⟩
  simp -implicitDefEqProofs [go_sem]
  refine CC.mono (refCheck_cc _ _ _ (by omega)) ?_
  rintro _ _ _ ⟨rfl, rfl, rfl⟩
  simp -implicitDefEqProofs [go_sem]
  refine CC.mono (Gaps_cc _ _ _ (by omega)) ?_
  rintro _ _ _ ⟨rfl, rfl, rfl⟩
  simp -implicitDefEqProofs [go_sem]
  refine CC.mono (refGaps_cc _ _ _ (by omega)) ?_
  rintro _ _ _ ⟨rfl, rfl, rfl⟩
  simp -implicitDefEqProofs [go_sem]
  refine CC.mono (eqExts_cc _ _ _ _ _ (by have := gapsP_len p; omega)) ?_
  rintro _ _ _ ⟨rfl, rfl, rfl⟩
  simp -implicitDefEqProofs [go_sem]
  refine CC.mono (awake_cc _ _) ?_
  rintro _ _ _ ⟨rfl, rfl, rfl⟩
  simp -implicitDefEqProofs [go_sem]
  refine Wp.s ?_
  simp -implicitDefEqProofs [go_sem]
  exact Fin.bool rfl hokH (by simp) (by simp)
theorem PacketEncodes_cc (H : Hp) (V : List Nat) (p : Pk) : CC Try.prog 4 [.agg (pkC p)] H V (Pu (cb true) H V) := by
  refine CC.of_swp Try.func4 rfl (by kernel_rfl) (by rw [Try.ntmps4]; exact len_le _ _ rfl) fun hok hokH => ?_
  clear hok
  refine SWp.seq (Wp.s ?_)
  simp -implicitDefEqProofs [go_sem, args0]
  refine SWp.seq (Wp.s ?_)
  simp -implicitDefEqProofs [go_sem]
  refine CC.mono (few_cc _ _ _) ?_
  rintro _ _ _ ⟨rfl, rfl, rfl⟩
  rcases hf : (decide (p.sel.length ≤ 40) && decide (p.payload.length ≤ 5000)) with - | -
  · simp -implicitDefEqProofs [go_sem]
    refine CC.mono (awake_cc _ _) ?_
    rintro _ _ _ ⟨rfl, rfl, rfl⟩
    simp -implicitDefEqProofs [go_sem]
    exact Fin.bool rfl hokH (by simp) (by simp)
  simp only [Bool.and_eq_true, decide_eq_true_eq] at hf
  simp -implicitDefEqProofs [go_sem]
  refine SWp.seq (Wp.s ?_)
  simp -implicitDefEqProofs [go_sem]
  refine CC.mono (Encode_cc _ _ _ (by omega)) ?_
  rintro _ _ _ ⟨rfl, rfl, rfl⟩
  by_cases he : checkP p = 0
  · rw [he, encV_0]
    simp -implicitDefEqProofs [go_sem]
    refine SWp.seq (Wp.s ?_)
    simp -implicitDefEqProofs [go_sem]
    refine CC.mono (refEncode_cc _ _ _ (by omega)) ?_
    rintro _ _ _ ⟨rfl, rfl, rfl⟩
    rw [he, encV_0]
    simp -implicitDefEqProofs [go_sem]
    refine SWp.seq (Wp.s ?_)
    simp -implicitDefEqProofs [go_sem]
    refine CC.mono (Equal_cc _ _ _ _ _ _) ?_
    rintro _ _ _ ⟨rfl, rfl, rfl⟩
    rw [show same (encP p) (encP p) = true by simp [same]]
    simp -implicitDefEqProofs [go_sem]
    refine CC.mono (awake_cc _ _) ?_
    rintro _ _ _ ⟨rfl, rfl, rfl⟩
    simp -implicitDefEqProofs [go_sem]
    refine Wp.s ?_
    simp -implicitDefEqProofs [go_sem]
    exact Fin.bool rfl hokH (by simp) (by simp)
  · rw [encV_ne he]
    simp -implicitDefEqProofs [go_sem]
    refine SWp.seq (Wp.s ?_)
    simp -implicitDefEqProofs [go_sem]
    refine CC.mono (refEncode_cc _ _ _ (by omega)) ?_
    rintro _ _ _ ⟨rfl, rfl, rfl⟩
    rw [encV_ne he]
    simp -implicitDefEqProofs [go_sem]
    refine SWp.seq (Wp.s ?_)
    simp -implicitDefEqProofs [go_sem]
    refine CC.mono (CC.nil2 (by decide) (by decide) (Equal_cc _ _ .sh .sh [] [])) ?_
    rintro _ _ _ ⟨rfl, rfl, rfl⟩
    rw [show same [] [] = true by rfl]
    simp -implicitDefEqProofs [go_sem]
    refine CC.mono (awake_cc _ _) ?_
    rintro _ _ _ ⟨rfl, rfl, rfl⟩
    simp -implicitDefEqProofs [go_sem]
    refine Wp.s ?_
    simp -implicitDefEqProofs [go_sem]
    exact Fin.bool rfl hokH (by simp) (by simp)
theorem PacketMessages_cc (H : Hp) (V : List Nat) (p : Ms) : CC Try.prog 6 [.agg (msC p)] H V (Pu (cb true) H V) := by
  refine CC.of_swp Try.func6 rfl (by kernel_rfl) (by rw [Try.ntmps6]; exact len_le _ _ rfl) fun hok hokH => ?_
  clear hok
  refine SWp.seq (Wp.s ?_)
  simp -implicitDefEqProofs [go_sem, args0]
  refine SWp.seq (Wp.s ?_)
  simp -implicitDefEqProofs [go_sem]
  refine CC.mono (fewMessage_cc _ _ _) ?_
  rintro _ _ _ ⟨rfl, rfl, rfl⟩
  rcases hf : (decide (p.values.length ≤ 5000) && decide (p.body.length ≤ 70000)) with - | -
  · simp -implicitDefEqProofs [go_sem]
    refine CC.mono (awake_cc _ _) ?_
    rintro _ _ _ ⟨rfl, rfl, rfl⟩
    simp -implicitDefEqProofs [go_sem]
    exact Fin.bool rfl hokH (by simp) (by simp)
  simp only [Bool.and_eq_true, decide_eq_true_eq] at hf
  simp -implicitDefEqProofs [go_sem]
  refine SWp.seq (Wp.s ?_)
  simp -implicitDefEqProofs [go_sem]
  refine CC.mono (EncodeMessage_cc _ _ _ (by omega) (by omega)) ?_
  rintro _ _ _ ⟨rfl, rfl, rfl⟩
  by_cases he : errM p = 0
  · rw [he, encV_0]
    simp -implicitDefEqProofs [go_sem]
    refine SWp.seq (Wp.s ?_)
    simp -implicitDefEqProofs [go_sem]
    refine CC.mono (refEncodeMessage_cc _ _ _ (by omega) (by omega)) ?_
    rintro _ _ _ ⟨rfl, rfl, rfl⟩
    rw [he, encV_0]
    simp -implicitDefEqProofs [go_sem]
    refine SWp.seq (Wp.s ?_)
    simp -implicitDefEqProofs [go_sem]
    refine CC.mono (Equal_cc _ _ _ _ _ _) ?_
    rintro _ _ _ ⟨rfl, rfl, rfl⟩
    rw [show same (encM p) (encM p) = true by simp [same]]
    simp -implicitDefEqProofs [go_sem]
    refine CC.mono (awake_cc _ _) ?_
    rintro _ _ _ ⟨rfl, rfl, rfl⟩
    simp -implicitDefEqProofs [go_sem]
    refine Wp.s ?_
    simp -implicitDefEqProofs [go_sem]
    exact Fin.bool rfl hokH (by simp) (by simp)
  · rw [encV_ne he]
    simp -implicitDefEqProofs [go_sem]
    refine SWp.seq (Wp.s ?_)
    simp -implicitDefEqProofs [go_sem]
    refine CC.mono (refEncodeMessage_cc _ _ _ (by omega) (by omega)) ?_
    rintro _ _ _ ⟨rfl, rfl, rfl⟩
    rw [encV_ne he]
    simp -implicitDefEqProofs [go_sem]
    refine SWp.seq (Wp.s ?_)
    simp -implicitDefEqProofs [go_sem]
    refine CC.mono (CC.nil2 (by decide) (by decide) (Equal_cc _ _ .sh .sh [] [])) ?_
    rintro _ _ _ ⟨rfl, rfl, rfl⟩
    rw [show same [] [] = true by rfl]
    simp -implicitDefEqProofs [go_sem]
    refine CC.mono (awake_cc _ _) ?_
    rintro _ _ _ ⟨rfl, rfl, rfl⟩
    simp -implicitDefEqProofs [go_sem]
    refine Wp.s ?_
    simp -implicitDefEqProofs [go_sem]
    exact Fin.bool rfl hokH (by simp) (by simp)
end Go.Proofs.Ythakkopnoeinmaa
