import Derived.Test.YthakkopnoeinmaaA23
set_option linter.unusedSimpArgs false
set_option linter.unusedVariables false
namespace Go.Proofs.Ythakkopnoeinmaa
open Go.Proofs
set_option maxRecDepth 10000 in
theorem PacketBack_cc (H : Hp) (V : List Nat) (p : Pk) (m : Ms) : CC Try.prog 7 [.agg (pkC p), .agg (msC m)] H V (Pu (cb true) H V) := by
  refine CC.of_swp Try.func7 rfl (by kernel_rfl) (by rw [Try.ntmps7]; exact len_le _ _ rfl) fun hok hokH => ?_
  clear hok
  refine SWp.seq (Wp.s ?_)
  simp -implicitDefEqProofs [go_sem, args0]
  refine SWp.seq (Wp.s ?_)
  simp -implicitDefEqProofs [go_sem]
  refine CC.mono (few_cc _ _ _) ?_
  rintro _ _ _ ⟨rfl, rfl, rfl⟩
  rcases hf : (decide (p.sel.length ≤ 40) && decide (p.payload.length ≤ 5000)) with - | -
  · simp -implicitDefEqProofs [go_sem]
    refine CC.mono (awake_cc _ _) ?_
    rintro _ _ _ ⟨rfl, rfl, rfl⟩
    simp -implicitDefEqProofs [go_sem]
    exact Fin.bool rfl hokH (by simp) (by simp)
  simp only [Bool.and_eq_true, decide_eq_true_eq] at hf
  simp -implicitDefEqProofs [go_sem]
  refine CC.mono (fewMessage_cc _ _ _) ?_
  rintro _ _ _ ⟨rfl, rfl, rfl⟩
  rcases hg : (decide (m.values.length ≤ 5000) && decide (m.body.length ≤ 70000)) with - | -
  · simp -implicitDefEqProofs [go_sem]
    refine CC.mono (awake_cc _ _) ?_
    rintro _ _ _ ⟨rfl, rfl, rfl⟩
    simp -implicitDefEqProofs [go_sem]
    exact Fin.bool rfl hokH (by simp) (by simp)
  simp only [Bool.and_eq_true, decide_eq_true_eq] at hg
  simp -implicitDefEqProofs [go_sem]
  by_cases hp : checkP p = 0 <;> by_cases hm : errM m = 0
  · refine SWp.seq (SWp.seq (Wp.s ?_))
    simp -implicitDefEqProofs [go_sem]
    refine CC.mono (Encode_cc _ _ p (by omega)) ?_
    rintro _ _ _ ⟨rfl, rfl, rfl⟩
    rw [hp, encV_0]
    simp -implicitDefEqProofs [go_sem]
    refine SWp.seq (Wp.s ?_)
    simp -implicitDefEqProofs [go_sem]
    refine SWp.condT (by simp [go_sem]) (SWp.seq (Wp.s ?_))
    simp -implicitDefEqProofs [go_sem]
    refine CC.mono (DecPk_cc _ _ _ _ (by have := bodyP_len p; rw [encP, sealed_len]; omega)) ?_
    rintro _ _ _ ⟨rfl, rfl, rfl⟩
    rw [decPk_enc hp (by omega)]
    simp -implicitDefEqProofs [go_sem, dvPk]
    refine SWp.seq (Wp.s ?_)
    simp -implicitDefEqProofs [go_sem]
    refine CC.mono (sameP_cc _ _ p (by omega) (by omega)) ?_
    rintro _ _ _ ⟨rfl, rfl, rfl⟩
    simp -implicitDefEqProofs [go_sem]
    refine Wp.s ?_
    simp -implicitDefEqProofs [go_sem]
    refine SWp.seq (SWp.seq (Wp.s ?_))
    simp -implicitDefEqProofs [go_sem]
    refine CC.mono (EncodeMessage_cc _ _ m (by omega) (by omega)) ?_
    rintro _ _ _ ⟨rfl, rfl, rfl⟩
    rw [hm, encV_0]
    obtain ⟨hm1, hm2⟩ := errM_ok hm
    simp -implicitDefEqProofs [go_sem]
    refine SWp.seq (Wp.s ?_)
    simp -implicitDefEqProofs [go_sem]
    refine SWp.condT (by simp [go_sem]) (SWp.seq (Wp.s ?_))
    simp -implicitDefEqProofs [go_sem]
    refine CC.mono (DecMs_cc _ _ _ _ (by omega)) ?_
    rintro _ _ _ ⟨rfl, rfl, rfl⟩
    rw [decMs_enc hm1 hm2]
    simp -implicitDefEqProofs [go_sem, dvMs]
    refine SWp.seq (Wp.s ?_)
    simp -implicitDefEqProofs [go_sem]
    refine CC.mono (sameM_cc _ _ m (by omega) (by omega)) ?_
    rintro _ _ _ ⟨rfl, rfl, rfl⟩
    simp -implicitDefEqProofs [go_sem]
    refine Wp.s ?_
    simp -implicitDefEqProofs [go_sem]
    refine Wp.s ?_
    simp -implicitDefEqProofs [go_sem]
    refine CC.mono (awake_cc _ _) ?_
    rintro _ _ _ ⟨rfl, rfl, rfl⟩
    simp -implicitDefEqProofs [go_sem]
    exact Fin.bool rfl hokH (by simp) (by simp)
  · refine SWp.seq (SWp.seq (Wp.s ?_))
    simp -implicitDefEqProofs [go_sem]
    refine CC.mono (Encode_cc _ _ p (by omega)) ?_
    rintro _ _ _ ⟨rfl, rfl, rfl⟩
    rw [hp, encV_0]
    simp -implicitDefEqProofs [go_sem]
    refine SWp.seq (Wp.s ?_)
    simp -implicitDefEqProofs [go_sem]
    refine SWp.condT (by simp [go_sem]) (SWp.seq (Wp.s ?_))
    simp -implicitDefEqProofs [go_sem]
    refine CC.mono (DecPk_cc _ _ _ _ (by have := bodyP_len p; rw [encP, sealed_len]; omega)) ?_
    rintro _ _ _ ⟨rfl, rfl, rfl⟩
    rw [decPk_enc hp (by omega)]
    simp -implicitDefEqProofs [go_sem, dvPk]
    refine SWp.seq (Wp.s ?_)
    simp -implicitDefEqProofs [go_sem]
    refine CC.mono (sameP_cc _ _ p (by omega) (by omega)) ?_
    rintro _ _ _ ⟨rfl, rfl, rfl⟩
    simp -implicitDefEqProofs [go_sem]
    refine Wp.s ?_
    simp -implicitDefEqProofs [go_sem]
    refine SWp.seq (SWp.seq (Wp.s ?_))
    simp -implicitDefEqProofs [go_sem]
    refine CC.mono (EncodeMessage_cc _ _ m (by omega) (by omega)) ?_
    rintro _ _ _ ⟨rfl, rfl, rfl⟩
    rw [encV_ne hm]
    simp -implicitDefEqProofs [go_sem]
    refine SWp.seq (Wp.s ?_)
    simp -implicitDefEqProofs [go_sem, hm]
    refine SWp.condF (by simp [go_sem, hm]) (SWp.seq (Wp.s ?_))
    simp -implicitDefEqProofs [go_sem]
    refine Wp.s ?_
    simp -implicitDefEqProofs [go_sem]
    refine Wp.s ?_
    simp -implicitDefEqProofs [go_sem]
    refine CC.mono (awake_cc _ _) ?_
    rintro _ _ _ ⟨rfl, rfl, rfl⟩
    simp -implicitDefEqProofs [go_sem]
    exact Fin.bool rfl hokH (by simp) (by simp)
  · refine SWp.seq (SWp.seq (Wp.s ?_))
    simp -implicitDefEqProofs [go_sem]
    refine CC.mono (Encode_cc _ _ p (by omega)) ?_
    rintro _ _ _ ⟨rfl, rfl, rfl⟩
    rw [encV_ne hp]
    simp -implicitDefEqProofs [go_sem]
    refine SWp.seq (Wp.s ?_)
    simp -implicitDefEqProofs [go_sem, hp]
    refine SWp.condF (by simp [go_sem, hp]) (SWp.seq (Wp.s ?_))
    simp -implicitDefEqProofs [go_sem]
    refine CC.mono (Check_cc _ _ p (by omega)) ?_
    rintro _ _ _ ⟨rfl, rfl, rfl⟩
    simp -implicitDefEqProofs [go_sem]
    refine Wp.s ?_
    simp -implicitDefEqProofs [go_sem]
    refine SWp.seq (SWp.seq (Wp.s ?_))
    simp -implicitDefEqProofs [go_sem]
    refine CC.mono (EncodeMessage_cc _ _ m (by omega) (by omega)) ?_
    rintro _ _ _ ⟨rfl, rfl, rfl⟩
    rw [hm, encV_0]
    obtain ⟨hm1, hm2⟩ := errM_ok hm
    simp -implicitDefEqProofs [go_sem]
    refine SWp.seq (Wp.s ?_)
    simp -implicitDefEqProofs [go_sem]
    refine SWp.condT (by simp [go_sem]) (SWp.seq (Wp.s ?_))
    simp -implicitDefEqProofs [go_sem]
    refine CC.mono (DecMs_cc _ _ _ _ (by omega)) ?_
    rintro _ _ _ ⟨rfl, rfl, rfl⟩
    rw [decMs_enc hm1 hm2]
    simp -implicitDefEqProofs [go_sem, dvMs]
    refine SWp.seq (Wp.s ?_)
    simp -implicitDefEqProofs [go_sem]
    refine CC.mono (sameM_cc _ _ m (by omega) (by omega)) ?_
    rintro _ _ _ ⟨rfl, rfl, rfl⟩
    simp -implicitDefEqProofs [go_sem]
    refine Wp.s ?_
    simp -implicitDefEqProofs [go_sem]
    refine Wp.s ?_
    simp -implicitDefEqProofs [go_sem]
    refine CC.mono (awake_cc _ _) ?_
    rintro _ _ _ ⟨rfl, rfl, rfl⟩
    simp -implicitDefEqProofs [go_sem]
    exact Fin.bool rfl hokH (by simp) (by simp)
  · refine SWp.seq (SWp.seq (Wp.s ?_))
    simp -implicitDefEqProofs [go_sem]
    refine CC.mono (Encode_cc _ _ p (by omega)) ?_
    rintro _ _ _ ⟨rfl, rfl, rfl⟩
    rw [encV_ne hp]
    simp -implicitDefEqProofs [go_sem]
    refine SWp.seq (Wp.s ?_)
    simp -implicitDefEqProofs [go_sem, hp]
    refine SWp.condF (by simp [go_sem, hp]) (SWp.seq (Wp.s ?_))
    simp -implicitDefEqProofs [go_sem]
    refine CC.mono (Check_cc _ _ p (by omega)) ?_
    rintro _ _ _ ⟨rfl, rfl, rfl⟩
    simp -implicitDefEqProofs [go_sem]
    refine Wp.s ?_
    simp -implicitDefEqProofs [go_sem]
    refine SWp.seq (SWp.seq (Wp.s ?_))
    simp -implicitDefEqProofs [go_sem]
    refine CC.mono (EncodeMessage_cc _ _ m (by omega) (by omega)) ?_
    rintro _ _ _ ⟨rfl, rfl, rfl⟩
    rw [encV_ne hm]
    simp -implicitDefEqProofs [go_sem]
    refine SWp.seq (Wp.s ?_)
    simp -implicitDefEqProofs [go_sem, hm]
    refine SWp.condF (by simp [go_sem, hm]) (SWp.seq (Wp.s ?_))
    simp -implicitDefEqProofs [go_sem]
    refine Wp.s ?_
    simp -implicitDefEqProofs [go_sem]
    refine Wp.s ?_
    simp -implicitDefEqProofs [go_sem]
    refine CC.mono (awake_cc _ _) ?_
    rintro _ _ _ ⟨rfl, rfl, rfl⟩
    simp -implicitDefEqProofs [go_sem]
    exact Fin.bool rfl hokH (by simp) (by simp)
end Go.Proofs.Ythakkopnoeinmaa
