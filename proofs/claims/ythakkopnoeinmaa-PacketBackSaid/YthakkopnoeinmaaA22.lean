import Derived.Test.YthakkopnoeinmaaA21
set_option linter.unusedSimpArgs false
set_option linter.unusedVariables false
namespace Go.Proofs.Ythakkopnoeinmaa
open Go.Proofs
set_option maxRecDepth 10000 in
theorem PacketDecodes_cc (H : Hp) (V : List Nat) (b : List UInt8) : CC Try.prog 5 [.sl .sh 1 (bs b)] H V (Pu (cb true) H V) := by
  refine CC.of_swp Try.func5 rfl (by kernel_rfl) (by rw [Try.ntmps5]; exact len_le _ _ rfl) fun hok hokH => ?_
  clear hok
  refine SWp.seq (Wp.s ?_)
  simp -implicitDefEqProofs [go_sem, args0]
  refine SWp.seq (Wp.s ?_)
  by_cases hb : 1000 < b.length
  · simp -implicitDefEqProofs [go_sem, show (1000 : Int) < b.length by omega]
    refine CC.mono (awake_cc _ _) ?_
    rintro _ _ _ ⟨rfl, rfl, rfl⟩
    simp -implicitDefEqProofs [go_sem]
    exact Fin.bool rfl hokH (by simp) (by simp)
  simp -implicitDefEqProofs [go_sem, show ¬ (1000 : Int) < b.length by omega]
  refine SWp.join (α := Nat) (fun v => ([], H, V ++ [v])) (fun _ => True) ?_ ?_
  rotate_left
  · rintro v -
    dsimp only
    refine Wp.s ?_
    simp -implicitDefEqProofs [go_sem]
    refine CC.mono (awake_cc _ _) ?_
    rintro _ _ _ ⟨rfl, rfl, rfl⟩
    simp -implicitDefEqProofs [go_sem]
    exact Fin.bool rfl hokH (by simp) (by simp)
  refine SWp.seq (Wp.s ?_)
  simp -implicitDefEqProofs [go_sem]
  refine CC.mono (Sealed_cc _ _ _ _ (by omega)) ?_
  rintro _ _ _ ⟨v, rfl, rfl, rfl⟩
  simp -implicitDefEqProofs [go_sem]
  have hL2 : ∀ i (h : i < [[CV.sl .sh 1 (bs b)], [CV.sl (.own V.length v) 1 (bs (sealed b))]].length), ∃ tk x, [[CV.sl .sh 1 (bs b)], [CV.sl (.own V.length v) 1 (bs (sealed b))]][i] = [.sl tk 1 (bs x)] ∧ x.length ≤ 1004 := by
    intro i h
    match i, h with
    | 0, _ => exact ⟨.sh, b, rfl, by omega⟩
    | 1, _ => exact ⟨_, sealed b, rfl, by rw [sealed_len]; omega⟩
  have hL3 : okE H.length (V.length + 1) [[CV.sl .sh 1 (bs b)], [CV.sl (.own V.length v) 1 (bs (sealed b))]] := by simp [go_sem]
  have hL4 : [[CV.sl .sh 1 (bs b)], [CV.sl (.own V.length v) 1 (bs (sealed b))]].length = 2 := rfl
  generalize [[CV.sl .sh 1 (bs b)], [CV.sl (.own V.length v) 1 (bs (sealed b))]] = L at hL2 hL3 hL4 ⊢
  refine SWp.block ?_
  refine SWp.loop (α := Nat) (fun i => ([(20, .sl .ti 1 L), (21, ci 2), (22, ci i)], H, V ++ [v])) (fun i => i ≤ 2) (fun i => 2 - i) 0 (by omega) (Sh.forget (by simp [go_sem]) rfl rfl) ?_
  rintro i hi
  dsimp only at hi ⊢
  refine SWp.seq (Wp.s ?_)
  simp -implicitDefEqProofs [go_sem]
  refine SWp.seq (Wp.s ?_)
  simp -implicitDefEqProofs [go_sem]
  refine ⟨fun h => ?_, fun h => ⟨v, Sh.forget (by simp [go_sem]) rfl rfl⟩⟩
  obtain ⟨tk, x, hx, hxl⟩ := hL2 i (by omega)
  have hw := wrap_succ (show i ≤ 1000000000 by omega)
  refine SWp.seq (SWp.block ?_)
  refine SWp.seq (Wp.s ?_)
  simp -implicitDefEqProofs [go_sem, hL4, h, hx, show i < 2 by omega]
  rcases hp : decPk x with k | p <;> rcases hm : decMs x with k2 | m
  · refine SWp.seq (Wp.s ?_)
    simp -implicitDefEqProofs [go_sem]
    refine CC.mono (DecPk_cc _ _ _ _ (by omega)) ?_
    rintro _ _ _ ⟨rfl, rfl, rfl⟩
    rw [hp]
    simp -implicitDefEqProofs [go_sem, dvPk, pkZ]
    refine SWp.seq (Wp.s ?_)
    simp -implicitDefEqProofs [go_sem]
    refine CC.mono (refDecPk_cc _ _ _ _ (by omega)) ?_
    rintro _ _ _ ⟨rfl, rfl, rfl⟩
    rw [hp]
    simp -implicitDefEqProofs [go_sem, dvPk, pkZ]
    refine SWp.seq (Wp.s ?_)
    simp -implicitDefEqProofs [go_sem]
    refine CC.mono (DecMs_cc _ _ _ _ (by omega)) ?_
    rintro _ _ _ ⟨rfl, rfl, rfl⟩
    rw [hm]
    simp -implicitDefEqProofs [go_sem, dvMs, msZ]
    refine SWp.seq (Wp.s ?_)
    simp -implicitDefEqProofs [go_sem]
    refine CC.mono (refDecMs_cc _ _ _ _ (by omega)) ?_
    rintro _ _ _ ⟨rfl, rfl, rfl⟩
    rw [hm]
    simp -implicitDefEqProofs [go_sem, dvMs, msZ]
    refine SWp.seq (Wp.s ?_)
    simp -implicitDefEqProofs [go_sem]
    refine CC.mono (sameZ_cc _ _) ?_
    rintro _ _ _ ⟨rfl, rfl, rfl⟩
    simp -implicitDefEqProofs [go_sem]
    refine CC.mono (sameMZ_cc _ _) ?_
    rintro _ _ _ ⟨rfl, rfl, rfl⟩
    simp -implicitDefEqProofs [go_sem]
    refine Wp.s ?_
    simp -implicitDefEqProofs [go_sem]
    refine Wp.s ?_
    simp -implicitDefEqProofs [go_sem, hw]
    exact ⟨i + 1, by omega, by omega, Sh.cut H.length (V.length + 1) (by simp [go_sem]) (Nat.le_refl _) (by omega) (TOk.all (by simp [go_sem, hL3])) (fun b cs hb => okL_mono (Nat.le_refl _) (Nat.le_succ _) (hokH b cs hb)) (by simp) (List.take_of_length_le (by simp))⟩

  · refine SWp.seq (Wp.s ?_)
    simp -implicitDefEqProofs [go_sem]
    refine CC.mono (DecPk_cc _ _ _ _ (by omega)) ?_
    rintro _ _ _ ⟨rfl, rfl, rfl⟩
    rw [hp]
    simp -implicitDefEqProofs [go_sem, dvPk, pkZ]
    refine SWp.seq (Wp.s ?_)
    simp -implicitDefEqProofs [go_sem]
    refine CC.mono (refDecPk_cc _ _ _ _ (by omega)) ?_
    rintro _ _ _ ⟨rfl, rfl, rfl⟩
    rw [hp]
    simp -implicitDefEqProofs [go_sem, dvPk, pkZ]
    refine SWp.seq (Wp.s ?_)
    simp -implicitDefEqProofs [go_sem]
    refine CC.mono (DecMs_cc _ _ _ _ (by omega)) ?_
    rintro _ _ _ ⟨rfl, rfl, rfl⟩
    rw [hm]
    simp -implicitDefEqProofs [go_sem, dvMs]
    refine SWp.seq (Wp.s ?_)
    simp -implicitDefEqProofs [go_sem]
    refine CC.mono (refDecMs_cc _ _ _ _ (by omega)) ?_
    rintro _ _ _ ⟨rfl, rfl, rfl⟩
    rw [hm]
    simp -implicitDefEqProofs [go_sem, dvMs]
    refine SWp.seq (Wp.s ?_)
    simp -implicitDefEqProofs [go_sem]
    refine CC.mono (sameZ_cc _ _) ?_
    rintro _ _ _ ⟨rfl, rfl, rfl⟩
    simp -implicitDefEqProofs [go_sem]
    refine CC.mono (sameM_cc _ _ m (by have := (decMs_ok hm).2.2.2.1; omega) (by have := (decMs_ok hm).2.2.2.2; omega)) ?_
    rintro _ _ _ ⟨rfl, rfl, rfl⟩
    simp -implicitDefEqProofs [go_sem]
    refine Wp.s ?_
    simp -implicitDefEqProofs [go_sem]
    refine Wp.s ?_
    simp -implicitDefEqProofs [go_sem, hw]
    exact ⟨i + 1, by omega, by omega, Sh.cut H.length (V.length + 1) (by simp [go_sem]) (Nat.le_refl _) (by omega) (TOk.all (by simp [go_sem, hL3])) (fun b cs hb => okL_mono (Nat.le_refl _) (Nat.le_succ _) (hokH b cs hb)) (by simp) (List.take_of_length_le (by simp))⟩

  · refine SWp.seq (Wp.s ?_)
    simp -implicitDefEqProofs [go_sem]
    refine CC.mono (DecPk_cc _ _ _ _ (by omega)) ?_
    rintro _ _ _ ⟨rfl, rfl, rfl⟩
    rw [hp]
    simp -implicitDefEqProofs [go_sem, dvPk]
    refine SWp.seq (Wp.s ?_)
    simp -implicitDefEqProofs [go_sem]
    refine CC.mono (refDecPk_cc _ _ _ _ (by omega)) ?_
    rintro _ _ _ ⟨rfl, rfl, rfl⟩
    rw [hp]
    simp -implicitDefEqProofs [go_sem, dvPk]
    refine SWp.seq (Wp.s ?_)
    simp -implicitDefEqProofs [go_sem]
    refine CC.mono (DecMs_cc _ _ _ _ (by omega)) ?_
    rintro _ _ _ ⟨rfl, rfl, rfl⟩
    rw [hm]
    simp -implicitDefEqProofs [go_sem, dvMs, msZ]
    refine SWp.seq (Wp.s ?_)
    simp -implicitDefEqProofs [go_sem]
    refine CC.mono (refDecMs_cc _ _ _ _ (by omega)) ?_
    rintro _ _ _ ⟨rfl, rfl, rfl⟩
    rw [hm]
    simp -implicitDefEqProofs [go_sem, dvMs, msZ]
    refine SWp.seq (Wp.s ?_)
    simp -implicitDefEqProofs [go_sem]
    refine CC.mono (sameP_cc _ _ p (by have := (decPk_ok hp).2.2.2; omega) (by have := (checkP_ok (decPk_ok hp).2.1).payload; omega)) ?_
    rintro _ _ _ ⟨rfl, rfl, rfl⟩
    simp -implicitDefEqProofs [go_sem]
    refine CC.mono (sameMZ_cc _ _) ?_
    rintro _ _ _ ⟨rfl, rfl, rfl⟩
    simp -implicitDefEqProofs [go_sem]
    refine Wp.s ?_
    simp -implicitDefEqProofs [go_sem]
    refine Wp.s ?_
    simp -implicitDefEqProofs [go_sem, hw]
    exact ⟨i + 1, by omega, by omega, Sh.cut H.length (V.length + 1) (by simp [go_sem]) (Nat.le_refl _) (by omega) (TOk.all (by simp [go_sem, hL3])) (fun b cs hb => okL_mono (Nat.le_refl _) (Nat.le_succ _) (hokH b cs hb)) (by simp) (List.take_of_length_le (by simp))⟩

  · refine SWp.seq (Wp.s ?_)
    simp -implicitDefEqProofs [go_sem]
    refine CC.mono (DecPk_cc _ _ _ _ (by omega)) ?_
    rintro _ _ _ ⟨rfl, rfl, rfl⟩
    rw [hp]
    simp -implicitDefEqProofs [go_sem, dvPk]
    refine SWp.seq (Wp.s ?_)
    simp -implicitDefEqProofs [go_sem]
    refine CC.mono (refDecPk_cc _ _ _ _ (by omega)) ?_
    rintro _ _ _ ⟨rfl, rfl, rfl⟩
    rw [hp]
    simp -implicitDefEqProofs [go_sem, dvPk]
    refine SWp.seq (Wp.s ?_)
    simp -implicitDefEqProofs [go_sem]
    refine CC.mono (DecMs_cc _ _ _ _ (by omega)) ?_
    rintro _ _ _ ⟨rfl, rfl, rfl⟩
    rw [hm]
    simp -implicitDefEqProofs [go_sem, dvMs]
    refine SWp.seq (Wp.s ?_)
    simp -implicitDefEqProofs [go_sem]
    refine CC.mono (refDecMs_cc _ _ _ _ (by omega)) ?_
    rintro _ _ _ ⟨rfl, rfl, rfl⟩
    rw [hm]
    simp -implicitDefEqProofs [go_sem, dvMs]
    refine SWp.seq (Wp.s ?_)
    simp -implicitDefEqProofs [go_sem]
    refine CC.mono (sameP_cc _ _ p (by have := (decPk_ok hp).2.2.2; omega) (by have := (checkP_ok (decPk_ok hp).2.1).payload; omega)) ?_
    rintro _ _ _ ⟨rfl, rfl, rfl⟩
    simp -implicitDefEqProofs [go_sem]
    refine CC.mono (sameM_cc _ _ m (by have := (decMs_ok hm).2.2.2.1; omega) (by have := (decMs_ok hm).2.2.2.2; omega)) ?_
    rintro _ _ _ ⟨rfl, rfl, rfl⟩
    simp -implicitDefEqProofs [go_sem]
    refine Wp.s ?_
    simp -implicitDefEqProofs [go_sem]
    refine Wp.s ?_
    simp -implicitDefEqProofs [go_sem, hw]
    exact ⟨i + 1, by omega, by omega, Sh.cut H.length (V.length + 1) (by simp [go_sem]) (Nat.le_refl _) (by omega) (TOk.all (by simp [go_sem, hL3])) (fun b cs hb => okL_mono (Nat.le_refl _) (Nat.le_succ _) (hokH b cs hb)) (by simp) (List.take_of_length_le (by simp))⟩

end Go.Proofs.Ythakkopnoeinmaa
