import Derived.Test.YthakkopnoeinmaaA22
set_option linter.unusedSimpArgs false
set_option linter.unusedVariables false
namespace Go.Proofs.Ythakkopnoeinmaa
open Go.Proofs
theorem decPk_ne0 {b : List UInt8} {k : Nat} (h : decPk b = .error k) : k ≠ 0 := by
  unfold decPk at h
  split at h
  · rename_i h1; cases h; exact openP_ne0 h1
  · rename_i s h1
    split at h
    · rename_i k' h2
      cases h
      rcases numsPk s with ⟨k2, q1, q2⟩ | ⟨x0, x1, x2, x3, x4, r, q1, q2⟩
      · rw [q2] at h2; cases h2; exact ne0_rep ne0_int _ _ _ q1
      · rw [q2] at h2
        split at h2
        · rename_i h3; cases h2; exact ne0_list ne0_ext _ _ h3
        · split at h2
          · rename_i h3; cases h2; exact ne0_text _ _ h3
          · cases h2
    · split at h
      · cases h; decide
      · split at h
        · rename_i h3; cases h; exact h3
        · cases h
theorem decMs_ne0 {b : List UInt8} {k : Nat} (h : decMs b = .error k) : k ≠ 0 := by
  unfold decMs at h
  split at h
  · rename_i h1; cases h; exact openP_ne0 h1
  · rename_i s h1
    split at h
    · rename_i k' h2
      cases h
      rcases numsMs s with ⟨k2, q1, q2⟩ | ⟨x0, x1, x2, x3, x4, x5, r, q1, q2⟩
      · rw [q2] at h2; cases h2; exact ne0_rep ne0_int _ _ _ q1
      · rw [q2] at h2
        split at h2
        · rename_i h3; cases h2; exact ne0_list ne0_int _ _ h3
        · split at h2
          · rename_i h3; cases h2; exact ne0_text _ _ h3
          · cases h2
    · split at h
      · cases h; decide
      · split at h
        · rename_i h3; cases h; exact h3
        · cases h
set_option maxRecDepth 10000 in
theorem PacketOnce_cc (H : Hp) (V : List Nat) (b : List UInt8) : CC Try.prog 8 [.sl .sh 1 (bs b)] H V (Pu (cb true) H V) := by
  refine CC.of_swp Try.func8 rfl (by kernel_rfl) (by rw [Try.ntmps8]; exact len_le _ _ rfl) fun hok hokH => ?_
  clear hok
  refine SWp.seq (Wp.s ?_)
  simp -implicitDefEqProofs [go_sem, args0]
  refine SWp.seq (Wp.s ?_)
  by_cases hb : 1000 < b.length
  · simp -implicitDefEqProofs [go_sem, show (1000 : Int) < b.length by omega]
    refine CC.mono (awake_cc _ _) ?_
    rintro _ _ _ ⟨rfl, rfl, rfl⟩
    simp -implicitDefEqProofs [go_sem]
    exact Fin.bool rfl hokH (by simp) (by simp)
  simp -implicitDefEqProofs [go_sem, show ¬ (1000 : Int) < b.length by omega]
  refine SWp.join (α := Nat) (fun v => ([], H, V ++ [v])) (fun _ => True) ?_ ?_
  rotate_left
  · rintro v -
    dsimp only
    refine Wp.s ?_
    simp -implicitDefEqProofs [go_sem]
    refine CC.mono (awake_cc _ _) ?_
    rintro _ _ _ ⟨rfl, rfl, rfl⟩
    simp -implicitDefEqProofs [go_sem]
    exact Fin.bool rfl hokH (by simp) (by simp)
  refine SWp.seq (Wp.s ?_)
  simp -implicitDefEqProofs [go_sem]
  refine CC.mono (Sealed_cc _ _ _ _ (by omega)) ?_
  rintro _ _ _ ⟨v, rfl, rfl, rfl⟩
  simp -implicitDefEqProofs [go_sem]
  have hL2 : ∀ i (h : i < [[CV.sl .sh 1 (bs b)], [CV.sl (.own V.length v) 1 (bs (sealed b))]].length), ∃ tk x, [[CV.sl .sh 1 (bs b)], [CV.sl (.own V.length v) 1 (bs (sealed b))]][i] = [.sl tk 1 (bs x)] ∧ x.length ≤ 1004 := by
    intro i h
    match i, h with
    | 0, _ => exact ⟨.sh, b, rfl, by omega⟩
    | 1, _ => exact ⟨_, sealed b, rfl, by rw [sealed_len]; omega⟩
  have hL3 : okE H.length (V.length + 1) [[CV.sl .sh 1 (bs b)], [CV.sl (.own V.length v) 1 (bs (sealed b))]] := by simp [go_sem]
  have hL4 : [[CV.sl .sh 1 (bs b)], [CV.sl (.own V.length v) 1 (bs (sealed b))]].length = 2 := rfl
  generalize [[CV.sl .sh 1 (bs b)], [CV.sl (.own V.length v) 1 (bs (sealed b))]] = L at hL2 hL3 hL4 ⊢
  refine SWp.block ?_
  refine SWp.loop (α := Nat) (fun i => ([(20, .sl .ti 1 L), (21, ci 2), (22, ci i)], H, V ++ [v])) (fun i => i ≤ 2) (fun i => 2 - i) 0 (by omega) (Sh.forget (by simp [go_sem]) rfl rfl) ?_
  rintro i hi
  dsimp only at hi ⊢
  refine SWp.seq (Wp.s ?_)
  simp -implicitDefEqProofs [go_sem]
  refine SWp.seq (Wp.s ?_)
  simp -implicitDefEqProofs [go_sem]
  refine ⟨fun h => ?_, fun h => ⟨v, Sh.forget (by simp [go_sem]) rfl rfl⟩⟩
  obtain ⟨tk, x, hx, hxl⟩ := hL2 i (by omega)
  have hw := wrap_succ (show i ≤ 1000000000 by omega)
  refine SWp.seq (SWp.block ?_)
  refine SWp.seq (Wp.s ?_)
  simp -implicitDefEqProofs [go_sem, hL4, h, hx, show i < 2 by omega]
  rcases hp : decPk x with k | p <;> rcases hm : decMs x with k2 | m
  · refine SWp.seq (SWp.seq (Wp.s ?_))
    simp -implicitDefEqProofs [go_sem]
    refine CC.mono (DecPk_cc _ _ _ _ (by omega)) ?_
    rintro _ _ _ ⟨rfl, rfl, rfl⟩
    have hk := decPk_ne0 hp
    rw [hp]
    simp -implicitDefEqProofs [go_sem, dvPk, pkZ]
    refine SWp.seq (Wp.s ?_)
    simp -implicitDefEqProofs [go_sem, hk]
    refine SWp.condF (by simp [go_sem, hk]) (Wp.s ?_)
    simp -implicitDefEqProofs [go_sem]
    refine SWp.seq (Wp.s ?_)
    simp -implicitDefEqProofs [go_sem]
    refine CC.mono (DecMs_cc _ _ _ _ (by omega)) ?_
    rintro _ _ _ ⟨rfl, rfl, rfl⟩
    have hk2 := decMs_ne0 hm
    rw [hm]
    simp -implicitDefEqProofs [go_sem, dvMs, msZ]
    refine SWp.seq (Wp.s ?_)
    simp -implicitDefEqProofs [go_sem, hk2]
    refine SWp.condF (by simp [go_sem, hk2]) (Wp.s ?_)
    simp -implicitDefEqProofs [go_sem]
    refine Wp.s ?_
    simp -implicitDefEqProofs [go_sem, hw]
    exact ⟨i + 1, by omega, by omega, Sh.cut H.length (V.length + 1) (by simp [go_sem]) (Nat.le_refl _) (by omega) (TOk.all (by simp [go_sem, hL3])) (fun b cs hb => okL_mono (Nat.le_refl _) (Nat.le_succ _) (hokH b cs hb)) (by simp) (List.take_of_length_le (by simp))⟩

  · refine SWp.seq (SWp.seq (Wp.s ?_))
    simp -implicitDefEqProofs [go_sem]
    refine CC.mono (DecPk_cc _ _ _ _ (by omega)) ?_
    rintro _ _ _ ⟨rfl, rfl, rfl⟩
    have hk := decPk_ne0 hp
    rw [hp]
    simp -implicitDefEqProofs [go_sem, dvPk, pkZ]
    refine SWp.seq (Wp.s ?_)
    simp -implicitDefEqProofs [go_sem, hk]
    refine SWp.condF (by simp [go_sem, hk]) (Wp.s ?_)
    simp -implicitDefEqProofs [go_sem]
    refine SWp.seq (Wp.s ?_)
    simp -implicitDefEqProofs [go_sem]
    refine CC.mono (DecMs_cc _ _ _ _ (by omega)) ?_
    rintro _ _ _ ⟨rfl, rfl, rfl⟩
    rw [hm]
    simp -implicitDefEqProofs [go_sem, dvMs]
    obtain ⟨hy1, hy2, hy3, hy4, hy5⟩ := decMs_ok hm
    refine SWp.seq (Wp.s ?_)
    simp -implicitDefEqProofs [go_sem]
    refine SWp.condT (by simp [go_sem]) (SWp.seq (Wp.s ?_))
    simp -implicitDefEqProofs [go_sem]
    refine CC.mono (EncodeMessage_cc _ _ m (by omega) (by omega)) ?_
    rintro _ _ _ ⟨rfl, rfl, rfl⟩
    rw [errM_0 hy2 (by rw [← hy1]; omega), encV_0]
    simp -implicitDefEqProofs [go_sem]
    refine SWp.seq (Wp.s ?_)
    simp -implicitDefEqProofs [go_sem]
    refine CC.mono (Equal_cc _ _ _ _ _ _) ?_
    rintro _ _ _ ⟨rfl, rfl, rfl⟩
    rw [show same x (encM m) = true by rw [← hy1]; simp [same]]
    simp -implicitDefEqProofs [go_sem]
    refine Wp.s ?_
    simp -implicitDefEqProofs [go_sem]
    refine Wp.s ?_
    simp -implicitDefEqProofs [go_sem, hw]
    exact ⟨i + 1, by omega, by omega, Sh.cut H.length (V.length + 1) (by simp [go_sem]) (Nat.le_refl _) (by omega) (TOk.all (by simp [go_sem, hL3])) (fun b cs hb => okL_mono (Nat.le_refl _) (Nat.le_succ _) (hokH b cs hb)) (by simp) (List.take_of_length_le (by simp))⟩

  · refine SWp.seq (SWp.seq (Wp.s ?_))
    simp -implicitDefEqProofs [go_sem]
    refine CC.mono (DecPk_cc _ _ _ _ (by omega)) ?_
    rintro _ _ _ ⟨rfl, rfl, rfl⟩
    rw [hp]
    simp -implicitDefEqProofs [go_sem, dvPk]
    obtain ⟨hx1, hx2, hx3, hx4⟩ := decPk_ok hp
    refine SWp.seq (Wp.s ?_)
    simp -implicitDefEqProofs [go_sem]
    refine SWp.condT (by simp [go_sem]) (SWp.seq (Wp.s ?_))
    simp -implicitDefEqProofs [go_sem]
    refine CC.mono (Encode_cc _ _ p (by omega)) ?_
    rintro _ _ _ ⟨rfl, rfl, rfl⟩
    rw [hx2, encV_0]
    simp -implicitDefEqProofs [go_sem]
    refine SWp.seq (Wp.s ?_)
    simp -implicitDefEqProofs [go_sem]
    refine CC.mono (Equal_cc _ _ _ _ _ _) ?_
    rintro _ _ _ ⟨rfl, rfl, rfl⟩
    rw [show same x (encP p) = true by rw [← hx1]; simp [same]]
    simp -implicitDefEqProofs [go_sem]
    refine Wp.s ?_
    simp -implicitDefEqProofs [go_sem]
    refine SWp.seq (Wp.s ?_)
    simp -implicitDefEqProofs [go_sem]
    refine CC.mono (DecMs_cc _ _ _ _ (by omega)) ?_
    rintro _ _ _ ⟨rfl, rfl, rfl⟩
    have hk2 := decMs_ne0 hm
    rw [hm]
    simp -implicitDefEqProofs [go_sem, dvMs, msZ]
    refine SWp.seq (Wp.s ?_)
    simp -implicitDefEqProofs [go_sem, hk2]
    refine SWp.condF (by simp [go_sem, hk2]) (Wp.s ?_)
    simp -implicitDefEqProofs [go_sem]
    refine Wp.s ?_
    simp -implicitDefEqProofs [go_sem, hw]
    exact ⟨i + 1, by omega, by omega, Sh.cut H.length (V.length + 1) (by simp [go_sem]) (Nat.le_refl _) (by omega) (TOk.all (by simp [go_sem, hL3])) (fun b cs hb => okL_mono (Nat.le_refl _) (Nat.le_succ _) (hokH b cs hb)) (by simp) (List.take_of_length_le (by simp))⟩

  · refine SWp.seq (SWp.seq (Wp.s ?_))
    simp -implicitDefEqProofs [go_sem]
    refine CC.mono (DecPk_cc _ _ _ _ (by omega)) ?_
    rintro _ _ _ ⟨rfl, rfl, rfl⟩
    rw [hp]
    simp -implicitDefEqProofs [go_sem, dvPk]
    obtain ⟨hx1, hx2, hx3, hx4⟩ := decPk_ok hp
    refine SWp.seq (Wp.s ?_)
    simp -implicitDefEqProofs [go_sem]
    refine SWp.condT (by simp [go_sem]) (SWp.seq (Wp.s ?_))
    simp -implicitDefEqProofs [go_sem]
    refine CC.mono (Encode_cc _ _ p (by omega)) ?_
    rintro _ _ _ ⟨rfl, rfl, rfl⟩
    rw [hx2, encV_0]
    simp -implicitDefEqProofs [go_sem]
    refine SWp.seq (Wp.s ?_)
    simp -implicitDefEqProofs [go_sem]
    refine CC.mono (Equal_cc _ _ _ _ _ _) ?_
    rintro _ _ _ ⟨rfl, rfl, rfl⟩
    rw [show same x (encP p) = true by rw [← hx1]; simp [same]]
    simp -implicitDefEqProofs [go_sem]
    refine Wp.s ?_
    simp -implicitDefEqProofs [go_sem]
    refine SWp.seq (Wp.s ?_)
    simp -implicitDefEqProofs [go_sem]
    refine CC.mono (DecMs_cc _ _ _ _ (by omega)) ?_
    rintro _ _ _ ⟨rfl, rfl, rfl⟩
    rw [hm]
    simp -implicitDefEqProofs [go_sem, dvMs]
    obtain ⟨hy1, hy2, hy3, hy4, hy5⟩ := decMs_ok hm
    refine SWp.seq (Wp.s ?_)
    simp -implicitDefEqProofs [go_sem]
    refine SWp.condT (by simp [go_sem]) (SWp.seq (Wp.s ?_))
    simp -implicitDefEqProofs [go_sem]
    refine CC.mono (EncodeMessage_cc _ _ m (by omega) (by omega)) ?_
    rintro _ _ _ ⟨rfl, rfl, rfl⟩
    rw [errM_0 hy2 (by rw [← hy1]; omega), encV_0]
    simp -implicitDefEqProofs [go_sem]
    refine SWp.seq (Wp.s ?_)
    simp -implicitDefEqProofs [go_sem]
    refine CC.mono (Equal_cc _ _ _ _ _ _) ?_
    rintro _ _ _ ⟨rfl, rfl, rfl⟩
    rw [show same x (encM m) = true by rw [← hy1]; simp [same]]
    simp -implicitDefEqProofs [go_sem]
    refine Wp.s ?_
    simp -implicitDefEqProofs [go_sem]
    refine Wp.s ?_
    simp -implicitDefEqProofs [go_sem, hw]
    exact ⟨i + 1, by omega, by omega, Sh.cut H.length (V.length + 1) (by simp [go_sem]) (Nat.le_refl _) (by omega) (TOk.all (by simp [go_sem, hL3])) (fun b cs hb => okL_mono (Nat.le_refl _) (Nat.le_succ _) (hokH b cs hb)) (by simp) (List.take_of_length_le (by simp))⟩

end Go.Proofs.Ythakkopnoeinmaa
