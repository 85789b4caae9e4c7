import Derived.Test.YtffjhibomipemaaX1
namespace Go.Proofs.Ytffjhibomipemaa
open Go.Proofs
theorem same_self (l : List UInt8) : same l l = true := by simp [same]
theorem WireNumbers_cc (d b : List UInt8) (l : List Int) : CC Try.prog 4 [.sl .sh 1 (bs d), .sl .sh 1 (bs b), .sl .sh 1 (l.map ic)] [] [] (Pu (cb true) [] []) := by
  refine CC.of_swp Try.func4 rfl (by kernel_rfl) (by rw [Try.ntmps4]; exact len_le _ _ rfl) fun hok hokH => ?_
  clear hok
  refine SWp.seq (Wp.s ?_)
  simp -implicitDefEqProofs [go_sem, args0]
  refine SWp.join (α := Unit) (fun _ => ([(6, cb false), (2, .sl .sh 1 (l.map ic)), (1, .sl .sh 1 (bs b)), (0, .sl .sh 1 (bs d))], [], [])) (fun _ => d.length ≤ 200 ∧ b.length ≤ 600 ∧ l.length ≤ 200) ?_ ?_
  · refine Wp.s ?_
    by_cases h1 : d.length ≤ 200
    · by_cases h2 : b.length ≤ 600
      · by_cases h3 : l.length ≤ 200
        · simp -implicitDefEqProofs [go_sem, show ¬ (200 : Int) < d.length by omega, show ¬ (600 : Int) < b.length by omega, show ¬ (200 : Int) < l.length by omega]
          exact ⟨⟨h1, h2, h3⟩, Sh.forget (by simp [go_sem]) rfl rfl⟩
        · simp -implicitDefEqProofs [go_sem, show ¬ (200 : Int) < d.length by omega, show ¬ (600 : Int) < b.length by omega, show (200 : Int) < l.length by omega]
          exact CC.mono (awake_cc _ _) fun _ _ _ ⟨e1, e2, e3⟩ => by
            subst e1 e2 e3
            simp -implicitDefEqProofs [go_sem]
            exact Fin.bool (H := []) (V := []) rfl (by simp) rfl rfl
      · simp -implicitDefEqProofs [go_sem, show ¬ (200 : Int) < d.length by omega, show (600 : Int) < b.length by omega]
        exact CC.mono (awake_cc _ _) fun _ _ _ ⟨e1, e2, e3⟩ => by
          subst e1 e2 e3
          simp -implicitDefEqProofs [go_sem]
          exact Fin.bool (H := []) (V := []) rfl (by simp) rfl rfl
    · simp -implicitDefEqProofs [go_sem, show (200 : Int) < d.length by omega]
      exact CC.mono (awake_cc _ _) fun _ _ _ ⟨e1, e2, e3⟩ => by
        subst e1 e2 e3
        simp -implicitDefEqProofs [go_sem]
        exact Fin.bool (H := []) (V := []) rfl (by simp) rfl rfl
  · rintro _ ⟨h1, h2, h3⟩
    dsimp only
    refine SWp.join (α := Unit) (fun _ => ([(6, cb false), (2, .sl .sh 1 (l.map ic)), (1, .sl .sh 1 (bs b)), (0, .sl .sh 1 (bs d))], [], [])) (fun _ => True) ?_ ?_
    · refine SWp.seq (Wp.s ?_)
      simp -implicitDefEqProofs [go_sem]
      refine ⟨by omega, ?_⟩
      obtain ⟨N, hN⟩ : ∃ N : List Int, N = (b.length : Int) :: l := ⟨_, rfl⟩
      have e : [CV.v (Value.int .i64 b.length)] :: l.map ic = N.map ic := by rw [hN]; rfl
      have eN : N.length = l.length + 1 := by rw [hN]; rfl
      rw [e, show ((l.length : Int) + 1) = (N.length : Int) by omega]
      refine SWp.block ?_
      refine SWp.loop (α := Nat) (fun i => ([(29, ci i), (28, ci N.length), (27, .sl .sh 1 (N.map ic)), (6, cb false), (2, .sl .sh 1 (l.map ic)), (1, .sl .sh 1 (bs b)), (0, .sl .sh 1 (bs d))], [], [])) (fun i => i ≤ N.length) (fun i => N.length - i) 0 (Nat.zero_le _)
        (Sh.back (by simp [go_sem]) rfl rfl (by simp [go_sem, okV_slt]) hokH (by simp) (by simp)) ?_
      intro i hi
      dsimp only
      refine Wp.s ?_
      simp -implicitDefEqProofs [go_sem]
      refine ⟨fun h => ⟨h, ?_⟩, fun h => Sh.forget (by simp [go_sem]) rfl rfl⟩
      refine CC.mono (PutInt_cc _ _ _ _ _ (by omega)) ?_
      rintro _ _ _ ⟨v1, rfl, rfl, rfl⟩
      simp -implicitDefEqProofs [go_sem]
      refine CC.mono (refPutInt_cc _ _ _ _ _ (by omega)) ?_
      rintro _ _ _ ⟨v2, rfl, rfl, rfl⟩
      simp -implicitDefEqProofs [go_sem]
      refine CC.mono (Equal_cc _ _ _ _ _ _) ?_
      rintro _ _ _ ⟨rfl, rfl, rfl⟩
      simp -implicitDefEqProofs [go_sem, same_self]
      refine ⟨i + 1, by omega, by omega, Sh.back ?_ rfl rfl (by simp [go_sem, okV_slt]) hokH (by simp) (by simp)⟩
      simp [go_sem, wrap_succ (show i ≤ 1000000000 by omega)]
    · rintro _ -
      dsimp only
      refine SWp.seq (Wp.s ?_)
      simp -implicitDefEqProofs [go_sem]
      refine CC.mono (PutBytes_cc _ _ _ _ _ _ (by omega)) ?_
      rintro _ _ _ ⟨v1, rfl, rfl, rfl⟩
      simp -implicitDefEqProofs [go_sem]
      refine CC.mono (refPutBytes_cc _ _ _ _ _ _ (by omega)) ?_
      rintro _ _ _ ⟨v2, rfl, rfl, rfl⟩
      simp -implicitDefEqProofs [go_sem]
      refine CC.mono (Equal_cc _ _ _ _ _ _) ?_
      rintro _ _ _ ⟨rfl, rfl, rfl⟩
      simp -implicitDefEqProofs [go_sem, same_self]
      refine CC.mono (PutInts_cc _ _ _ _ _ _ (by omega)) ?_
      rintro _ _ _ ⟨v3, rfl, rfl, rfl⟩
      simp -implicitDefEqProofs [go_sem]
      refine CC.mono (refPutInts_cc _ _ _ _ _ _ (by omega)) ?_
      rintro _ _ _ ⟨rfl, rfl, rfl⟩
      simp -implicitDefEqProofs [go_sem]
      refine CC.mono (Equal_cc _ _ _ _ _ _) ?_
      rintro _ _ _ ⟨rfl, rfl, rfl⟩
      simp -implicitDefEqProofs [go_sem, same_self]
      refine CC.mono (awake_cc _ _) ?_
      rintro _ _ _ ⟨rfl, rfl, rfl⟩
      simp -implicitDefEqProofs [go_sem]
      refine Wp.s ?_
      simp -implicitDefEqProofs [go_sem]
      exact Fin.bool (H := []) (V := []) rfl (by simp) rfl rfl
end Go.Proofs.Ytffjhibomipemaa
