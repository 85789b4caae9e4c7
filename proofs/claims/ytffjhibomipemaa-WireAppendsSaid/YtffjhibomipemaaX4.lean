import Derived.Test.YtffjhibomipemaaX3
namespace Go.Proofs.Ytffjhibomipemaa
open Go.Proofs
theorem encBytes_le (b : List UInt8) : (encBytes b).length ≤ 8 + b.length := by
  rw [encBytes, List.length_append]
  have := enc_len b.length
  omega
theorem encInts_le (l : List Int) : (encInts l).length ≤ 8 + 8 * l.length := by
  rw [encInts, List.length_append]
  have := enc_len l.length
  have := flat_len (f := enc) enc_len l
  omega
theorem encSecs_le (l : List Sec) : (encSecs l).length ≤ 8 + 8 * l.length := by
  rw [encSecs_len]
  have := enc_len l.length
  omega
theorem WireAppends_cc (d : List UInt8) (x : Vals) (n : Int) : CC Try.prog 6 [.sl .sh 1 (bs d), .agg (valC x), ci n] [] [] (Pu (cb true) [] []) := by
  refine CC.of_swp Try.func6 rfl (by kernel_rfl) (by rw [Try.ntmps6]; exact len_le _ _ rfl) fun hok hokH => ?_
  clear hok
  refine SWp.seq (Wp.s ?_)
  simp -implicitDefEqProofs [go_sem, args0]
  refine SWp.join (α := Unit) (fun _ => ([(6, cb false), (4, .ptr 0 0), (2, ci n), (0, .sl .sh 1 (bs d))], [some (valC x)], [])) (fun _ => d.length ≤ 200 ∧ few x = true) ?_ ?_
  · refine Wp.s ?_
    by_cases h1 : d.length ≤ 200
    · simp -implicitDefEqProofs [go_sem, show ¬ (200 : Int) < d.length by omega]
      refine CC.mono (few_cc _ _ _) ?_
      rintro _ _ _ ⟨rfl, rfl, rfl⟩
      rcases hf : few x with - | -
      · simp -implicitDefEqProofs [go_sem]
        exact CC.mono (awake_cc _ _) fun _ _ _ ⟨e1, e2, e3⟩ => by
          subst e1 e2 e3
          simp -implicitDefEqProofs [go_sem]
          exact Fin.bool (H := []) (V := []) rfl (by simp) rfl rfl
      · simp -implicitDefEqProofs [go_sem]
        exact ⟨h1, Sh.forget (by simp [go_sem]) rfl rfl⟩
    · simp -implicitDefEqProofs [go_sem, show (200 : Int) < d.length by omega]
      exact CC.mono (awake_cc _ _) fun _ _ _ ⟨e1, e2, e3⟩ => by
        subst e1 e2 e3
        simp -implicitDefEqProofs [go_sem]
        exact Fin.bool (H := []) (V := []) rfl (by simp) rfl rfl
  · rintro _ ⟨h1, hf⟩
    obtain ⟨hi, hs, he, hw, hw2⟩ := few_true hf
    have := encExts_len x.exts
    have := encWrs_len hw2
    have := enc_len n
    have := encBytes_le d
    have := encInts_le x.ints
    have := encSecs_le x.secs
    dsimp only
    refine SWp.seq (Wp.s ?_)
    simp -implicitDefEqProofs [go_sem]
    refine CC.mono (clone_cc _ _ _ _ (by simp only [bs_len]; omega)) ?_
    rintro _ _ _ ⟨v0, rfl, rfl, rfl⟩
    simp -implicitDefEqProofs [go_sem]
    refine SWp.seq (SWp.drawnL [0, 1, 3, 5, 2, 4, 6, 7, 8, 9, 10, 11, 13, 15, 12, 14, 16, 17, 18, 19, 20, 21, 22, 23, 25, 27, 28, 24, 26, 29, 30, 31, 32, 33, 34, 35, 36, 38, 40, 41, 37, 39, 42, 43, 44, 45, 46, 47, 48, 49, 51, 53, 54, 50, 52, 55, 56, 57, 58, 59, 60, 61, 62, 64, 66, 67, 63, 65, 68, 69, 70, 71, 72] (by kernel_rfl) (by kernel_rfl) rfl ?_)
    simp -implicitDefEqProofs [go_sem]
    refine CC.mono (PutInt_cc _ _ _ _ _ (by omega)) ?_
    rintro _ _ _ ⟨v1, rfl, rfl, rfl⟩
    simp -implicitDefEqProofs [go_sem]
    refine CC.mono (clone_cc _ _ _ _ (by simp only [bs_len]; omega)) ?_
    rintro _ _ _ ⟨v2, rfl, rfl, rfl⟩
    simp -implicitDefEqProofs [go_sem]
    refine CC.mono (CC.nil0 (by decide) (PutInt_cc _ _ .sh [] _ (by decide))) ?_
    rintro _ _ _ ⟨v3, rfl, rfl, rfl⟩
    simp -implicitDefEqProofs [go_sem]
    refine ⟨by try simp only [List.length_append]
               omega, ?_⟩
    refine CC.mono (Equal_cc _ _ _ _ _ _) ?_
    rintro _ _ _ ⟨rfl, rfl, rfl⟩
    simp -implicitDefEqProofs [go_sem, same_self]
    refine CC.mono (PutBytes_cc _ _ _ _ _ _ (by omega)) ?_
    rintro _ _ _ ⟨v4, rfl, rfl, rfl⟩
    simp -implicitDefEqProofs [go_sem]
    refine CC.mono (clone_cc _ _ _ _ (by simp only [bs_len]; omega)) ?_
    rintro _ _ _ ⟨v5, rfl, rfl, rfl⟩
    simp -implicitDefEqProofs [go_sem]
    refine CC.mono (CC.nil0 (by decide) (PutBytes_cc _ _ .sh _ [] _ (by simp; omega))) ?_
    rintro _ _ _ ⟨v6, rfl, rfl, rfl⟩
    simp -implicitDefEqProofs [go_sem]
    refine ⟨by try simp only [List.length_append]
               omega, ?_⟩
    refine CC.mono (Equal_cc _ _ _ _ _ _) ?_
    rintro _ _ _ ⟨rfl, rfl, rfl⟩
    simp -implicitDefEqProofs [go_sem, same_self]
    refine CC.mono (PutInts_cc _ _ _ _ _ _ (by omega)) ?_
    rintro _ _ _ ⟨v7, rfl, rfl, rfl⟩
    simp -implicitDefEqProofs [go_sem]
    refine CC.mono (clone_cc _ _ _ _ (by simp only [bs_len]; omega)) ?_
    rintro _ _ _ ⟨v8, rfl, rfl, rfl⟩
    simp -implicitDefEqProofs [go_sem]
    refine CC.mono (CC.nil0 (by decide) (PutInts_cc _ _ .sh _ [] _ (by simp; omega))) ?_
    rintro _ _ _ ⟨v9, rfl, rfl, rfl⟩
    simp -implicitDefEqProofs [go_sem]
    refine ⟨by try simp only [List.length_append]
               omega, ?_⟩
    refine CC.mono (Equal_cc _ _ _ _ _ _) ?_
    rintro _ _ _ ⟨rfl, rfl, rfl⟩
    simp -implicitDefEqProofs [go_sem, same_self]
    refine CC.mono (PutSectors_cc _ _ _ _ _ _ (by omega)) ?_
    rintro _ _ _ ⟨v10, rfl, rfl, rfl⟩
    simp -implicitDefEqProofs [go_sem]
    refine CC.mono (clone_cc _ _ _ _ (by simp only [bs_len]; omega)) ?_
    rintro _ _ _ ⟨v11, rfl, rfl, rfl⟩
    simp -implicitDefEqProofs [go_sem]
    refine CC.mono (CC.nil0 (by decide) (PutSectors_cc _ _ .sh _ [] _ (by simp; omega))) ?_
    rintro _ _ _ ⟨v12, rfl, rfl, rfl⟩
    simp -implicitDefEqProofs [go_sem]
    refine ⟨by try simp only [List.length_append]
               omega, ?_⟩
    refine CC.mono (Equal_cc _ _ _ _ _ _) ?_
    rintro _ _ _ ⟨rfl, rfl, rfl⟩
    simp -implicitDefEqProofs [go_sem, same_self]
    refine CC.mono (PutExtents_cc _ _ _ _ _ _ (by omega) (by omega)) ?_
    rintro _ _ _ ⟨v13, rfl, rfl, rfl⟩
    simp -implicitDefEqProofs [go_sem]
    refine CC.mono (clone_cc _ _ _ _ (by simp only [bs_len]; omega)) ?_
    rintro _ _ _ ⟨v14, rfl, rfl, rfl⟩
    simp -implicitDefEqProofs [go_sem]
    refine CC.mono (CC.nil0 (by decide) (PutExtents_cc _ _ .sh _ [] _ (by omega) (by simp; omega))) ?_
    rintro _ _ _ ⟨v15, rfl, rfl, rfl⟩
    simp -implicitDefEqProofs [go_sem]
    refine ⟨by try simp only [List.length_append]
               omega, ?_⟩
    refine CC.mono (Equal_cc _ _ _ _ _ _) ?_
    rintro _ _ _ ⟨rfl, rfl, rfl⟩
    simp -implicitDefEqProofs [go_sem, same_self]
    refine CC.mono (PutWrites_cc _ _ _ _ _ _ (by omega) (by omega)) ?_
    rintro _ _ _ ⟨v16, rfl, rfl, rfl⟩
    simp -implicitDefEqProofs [go_sem]
    refine CC.mono (clone_cc _ _ _ _ (by simp only [bs_len]; omega)) ?_
    rintro _ _ _ ⟨v17, rfl, rfl, rfl⟩
    simp -implicitDefEqProofs [go_sem]
    refine CC.mono (CC.nil0 (by decide) (PutWrites_cc _ _ .sh _ [] _ (by omega) (by simp; omega))) ?_
    rintro _ _ _ ⟨v18, rfl, rfl, rfl⟩
    simp -implicitDefEqProofs [go_sem]
    refine ⟨by try simp only [List.length_append]
               omega, ?_⟩
    refine CC.mono (Equal_cc _ _ _ _ _ _) ?_
    rintro _ _ _ ⟨rfl, rfl, rfl⟩
    simp -implicitDefEqProofs [go_sem, same_self]
    refine SWp.seq (Wp.s ?_)
    simp -implicitDefEqProofs [go_sem]
    refine CC.mono (Equal_cc _ _ _ _ _ _) ?_
    rintro _ _ _ ⟨rfl, rfl, rfl⟩
    simp -implicitDefEqProofs [go_sem, same_self]
    refine CC.mono (awake_cc _ _) ?_
    rintro _ _ _ ⟨rfl, rfl, rfl⟩
    simp -implicitDefEqProofs [go_sem]
    refine Wp.s ?_
    simp -implicitDefEqProofs [go_sem]
    exact Fin.bool (H := []) (V := []) rfl (by simp) rfl rfl
end Go.Proofs.Ytffjhibomipemaa
