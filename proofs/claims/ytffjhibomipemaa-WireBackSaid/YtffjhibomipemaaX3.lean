import Derived.Test.YtffjhibomipemaaW9
namespace Go.Proofs.Ytffjhibomipemaa
open Go.Proofs
theorem few_true {x : Vals} (h : few x = true) : x.ints.length ≤ 40 ∧ x.secs.length ≤ 40 ∧ x.exts.length ≤ 40 ∧ x.wrs.length ≤ 20 ∧ ∀ w ∈ x.wrs, w.data.length ≤ 20 := by
  simp only [few, Bool.and_eq_true, decide_eq_true_eq, Bool.not_eq_true', List.any_eq_false] at h
  obtain ⟨⟨⟨⟨h1, h2⟩, h3⟩, h4⟩, h5⟩ := h
  exact ⟨h1, h2, h3, h4, fun w hw => by have := h5 w hw; omega⟩
theorem encExts_len (l : List Ext2) : (encExts l).length ≤ 8 + 16 * l.length := by
  rw [encExts, List.length_append]
  have h1 := enc_len l.length
  have h2 := flat_len (f := encExt) (c := 16) (fun e => by
    rw [encExt, List.length_append]
    have := enc_len e.start
    have := enc_len e.count
    omega) l
  omega
theorem encWr_len (w : Wr) : (encWr w).length ≤ 24 + 8 * w.data.length := by
  rw [encWr, List.length_append, List.length_append]
  have := enc_len w.volume
  have := enc_len w.start
  have := enc_len w.data.length
  rw [encSecs_len]
  omega
theorem flat_lenm {α : Type} {f : α → List UInt8} {c : Nat} : ∀ {xs : List α}, (∀ x ∈ xs, (f x).length ≤ c) → (xs.flatMap f).length ≤ c * xs.length
  | [], _ => by simp
  | x :: xs, h => by
    rw [List.flatMap_cons, List.length_append, List.length_cons, Nat.mul_succ]
    have := flat_lenm fun y hy => h y (List.mem_cons_of_mem _ hy)
    have := h x (by simp)
    omega
theorem encWrs_len {l : List Wr} (h : ∀ w ∈ l, w.data.length ≤ 20) : (encWrs l).length ≤ 8 + 184 * l.length := by
  rw [encWrs, List.length_append]
  have h1 := enc_len l.length
  have h2 := flat_lenm (f := encWr) (c := 184) (xs := l) (fun w hw => by
    have := encWr_len w
    have := h w hw
    omega)
  omega
theorem WireLists_cc (d : List UInt8) (x : Vals) : CC Try.prog 5 [.sl .sh 1 (bs d), .agg (valC x)] [] [] (Pu (cb true) [] []) := by
  refine CC.of_swp Try.func5 rfl (by kernel_rfl) (by rw [Try.ntmps5]; exact len_le _ _ rfl) fun hok hokH => ?_
  clear hok
  refine SWp.seq (Wp.s ?_)
  simp -implicitDefEqProofs [go_sem, args0]
  refine SWp.join (α := Unit) (fun _ => ([(4, cb false), (3, .ptr 0 0), (0, .sl .sh 1 (bs d))], [some (valC x)], [])) (fun _ => d.length ≤ 200 ∧ few x = true) ?_ ?_
  · refine Wp.s ?_
    by_cases h1 : d.length ≤ 200
    · simp -implicitDefEqProofs [go_sem, show ¬ (200 : Int) < d.length by omega]
      refine CC.mono (few_cc _ _ _) ?_
      rintro _ _ _ ⟨rfl, rfl, rfl⟩
      rcases hf : few x with - | -
      · simp -implicitDefEqProofs [go_sem]
        exact CC.mono (awake_cc _ _) fun _ _ _ ⟨e1, e2, e3⟩ => by
          subst e1 e2 e3
          simp -implicitDefEqProofs [go_sem]
          exact Fin.bool (H := []) (V := []) rfl (by simp) rfl rfl
      · simp -implicitDefEqProofs [go_sem]
        exact ⟨h1, Sh.forget (by simp [go_sem]) rfl rfl⟩
    · simp -implicitDefEqProofs [go_sem, show (200 : Int) < d.length by omega]
      exact CC.mono (awake_cc _ _) fun _ _ _ ⟨e1, e2, e3⟩ => by
        subst e1 e2 e3
        simp -implicitDefEqProofs [go_sem]
        exact Fin.bool (H := []) (V := []) rfl (by simp) rfl rfl
  · rintro _ ⟨h1, hf⟩
    obtain ⟨hi, hs, he, hw, hw2⟩ := few_true hf
    have := encExts_len x.exts
    have := encWrs_len hw2
    dsimp only
    refine SWp.seq (SWp.drawnL [0, 1, 2, 4, 5, 6, 3, 7, 8, 9, 10, 11, 12, 14, 15, 16, 13, 17, 18, 19, 20, 21, 22, 23, 25, 26, 27, 24, 28, 29, 30, 31, 32, 33, 34] (by kernel_rfl) (by kernel_rfl) rfl ?_)
    simp -implicitDefEqProofs [go_sem]
    refine CC.mono (PutSectors_cc _ _ _ _ _ _ (by omega)) ?_
    rintro _ _ _ ⟨v1, rfl, rfl, rfl⟩
    simp -implicitDefEqProofs [go_sem]
    refine CC.mono (refPutSectors_cc _ _ _ _ _ _ (by omega)) ?_
    rintro _ _ _ ⟨v2, rfl, rfl, rfl⟩
    simp -implicitDefEqProofs [go_sem]
    refine CC.mono (Equal_cc _ _ _ _ _ _) ?_
    rintro _ _ _ ⟨rfl, rfl, rfl⟩
    simp -implicitDefEqProofs [go_sem, same_self]
    refine CC.mono (PutExtents_cc _ _ _ _ _ _ (by omega) (by omega)) ?_
    rintro _ _ _ ⟨v3, rfl, rfl, rfl⟩
    simp -implicitDefEqProofs [go_sem]
    refine CC.mono (refPutExtents_cc _ _ _ _ _ _ (by omega) (by omega)) ?_
    rintro _ _ _ ⟨rfl, rfl, rfl⟩
    simp -implicitDefEqProofs [go_sem]
    refine CC.mono (Equal_cc _ _ _ _ _ _) ?_
    rintro _ _ _ ⟨rfl, rfl, rfl⟩
    simp -implicitDefEqProofs [go_sem, same_self]
    refine CC.mono (PutWrites_cc _ _ _ _ _ _ (by omega) (by omega)) ?_
    rintro _ _ _ ⟨v5, rfl, rfl, rfl⟩
    simp -implicitDefEqProofs [go_sem]
    refine CC.mono (refPutWrites_cc _ _ _ _ _ _ (by omega) (by omega)) ?_
    rintro _ _ _ ⟨rfl, rfl, rfl⟩
    simp -implicitDefEqProofs [go_sem]
    refine CC.mono (Equal_cc _ _ _ _ _ _) ?_
    rintro _ _ _ ⟨rfl, rfl, rfl⟩
    simp -implicitDefEqProofs [go_sem, same_self]
    refine CC.mono (awake_cc _ _) ?_
    rintro _ _ _ ⟨rfl, rfl, rfl⟩
    simp -implicitDefEqProofs [go_sem]
    refine Wp.s ?_
    simp -implicitDefEqProofs [go_sem]
    exact Fin.bool (H := []) (V := []) rfl (by simp) rfl rfl
end Go.Proofs.Ytffjhibomipemaa
