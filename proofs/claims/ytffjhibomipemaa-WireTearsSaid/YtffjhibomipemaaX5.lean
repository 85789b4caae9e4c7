import Derived.Test.YtffjhibomipemaaX6
set_option linter.unusedSimpArgs false
namespace Go.Proofs.Ytffjhibomipemaa
open Go.Proofs
theorem u16_nat {c : Int} (h : (Lit.int .u16 c).wf = true) : ∃ k : Nat, c = k ∧ k ≤ 65535 := by
  simp only [Lit.wf, Bool.and_eq_true, decide_eq_true_eq] at h
  have h1 : 0 ≤ c := h.1
  have h2 : c ≤ 65535 := h.2
  exact ⟨c.toNat, by omega, by omega⟩
theorem encInts_l (l : List Int) : (encInts l).length ≤ 8 + 8 * l.length := by
  rw [encInts, List.length_append]
  have := enc_len l.length
  have := flat_len (f := enc) enc_len l
  omega
theorem encSecs_l (l : List Sec) : (encSecs l).length ≤ 8 + 8 * l.length := by
  rw [encSecs_len]
  have := enc_len l.length
  omega
theorem tmod_nat (a b : Nat) : ((a : Int)).tmod (b : Int) = ((a % b : Nat) : Int) := by
  rw [Int.tmod_eq_emod_of_nonneg (by omega)]; omega
theorem ne_len {l : List UInt8} (h : 0 < l.length) : ¬ l = [] := fun e => by rw [e] at h; simp at h
theorem enc_pos (n : Int) : 0 < (enc n).length := encN_pos _
theorem WireTears_cc (x : Vals) (n c : Int) (hc : (Lit.int .u16 c).wf = true) : CC Try.prog 7 [.agg (valC x), ci n, .v (.int .u16 c)] [] [] (Pu (cb true) [] []) := by
  obtain ⟨k, rfl, hk⟩ := u16_nat hc
  refine CC.of_swp Try.func7 rfl (by kernel_rfl) (by rw [Try.ntmps7]; exact len_le _ _ rfl) fun hok hokH => ?_
  clear hok hc
  refine SWp.seq (Wp.s ?_)
  simp -implicitDefEqProofs [go_sem, args0]
  refine SWp.join (α := Unit) (fun _ => ([(6, cb false), (3, .ptr 0 0), (2, .v (.int .u16 k)), (1, ci n)], [some (valC x)], [])) (fun _ => few x = true) ?_ ?_
  · refine Wp.s ?_
    simp -implicitDefEqProofs [go_sem]
    refine CC.mono (few_cc _ _ _) ?_
    rintro _ _ _ ⟨rfl, rfl, rfl⟩
    rcases hf : few x with - | -
    · simp -implicitDefEqProofs [go_sem]
      exact CC.mono (awake_cc _ _) fun _ _ _ ⟨e1, e2, e3⟩ => by
        subst e1 e2 e3
        simp -implicitDefEqProofs [go_sem]
        exact Fin.bool (H := []) (V := []) rfl (by simp) rfl rfl
    · simp -implicitDefEqProofs [go_sem]
      exact Sh.forget (by simp [go_sem]) rfl rfl
  · rintro _ hf
    obtain ⟨hi, hs, he, hw, hw2⟩ := few_true hf
    have hlb := encWrs_len hw2
    have hla := enc_len n
    have hld := encInts_l x.ints
    have hls := encSecs_l x.secs
    dsimp only
    refine SWp.seq (SWp.drawnL [0, 2, 3, 1, 4, 5, 6] (by kernel_rfl) (by kernel_rfl) rfl ?_)
    simp -implicitDefEqProofs [go_sem]
    refine CC.mono (CC.nil0 (by decide) (PutInt_cc _ _ .sh [] _ (by decide))) ?_
    rintro _ _ _ ⟨v1, rfl, rfl, rfl⟩
    simp -implicitDefEqProofs [go_sem]
    refine CC.mono (CC.nil0 (by decide) (PutWrites_cc _ _ .sh _ [] _ (by omega) (by simp; omega))) ?_
    rintro _ _ _ ⟨v2, rfl, rfl, rfl⟩
    simp -implicitDefEqProofs [go_sem]
    refine SWp.seq (SWp.drawnL [0, 1, 3, 4, 2, 5, 6, 7] (by kernel_rfl) (by kernel_rfl) rfl ?_)
    simp -implicitDefEqProofs [go_sem]
    refine CC.mono (CC.nil0 (by decide) (PutSectors_cc _ _ .sh _ [] _ (by simp; omega))) ?_
    rintro _ _ _ ⟨v3, rfl, rfl, rfl⟩
    simp -implicitDefEqProofs [go_sem]
    refine CC.mono (CC.nil0 (by decide) (PutInts_cc _ _ .sh _ [] _ (by simp; omega))) ?_
    rintro _ _ _ ⟨v4, rfl, rfl, rfl⟩
    simp -implicitDefEqProofs [go_sem]
    have pa : 0 < (enc n).length := enc_pos _
    have pb : 0 < (encWrs x.wrs).length := by rw [encWrs, List.length_append]; have := enc_pos x.wrs.length; omega
    have ps : 0 < (encSecs x.secs).length := by rw [encSecs, List.length_append]; have := enc_pos x.secs.length; omega
    have pd : 0 < (encInts x.ints).length := by rw [encInts, List.length_append]; have := enc_pos x.ints.length; omega
    have ra := number_tear n
    have rb : ∀ j, j < (encWrs x.wrs).length → listP wrP ((encWrs x.wrs).take j) = .error 10 := fun j hj => list_tr wr_rt wr_tr x.wrs j ⟨by omega, fun w h => by have := hw2 w h; omega⟩ hj
    have rs : ∀ j, j < (encSecs x.secs).length → listP secP ((encSecs x.secs).take j) = .error 10 := fun j hj => list_tr sec_rt sec_tr x.secs j ⟨by omega, fun _ _ => trivial⟩ hj
    have rd : ∀ j, j < (encInts x.ints).length → listP intP ((encInts x.ints).take j) = .error 10 := fun j hj => list_tr int_rt int_tr x.ints j ⟨by omega, fun _ _ => trivial⟩ hj
    generalize enc n = a at pa ra hla ⊢
    generalize encWrs x.wrs = b at pb rb hlb ⊢
    generalize encSecs x.secs = s at ps rs hls ⊢
    generalize encInts x.ints = d at pd rd hld ⊢
    refine SWp.ghost (Sh.forget (T' := [(10, .sl .sh 1 (bs d)), (9, .sl .sh 1 (bs s)), (8, .sl .sh 1 (bs b)), (7, .sl .sh 1 (bs a)), (6, cb false), (2, .v (.int .u16 k))]) (by simp [go_sem]) rfl rfl) ?_
    refine SWp.join (α := Unit) (fun _ => ([(10, .sl .sh 1 (bs d)), (9, .sl .sh 1 (bs s)), (8, .sl .sh 1 (bs b)), (7, .sl .sh 1 (bs a)), (6, cb false), (2, .v (.int .u16 k))], [some (valC x)], [v1, v2, v3, v4])) (fun _ => True) ?_ ?_
    · refine Wp.s ?_
      simp -implicitDefEqProofs [go_sem, show ¬ a.length = 0 by omega, show ¬ b.length = 0 by omega, show ¬ s.length = 0 by omega, show ¬ d.length = 0 by omega]
      exact Sh.forget (by simp [go_sem]) rfl rfl
    · rintro _ -
      dsimp only
      refine SWp.seq (Wp.s ?_)
      have hm := Nat.mod_lt k pa
      obtain ⟨q, hq⟩ : ∃ q, k % a.length = q := ⟨_, rfl⟩
      have tm : ((k : Int)).tmod (a.length : Int) = (q : Int) := by rw [tmod_nat, hq]
      rw [hq] at hm
      simp -implicitDefEqProofs [go_sem, wrap_nat (show k < 9223372036854775808 by omega), tm]
      refine ⟨ne_len pa, by omega, ?_⟩
      refine CC.mono (Int_cc _ _ _ (a.take q) (by rw [List.length_take]; omega)) ?_
      rintro _ _ _ ⟨rfl, rfl, rfl⟩
      rw [ra _ hm]
      simp -implicitDefEqProofs [go_sem, rdv]
      refine SWp.seq (Wp.s ?_)
      have hm := Nat.mod_lt k pb
      obtain ⟨q, hq⟩ : ∃ q, k % b.length = q := ⟨_, rfl⟩
      have tm : ((k : Int)).tmod (b.length : Int) = (q : Int) := by rw [tmod_nat, hq]
      rw [hq] at hm
      simp -implicitDefEqProofs [go_sem, wrap_nat (show k < 9223372036854775808 by omega), tm]
      refine ⟨ne_len pb, by omega, ?_⟩
      refine CC.mono (Writes_cc _ _ _ (b.take q) (by rw [List.length_take]; omega)) ?_
      rintro _ _ _ ⟨rfl, rfl, rfl⟩
      rw [rb _ hm]
      simp -implicitDefEqProofs [go_sem, rdv]
      refine SWp.seq (Wp.s ?_)
      have hm := Nat.mod_lt k ps
      obtain ⟨q, hq⟩ : ∃ q, k % s.length = q := ⟨_, rfl⟩
      have tm : ((k : Int)).tmod (s.length : Int) = (q : Int) := by rw [tmod_nat, hq]
      rw [hq] at hm
      simp -implicitDefEqProofs [go_sem, wrap_nat (show k < 9223372036854775808 by omega), tm]
      refine ⟨ne_len ps, by omega, ?_⟩
      refine CC.mono (Sectors_cc _ _ _ (s.take q) (by rw [List.length_take]; omega)) ?_
      rintro _ _ _ ⟨rfl, rfl, rfl⟩
      rw [rs _ hm]
      simp -implicitDefEqProofs [go_sem, rdv]
      refine SWp.seq (Wp.s ?_)
      have hm := Nat.mod_lt k pd
      obtain ⟨q, hq⟩ : ∃ q, k % d.length = q := ⟨_, rfl⟩
      have tm : ((k : Int)).tmod (d.length : Int) = (q : Int) := by rw [tmod_nat, hq]
      rw [hq] at hm
      simp -implicitDefEqProofs [go_sem, wrap_nat (show k < 9223372036854775808 by omega), tm]
      refine ⟨ne_len pd, by omega, ?_⟩
      refine CC.mono (Ints_cc _ _ _ (d.take q) (by rw [List.length_take]; omega)) ?_
      rintro _ _ _ ⟨rfl, rfl, rfl⟩
      rw [rd _ hm]
      simp -implicitDefEqProofs [go_sem, rdv]
      refine SWp.seq (Wp.s ?_)
      simp -implicitDefEqProofs [go_sem]
      refine CC.mono (awake_cc _ _) ?_
      rintro _ _ _ ⟨rfl, rfl, rfl⟩
      simp -implicitDefEqProofs [go_sem]
      refine Wp.s ?_
      simp -implicitDefEqProofs [go_sem]
      exact Fin.bool (H := []) (V := []) rfl (by simp) rfl rfl
end Go.Proofs.Ytffjhibomipemaa
