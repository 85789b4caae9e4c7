import Derived.Test.YtffjhibomipemaaW8
namespace Go.Proofs.Ytffjhibomipemaa
open Go.Proofs
/-! ### Plain: the encoding of numbers -/
theorem encN_pos : ∀ n, 0 < (encN n).length := fun n => by
  by_cases h : n < 128
  · rw [encN_lt h]; simp
  · rw [encN_ge (by omega)]; simp
theorem encN_mono : ∀ a b : Nat, a ≤ b → (encN a).length ≤ (encN b).length := by
  intro a
  induction a using Nat.strongRecOn with
  | ind a ih =>
    intro b hab
    by_cases ha : a < 128
    · rw [encN_lt ha]
      exact encN_pos b
    · rw [encN_ge (n := a) (by omega), encN_ge (n := b) (by omega), List.length_cons, List.length_cons]
      have := ih (a / 128) (by omega) (b / 128) (Nat.div_le_div_right hab)
      omega
theorem ofNat_inj {a b : Nat} (ha : a < 256) (hb : b < 256) (h : UInt8.ofNat a = UInt8.ofNat b) : a = b := by
  have := congrArg UInt8.toNat h
  rw [UInt8.toNat_ofNat', UInt8.toNat_ofNat'] at this
  omega
/-- No encoding is the beginning of another. -/
theorem encN_pre : ∀ (a b : Nat) (r s : List UInt8), encN a ++ r = encN b ++ s → a = b ∧ r = s := by
  intro a
  induction a using Nat.strongRecOn with
  | ind a ih =>
    intro b r s h
    by_cases ha : a < 128
    · rw [encN_lt ha] at h
      by_cases hb : b < 128
      · rw [encN_lt hb] at h
        simp only [List.cons_append, List.nil_append, List.cons.injEq] at h
        exact ⟨ofNat_inj (by omega) (by omega) h.1, h.2⟩
      · rw [encN_ge (n := b) (by omega)] at h
        simp only [List.cons_append, List.nil_append, List.cons.injEq] at h
        have := ofNat_inj (by omega) (by omega) h.1
        omega
    · rw [encN_ge (n := a) (by omega)] at h
      by_cases hb : b < 128
      · rw [encN_lt hb] at h
        simp only [List.cons_append, List.nil_append, List.cons.injEq] at h
        have := ofNat_inj (by omega) (by omega) h.1
        omega
      · rw [encN_ge (n := b) (by omega)] at h
        simp only [List.cons_append, List.cons.injEq] at h
        have h1 := ofNat_inj (by omega) (by omega) h.1
        obtain ⟨h2, h3⟩ := ih (a / 128) (by omega) (b / 128) r s h.2
        exact ⟨by omega, h3⟩
theorem encN_inj {a b : Nat} (h : encN a = encN b) : a = b := (encN_pre a b [] [] (by rw [h])).1
theorem norm_in {n : Int} (h : inR n = true) : (norm n : Int) = n := by
  simp [inR] at h
  unfold norm
  rw [if_neg (by omega)]; omega
theorem norm_out {n : Int} (h : inR n = false) : norm n = 0 := by
  simp [inR] at h
  unfold norm
  rw [if_pos (by omega)]
theorem enc_out {n : Int} (h : inR n = false) : enc n = [0] := by rw [enc, norm_out h]; exact encN_lt (by decide)
theorem enc_mono {n m : Int} (hn : inR n = true) (hm : inR m = true) (h : n ≤ m) : (enc n).length ≤ (enc m).length :=
  encN_mono _ _ (by have := norm_in hn; have := norm_in hm; omega)
theorem enc_eq {n m : Int} (hn : inR n = true) (hm : inR m = true) : enc n = enc m ↔ n = m :=
  ⟨fun h => by rw [← norm_in hn, ← norm_in hm, encN_inj h], fun h => by rw [h]⟩
theorem enc_m1 : enc (-1) = [0] := enc_out rfl
theorem shr7 (n : Int) : shr .i64 n 7 = n / 128 := by
  unfold shr
  rw [Int.fdiv_eq_ediv_of_nonneg _ (by decide)]; rfl
theorem WireSizes_cc (n m : Int) : CC Try.prog 3 [ci n, ci m] [] [] (Pu (cb true) [] []) := by
  refine CC.of_swp Try.func3 rfl (by kernel_rfl) (by rw [Try.ntmps3]; exact len_le _ _ rfl) fun hok hokH => ?_
  refine SWp.seq (Wp.s ?_)
  simp -implicitDefEqProofs [go_sem, args0]
  refine SWp.join (α := Unit) (fun _ => ([(4, cb false), (1, ci m), (0, ci n)], [], [])) (fun _ => inR n = true ∧ inR m = true) ?_ ?_
  · refine Wp.s ?_
    simp -implicitDefEqProofs [go_sem]
    refine CC.mono (inRange_cc _ _ _) ?_
    rintro _ _ _ ⟨rfl, rfl, rfl⟩
    have hout : CC Try.prog 13 [.v (.slice none 0 0), .v (.int .i64 (-1))] [] [] (Fr 1 (bs [0]) [] []) := by
      have := PutInt_cc [] [] .sh [] (-1) (by decide)
      rw [enc_m1, List.nil_append] at this
      exact CC.nil0 (by decide) this
    rcases hn : inR n with - | -
    · simp -implicitDefEqProofs [go_sem]
      refine CC.mono hout ?_
      rintro _ _ _ ⟨v, rfl, rfl, rfl⟩
      simp -implicitDefEqProofs [go_sem]
      refine CC.mono (Equal_cc _ _ _ .ti [0] [0]) ?_
      rintro _ _ _ ⟨rfl, rfl, rfl⟩
      simp -implicitDefEqProofs [go_sem, same]
      refine CC.mono (awake_cc _ _) ?_
      rintro _ _ _ ⟨rfl, rfl, rfl⟩
      simp -implicitDefEqProofs [go_sem]
      exact Fin.bool (H := []) (V := []) rfl (by simp) rfl rfl
    · simp -implicitDefEqProofs [go_sem]
      refine CC.mono (inRange_cc _ _ _) ?_
      rintro _ _ _ ⟨rfl, rfl, rfl⟩
      rcases hm : inR m with - | -
      · simp -implicitDefEqProofs [go_sem]
        refine CC.mono hout ?_
        rintro _ _ _ ⟨v, rfl, rfl, rfl⟩
        simp -implicitDefEqProofs [go_sem]
        refine CC.mono (Equal_cc _ _ _ .ti [0] [0]) ?_
        rintro _ _ _ ⟨rfl, rfl, rfl⟩
        simp -implicitDefEqProofs [go_sem, same]
        refine CC.mono (awake_cc _ _) ?_
        rintro _ _ _ ⟨rfl, rfl, rfl⟩
        simp -implicitDefEqProofs [go_sem]
        exact Fin.bool (H := []) (V := []) rfl (by simp) rfl rfl
      · simp -implicitDefEqProofs [go_sem]
        exact Sh.forget (by simp [go_sem]) rfl rfl
  · rintro _ ⟨hn, hm⟩
    dsimp only
    refine SWp.seq (Wp.s ?_)
    simp -implicitDefEqProofs [go_sem]
    refine CC.mono (CC.nil0 (by decide) (PutInt_cc _ _ .sh [] n (by decide))) ?_
    rintro _ _ _ ⟨v1, rfl, rfl, rfl⟩
    simp -implicitDefEqProofs [go_sem]
    refine CC.mono (CC.nil0 (by decide) (PutInt_cc _ _ .sh [] m (by decide))) ?_
    rintro _ _ _ ⟨v2, rfl, rfl, rfl⟩
    simp -implicitDefEqProofs [go_sem]
    refine SWp.seq (Wp.s ?_)
    simp -implicitDefEqProofs [go_sem]
    have en := norm_in hn
    have em := norm_in hm
    have bn := norm_lt n
    have hlen := enc_len n
    refine SWp.join (α := Unit) (fun _ => ([(7, ci (enc n).length), (6, .sl (.own 1 v2) 1 (bs (enc m))), (5, .sl (.own 0 v1) 1 (bs (enc n))), (4, cb false), (1, ci m), (0, ci n)], [], [v1, v2])) (fun _ => True) ?_ ?_
    · refine SWp.seq (Wp.s ?_)
      simp -implicitDefEqProofs [go_sem, shr7]
      refine SWp.block ?_
      refine SWp.loop (α := Nat × Nat) (fun x => ([(8, ci x.1), (7, ci x.2), (6, .sl (.own 1 v2) 1 (bs (enc m))), (5, .sl (.own 0 v1) 1 (bs (enc n))), (4, cb false), (1, ci m), (0, ci n)], [], [v1, v2])) (fun x => x.2 + (if x.1 = 0 then 0 else (encN x.1).length) = (enc n).length) (fun x => x.1) (norm n / 128, 1) ?_ (Sh.forget ?_ rfl rfl) ?_
      · dsimp only
        rw [enc]
        by_cases h : norm n < 128
        · rw [if_pos (by omega), encN_lt h]; rfl
        · rw [if_neg (by omega), encN_ge (n := norm n) (by omega), List.length_cons]; omega
      · dsimp only
        rw [show ((norm n / 128 : Nat) : Int) = n / 128 by omega]
        simp [go_sem]
      · rintro ⟨x, c⟩ h
        dsimp only at h
        refine Wp.s ?_
        simp -implicitDefEqProofs [go_sem, shr7]
        refine ⟨fun hx => ⟨x / 128, c + 1, ?_, by omega, Sh.forget ?_ rfl rfl⟩, fun hx => Sh.forget ?_ rfl rfl⟩
        · rw [if_neg (by omega)] at h
          by_cases h2 : x < 128
          · rw [encN_lt h2] at h
            rw [if_pos (by omega), ← h]; rfl
          · rw [encN_ge (n := x) (by omega), List.length_cons] at h
            rw [if_neg (by omega)]; omega
        · rw [show IntKind.i64.wrap ((c : Int) + 1) = ((c + 1 : Nat) : Int) from wrap_succ (by omega), show ((x : Int) / 128) = ((x / 128 : Nat) : Int) by omega]
          simp [go_sem]
        · rw [hx] at h
          rw [← h]
          simp [go_sem]
    · rintro _ -
      dsimp only
      refine SWp.join (α := Unit) (fun _ => ([(7, ci (enc n).length), (6, .sl (.own 1 v2) 1 (bs (enc m))), (5, .sl (.own 0 v1) 1 (bs (enc n))), (4, cb false), (1, ci m), (0, ci n)], [], [v1, v2])) (fun _ => True) ?_ ?_
      · refine Wp.s ?_
        rcases Int.lt_trichotomy n m with h | h | h
        · have h1 := enc_mono hn hm (Int.le_of_lt h)
          simp -implicitDefEqProofs [go_sem, h, Int.not_lt.2 (Int.le_of_lt h), Nat.not_lt.2 h1]
          exact Sh.forget (by simp [go_sem]) rfl rfl
        · subst h
          simp -implicitDefEqProofs [go_sem]
          exact Sh.forget (by simp [go_sem]) rfl rfl
        · have h1 := enc_mono hm hn (Int.le_of_lt h)
          simp -implicitDefEqProofs [go_sem, h, Int.not_lt.2 (Int.le_of_lt h), Nat.not_lt.2 h1]
          exact Sh.forget (by simp [go_sem]) rfl rfl
      · rintro _ -
        dsimp only
        refine SWp.seq (Wp.s ?_)
        simp -implicitDefEqProofs [go_sem]
        refine CC.mono (Equal_cc _ _ _ _ _ _) ?_
        rintro _ _ _ ⟨rfl, rfl, rfl⟩
        have hs : same (enc n) (enc m) = decide (n = m) := by
          unfold same; exact decide_eq_decide.2 (enc_eq hn hm)
        simp -implicitDefEqProofs [go_sem, hs]
        refine CC.mono (awake_cc _ _) ?_
        rintro _ _ _ ⟨rfl, rfl, rfl⟩
        simp -implicitDefEqProofs [go_sem]
        refine Wp.s ?_
        simp -implicitDefEqProofs [go_sem]
        exact Fin.bool (H := []) (V := []) rfl (by simp) rfl rfl
end Go.Proofs.Ytffjhibomipemaa
