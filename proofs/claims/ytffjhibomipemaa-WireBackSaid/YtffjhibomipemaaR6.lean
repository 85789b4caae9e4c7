import Derived.Test.YtffjhibomipemaaR4
set_option linter.unusedSimpArgs false
namespace Go.Proofs.Ytffjhibomipemaa
open Go.Proofs
/-- What the reference's number returns. -/
def Nm (src : List UInt8) (x : Except Nat (Nat × List UInt8)) (H : Hp) (V : List Nat) : CV → Hp → List Nat → Prop := fun r H' V' =>
  (match x with
  | .ok (m, s) => ∃ k : Nat, r = .tup [ci m, ci k, er 0] ∧ k ≤ src.length ∧ s = src.drop k
  | .error e => r = .tup [ci 0, ci 0, er e]) ∧ H = H' ∧ V = V'
section
variable {H H' : Hp} {V V' : List Nat} {src : List UInt8} {x : Except Nat (Nat × List UInt8)}
theorem Fin.nmOk {m k : Nat} {s : List UInt8} {a b c : CV} (hx : x = .ok (m, s)) (ha : a = ci m) (hb : b = ci k) (hc : c = er 0) (hk : k ≤ src.length) (hs : s = src.drop k) (hokH : ∀ (b : Nat) cs, H[b]? = some (some cs) → okL H.length V.length cs) (hH : H'.take H.length = H) (hV : V'.take V.length = V) :
    Fin H.length V.length (Nm src x H V) (.tup [a, b, c]) H' V' := by
  subst hx ha hb hc
  exact Fin.pure ⟨⟨k, rfl, hk, hs⟩, rfl, rfl⟩ hH hV (.refl _) (by simp [go_sem]) hokH
theorem Fin.nmErr {e : Nat} {c : CV} (hx : x = .error e) (hc : c = er e) (hokH : ∀ (b : Nat) cs, H[b]? = some (some cs) → okL H.length V.length cs) (hH : H'.take H.length = H) (hV : V'.take V.length = V) :
    Fin H.length V.length (Nm src x H V) (.tup [ci 0, ci 0, c]) H' V' := by
  subst hx hc
  exact Fin.pure ⟨rfl, rfl, rfl⟩ hH hV (.refl _) (by simp [go_sem]) hokH
end
theorem tmod128 (b : UInt8) : ((b.toNat : Int)).tmod 128 = ((b.toNat % 128 : Nat) : Int) := by
  rw [Int.tmod_eq_emod_of_nonneg (by omega)]; omega
theorem byte_wrap (b : UInt8) : IntKind.i64.wrap (b.toNat : Int) = (b.toNat : Int) := wrap_nat (by have := b.toNat_lt; omega)
theorem refNumber_cc (H : Hp) (V : List Nat) (tk : Tk) (src : List UInt8) : CC Try.prog 77 [.sl tk 1 (bs src)] H V (Nm src (number src) H V) := by
  refine CC.of_swp Try.func77 rfl (by kernel_rfl) (by rw [Try.ntmps77]; exact len_le _ _ rfl) fun hok hokH => ?_
  clear hok
  refine SWp.seq (Wp.s ?_)
  simp -implicitDefEqProofs [go_sem, args0]
  refine SWp.seq (Wp.s ?_)
  simp -implicitDefEqProofs [go_sem]
  refine SWp.join (α := Unit) (fun _ => ([], H, V)) (fun _ => number src = .error 3) ?_ ?_
  · refine SWp.seq (Wp.s ?_)
    simp -implicitDefEqProofs [go_sem]
    refine SWp.block ?_
    refine SWp.loop (α := Nat × Nat × Nat) (fun x => ([(0, .sl tk 1 (bs src)), (5, ci x.1), (6, ci x.2.2), (7, ci x.2.1)], H, V)) (fun x => x.2.1 ≤ 8 ∧ x.2.2 = 128 ^ x.2.1 ∧ x.1 < 128 ^ x.2.1 ∧ numG (8 - x.2.1) x.2.1 x.1 (src.drop x.2.1) = number src) (fun x => 8 - x.2.1) (0, 0, 1) ⟨by decide, rfl, by simp, rfl⟩ (Sh.forget (by simp [go_sem]) rfl rfl) ?_
    rintro ⟨n, i, w⟩ ⟨hi, hw, hn, h⟩
    dsimp only at hi hw hn h ⊢
    by_cases h8 : i < 8
    · by_cases hs : i < src.length
      · rw [show 8 - i = (7 - i) + 1 by omega, List.drop_eq_getElem_cons hs, numG] at h
        have hpl := part_lt h8 (show src[i].toNat % 128 < 128 by omega)
        have h2 : 128 ^ i ≤ 128 ^ 7 := Nat.pow_le_pow_right (by omega) (by omega)
        have h3 : (128 : Nat) ^ 7 = 562949953421312 := by decide
        have hlt : n + src[i].toNat % 128 * 128 ^ i < 128 ^ (i + 1) := by
          have h1 : src[i].toNat % 128 * 128 ^ i ≤ 127 * 128 ^ i := Nat.mul_le_mul_right _ (by omega)
          rw [Nat.pow_succ]; omega
        have e1 : ((src[i].toNat % 128 : Nat) : Int) * ((w : Nat) : Int) = ((src[i].toNat % 128 * 128 ^ i : Nat) : Int) := by rw [hw]; simp
        have e2 : (n : Int) + ((src[i].toNat % 128 * 128 ^ i : Nat) : Int) = ((n + src[i].toNat % 128 * 128 ^ i : Nat) : Int) := by omega
        have e3 : (w : Int) * 128 = ((w * 128 : Nat) : Int) := by omega
        have hw8 : w * 128 = 128 ^ (i + 1) := by rw [hw, Nat.pow_succ]
        have hmod : src[i].toNat < 128 → src[i].toNat % 128 = src[i].toNat := fun h => Nat.mod_eq_of_lt h
        obtain ⟨B, hB⟩ : ∃ B, src[i].toNat % 128 = B := ⟨_, rfl⟩
        obtain ⟨P, hP⟩ : ∃ P, B * 128 ^ i = P := ⟨_, rfl⟩
        obtain ⟨N, hN⟩ : ∃ N, n + P = N := ⟨_, rfl⟩
        obtain ⟨w', hw'⟩ : ∃ w', w * 128 = w' := ⟨_, rfl⟩
        have hNb : N ≤ 72057594037927936 + 562949953421312 := by rw [← hN, ← hP, ← hB]; omega
        have hwb : w' < 9223372036854775808 := by
          have : w ≤ 562949953421312 := by rw [hw, ← h3]; exact h2
          omega
        rw [hB, hP] at e1 e2
        rw [hN] at e2
        rw [hw'] at e3
        have f1 : ((src[i].toNat : Int)).tmod 128 = (B : Int) := by rw [tmod128, hB]
        have f2 : IntKind.i64.wrap (P : Int) = (P : Int) := wrap_nat (by rw [← hP, ← hB]; omega)
        have f3 : IntKind.i64.wrap (N : Int) = (N : Int) := wrap_nat (by omega)
        have f4 : IntKind.i64.wrap (w' : Int) = (w' : Int) := wrap_nat hwb
        refine Wp.s ?_
        by_cases hb : src[i].toNat < 128
        · rw [if_pos hb] at h
          have hBb : src[i].toNat * 128 ^ i = P := by rw [← hP, ← hB, hmod hb]
          rw [hBb, hN] at h
          by_cases hz : (src[i].toNat = 0 ∧ 0 < i) ∨ 9007199254740991 < N
          · rw [if_pos hz] at h
            simp -implicitDefEqProofs [go_sem, byte_wrap, f1, e1, f2, e2, f3, e3, f4, hs, show (i : Int) < 8 by omega, show (src[i].toNat : Int) < 128 by omega, show ¬ src.length ≤ i by omega]
            exact ⟨fun h1 => ⟨fun h2 => ⟨fun _ => Fin.nmErr h.symm rfl hokH (by simp) (by simp), fun h4 => absurd hz (by omega)⟩, fun _ => Fin.nmErr h.symm rfl hokH (by simp) (by simp)⟩, fun h1 => ⟨fun _ => Fin.nmErr h.symm rfl hokH (by simp) (by simp), fun h4 => absurd hz (by omega)⟩⟩
          · rw [if_neg hz] at h
            simp -implicitDefEqProofs [go_sem, byte_wrap, f1, e1, f2, e2, f3, e3, f4, hs, show (i : Int) < 8 by omega, show (src[i].toNat : Int) < 128 by omega, show ¬ src.length ≤ i by omega]
            exact ⟨fun h1 => ⟨fun h2 => ⟨fun h4 => absurd (.inr (by omega)) hz, fun _ => Fin.nmOk (k := i + 1) h.symm rfl (by rw [wrap_succ (by omega)]) rfl (by omega) rfl hokH (by simp) (by simp)⟩, fun h2 => absurd (.inl ⟨h1, by omega⟩) hz⟩, fun h1 => ⟨fun h4 => absurd (.inr (by omega)) hz, fun _ => Fin.nmOk (k := i + 1) h.symm rfl (by rw [wrap_succ (by omega)]) rfl (by omega) rfl hokH (by simp) (by simp)⟩⟩
        · rw [if_neg hb] at h
          simp -implicitDefEqProofs [go_sem, byte_wrap, f1, e1, f2, e2, f3, e3, f4, hs, show (i : Int) < 8 by omega, show ¬ (src[i].toNat : Int) < 128 by omega, show ¬ src.length ≤ i by omega]
          refine ⟨N, i + 1, w', ⟨by omega, by rw [← hw', hw8], by rw [← hN, ← hP, ← hB]; exact hlt, ?_⟩, by omega, Sh.forget (by simp [go_sem, wrap_succ (show i ≤ 1000000000 by omega)]) rfl rfl⟩
          rw [hB, hP, hN] at h
          rw [show 8 - (i + 1) = 7 - i by omega]; exact h
      · rw [show 8 - i = (7 - i) + 1 by omega, List.drop_eq_nil_of_le (by omega), numG] at h
        refine Wp.s ?_
        simp -implicitDefEqProofs [go_sem, show (i : Int) < 8 by omega, show src.length ≤ i by omega]
        exact Fin.nmErr h.symm rfl hokH (by simp) (by simp)
    · rw [show 8 - i = 0 by omega, numG] at h
      refine Wp.s ?_
      simp -implicitDefEqProofs [go_sem, show ¬ ((i : Int) < 8) by omega]
      exact ⟨h.symm, Sh.forget (by simp [go_sem]) rfl rfl⟩
  · rintro _ he
    refine Wp.s ?_
    simp -implicitDefEqProofs [go_sem]
    exact Fin.nmErr he rfl hokH (by simp) (by simp)
theorem rest_cc (H : Hp) (V : List Nat) (tk : Tk) (src : List UInt8) (k : Nat) (hk : k ≤ src.length) (hl : src.length ≤ 1000000000) : CC Try.prog 78 [.sl tk 1 (bs src), ci k] H V (Fr 1 (bs (src.drop k)) H V) := by
  refine CC.of_swp Try.func78 rfl (by kernel_rfl) (by rw [Try.ntmps78]; exact len_le _ _ rfl) fun hok hokH => Wp.s ?_
  simp -implicitDefEqProofs [go_sem, args0]
  refine ⟨by omega, by omega, ?_⟩
  exact Fin.fresh rfl (okBs _ _ _) hokH (by simp)
theorem refInt_cc (H : Hp) (V : List Nat) (tk : Tk) (src : List UInt8) (hl : src.length ≤ 1000000000) : CC Try.prog 35 [.sl tk 1 (bs src)] H V (Pu (rdv (fun n : Nat => ci n) (ci 0) (number src)) H V) := by
  refine CC.of_swp Try.func35 rfl (by kernel_rfl) (by rw [Try.ntmps35]; exact len_le _ _ rfl) fun hok hokH => Wp.s ?_
  simp -implicitDefEqProofs [go_sem, args0]
  refine CC.mono (refNumber_cc _ _ _ _) ?_
  intro r H' V' h
  unfold Nm at h
  rcases hn : number src with e | ⟨n, s⟩ <;> rw [hn] at h
  · have he := ne0_number _ _ hn
    obtain ⟨rfl, rfl, rfl⟩ := h
    simp -implicitDefEqProofs [go_sem, he]
    exact Fin.pu (.refl _) (by simp [go_sem, rdv]) hokH (by simp) (by simp)
  · obtain ⟨⟨k, rfl, hk, rfl⟩, rfl, rfl⟩ := h
    simp -implicitDefEqProofs [go_sem]
    refine CC.mono (rest_cc _ _ _ _ _ hk hl) ?_
    rintro _ _ _ ⟨v', rfl, rfl, rfl⟩
    simp -implicitDefEqProofs [go_sem]
    exact Fin.pu (.tup (.cons (.refl _) (.cons (.sh ..) (.cons (.refl _) .nil)))) (by simp [go_sem, rdv]) hokH (by simp) (by simp)
theorem refLength_cc (H : Hp) (V : List Nat) (tk : Tk) (src : List UInt8) (hl : src.length ≤ 1000000000) : CC Try.prog 79 [.sl tk 1 (bs src)] H V (Pu (rdv (fun n : Nat => ci n) (ci 0) (lengthP src)) H V) := by
  refine CC.of_swp Try.func79 rfl (by kernel_rfl) (by rw [Try.ntmps79]; exact len_le _ _ rfl) fun hok hokH => Wp.s ?_
  simp -implicitDefEqProofs [go_sem, args0]
  refine CC.mono (refInt_cc _ _ _ _ hl) ?_
  rintro _ _ _ ⟨rfl, rfl, rfl⟩
  unfold lengthP
  rcases hn : number src with e | ⟨n, s⟩
  · have he := ne0_number _ _ hn
    simp -implicitDefEqProofs [go_sem, rdv, he]
    exact Fin.pu (.refl _) (by simp [go_sem]) hokH (by simp) (by simp)
  · dsimp only
    by_cases h5 : 65536 < n
    · rw [if_pos h5]
      simp -implicitDefEqProofs [go_sem, rdv, show (65536 : Int) < n by omega]
      exact Fin.pu (.refl _) (by simp [go_sem]) hokH (by simp) (by simp)
    · rw [if_neg h5]
      simp -implicitDefEqProofs [go_sem, rdv, show ¬ (65536 : Int) < n by omega]
      exact Fin.pu (.refl _) (by simp [go_sem]) hokH (by simp) (by simp)
theorem refBytes_cc (H : Hp) (V : List Nat) (tk : Tk) (src : List UInt8) (hl : src.length ≤ 1000000000) : CC Try.prog 36 [.sl tk 1 (bs src)] H V (Pu (rdv (fun l : List UInt8 => .sl .sh 1 (bs l)) nilC (textP src)) H V) := by
  refine CC.of_swp Try.func36 rfl (by kernel_rfl) (by rw [Try.ntmps36]; exact len_le _ _ rfl) fun hok hokH => Wp.s ?_
  simp -implicitDefEqProofs [go_sem, args0]
  refine CC.mono (refLength_cc _ _ _ _ hl) ?_
  rintro _ _ _ ⟨rfl, rfl, rfl⟩
  unfold textP
  rcases hn : lengthP src with e | ⟨n, s⟩
  · have he := ne0_length _ _ hn
    simp -implicitDefEqProofs [go_sem, rdv, he]
    exact Fin.pu (.refl _) (by simp [go_sem]) hokH (by simp) (by simp)
  · have hls := shr_length _ _ _ hn
    dsimp only
    unfold takeP
    by_cases h5 : s.length < n
    · rw [if_pos h5]
      simp -implicitDefEqProofs [go_sem, rdv, show (s.length : Int) < n by omega]
      exact Fin.pu (.refl _) (by simp [go_sem]) hokH (by simp) (by simp)
    · rw [if_neg h5]
      simp -implicitDefEqProofs [go_sem, rdv, show ¬ (s.length : Int) < n by omega]
      refine ⟨by omega, by omega, ?_⟩
      refine CC.mono (rest_cc _ _ _ _ _ (by omega) (by omega)) ?_
      rintro _ _ _ ⟨v', rfl, rfl, rfl⟩
      simp -implicitDefEqProofs [go_sem]
      exact Fin.pu (.tup (.cons (.sh ..) (.cons (.sh ..) (.cons (.refl _) .nil)))) (by simp [go_sem]) hokH (by simp) (by simp)
end Go.Proofs.Ytffjhibomipemaa
