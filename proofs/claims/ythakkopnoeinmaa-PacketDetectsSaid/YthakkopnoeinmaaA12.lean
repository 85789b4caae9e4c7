import Derived.Test.YthakkopnoeinmaaA10
import Derived.ChangeKeysEq
set_option linter.unusedSimpArgs false
set_option linter.unusedVariables false
namespace Go.Proofs.Ythakkopnoeinmaa
open Go.Proofs
/-- What the reference's number returns. -/
def Nm (src : List UInt8) (x : Except Nat (Nat × List UInt8)) (H : Hp) (V : List Nat) : CV → Hp → List Nat → Prop := fun r H' V' =>
  (match x with
  | .ok (m, s) => ∃ k : Nat, r = .tup [ci m, ci k, er 0] ∧ k ≤ src.length ∧ s = src.drop k
  | .error e => r = .tup [ci 0, ci 0, er e]) ∧ H = H' ∧ V = V'
section
variable {H H' : Hp} {V V' : List Nat} {src : List UInt8} {x : Except Nat (Nat × List UInt8)}
theorem Fin.nmOk {m k : Nat} {s : List UInt8} {a b c : CV} (hx : x = .ok (m, s)) (ha : a = ci m) (hb : b = ci k) (hc : c = er 0) (hk : k ≤ src.length) (hs : s = src.drop k) (hokH : ∀ (b : Nat) cs, H[b]? = some (some cs) → okL H.length V.length cs) (hH : H'.take H.length = H) (hV : V'.take V.length = V) :
    Fin H.length V.length (Nm src x H V) (.tup [a, b, c]) H' V' := by
  subst hx ha hb hc
  exact Fin.pure ⟨⟨k, rfl, hk, hs⟩, rfl, rfl⟩ hH hV (.refl _) (by simp [go_sem]) hokH
theorem Fin.nmErr {e : Nat} {c : CV} (hx : x = .error e) (hc : c = er e) (hokH : ∀ (b : Nat) cs, H[b]? = some (some cs) → okL H.length V.length cs) (hH : H'.take H.length = H) (hV : V'.take V.length = V) :
    Fin H.length V.length (Nm src x H V) (.tup [ci 0, ci 0, c]) H' V' := by
  subst hx hc
  exact Fin.pure ⟨rfl, rfl, rfl⟩ hH hV (.refl _) (by simp [go_sem]) hokH
end
theorem tmod128 (b : UInt8) : ((b.toNat : Int)).tmod 128 = ((b.toNat % 128 : Nat) : Int) := by
  rw [Int.tmod_eq_emod_of_nonneg (by omega)]; omega
theorem byte_wrap (b : UInt8) : IntKind.i64.wrap (b.toNat : Int) = (b.toNat : Int) := wrap_nat (by have := b.toNat_lt; omega)
theorem refNumber_cc (H : Hp) (V : List Nat) (tk : Tk) (src : List UInt8) : CC Try.prog 97 [.sl tk 1 (bs src)] H V (Nm src (number src) H V) := by
  refine CC.of_swp Try.func97 rfl (by kernel_rfl) (by rw [Try.ntmps97]; exact len_le _ _ rfl) fun hok hokH => ?_
  clear hok
  refine SWp.seq (Wp.s ?_)
  simp -implicitDefEqProofs [go_sem, args0]
  refine SWp.seq (Wp.s ?_)
  simp -implicitDefEqProofs [go_sem]
  refine SWp.join (α := Unit) (fun _ => ([], H, V)) (fun _ => number src = .error 3) ?_ ?_
  · refine SWp.seq (Wp.s ?_)
    simp -implicitDefEqProofs [go_sem]
    refine SWp.block ?_
    refine SWp.loop (α := Nat × Nat × Nat) (fun x => ([(0, .sl tk 1 (bs src)), (5, ci x.1), (6, ci x.2.2), (7, ci x.2.1)], H, V)) (fun x => x.2.1 ≤ 8 ∧ x.2.2 = 128 ^ x.2.1 ∧ x.1 < 128 ^ x.2.1 ∧ numG (8 - x.2.1) x.2.1 x.1 (src.drop x.2.1) = number src) (fun x => 8 - x.2.1) (0, 0, 1) ⟨by decide, rfl, by simp, rfl⟩ (Sh.forget (by simp [go_sem]) rfl rfl) ?_
    rintro ⟨n, i, w⟩ ⟨hi, hw, hn, h⟩
    dsimp only at hi hw hn h ⊢
    by_cases h8 : i < 8
    · by_cases hs : i < src.length
      · rw [show 8 - i = (7 - i) + 1 by omega, List.drop_eq_getElem_cons hs, numG] at h
        have hpl := part_lt h8 (show src[i].toNat % 128 < 128 by omega)
        have h2 : 128 ^ i ≤ 128 ^ 7 := Nat.pow_le_pow_right (by omega) (by omega)
        have h3 : (128 : Nat) ^ 7 = 562949953421312 := by decide
        have hlt : n + src[i].toNat % 128 * 128 ^ i < 128 ^ (i + 1) := by
          have h1 : src[i].toNat % 128 * 128 ^ i ≤ 127 * 128 ^ i := Nat.mul_le_mul_right _ (by omega)
          rw [Nat.pow_succ]; omega
        have e1 : ((src[i].toNat % 128 : Nat) : Int) * ((w : Nat) : Int) = ((src[i].toNat % 128 * 128 ^ i : Nat) : Int) := by rw [hw]; simp
        have e2 : (n : Int) + ((src[i].toNat % 128 * 128 ^ i : Nat) : Int) = ((n + src[i].toNat % 128 * 128 ^ i : Nat) : Int) := by omega
        have e3 : (w : Int) * 128 = ((w * 128 : Nat) : Int) := by omega
        have hw8 : w * 128 = 128 ^ (i + 1) := by rw [hw, Nat.pow_succ]
        have hmod : src[i].toNat < 128 → src[i].toNat % 128 = src[i].toNat := fun h => Nat.mod_eq_of_lt h
        obtain ⟨B, hB⟩ : ∃ B, src[i].toNat % 128 = B := ⟨_, rfl⟩
        obtain ⟨P, hP⟩ : ∃ P, B * 128 ^ i = P := ⟨_, rfl⟩
        obtain ⟨N, hN⟩ : ∃ N, n + P = N := ⟨_, rfl⟩
        obtain ⟨w', hw'⟩ : ∃ w', w * 128 = w' := ⟨_, rfl⟩
        have hNb : N ≤ 72057594037927936 + 562949953421312 := by rw [← hN, ← hP, ← hB]; omega
        have hwb : w' < 9223372036854775808 := by
          have : w ≤ 562949953421312 := by rw [hw, ← h3]; exact h2
          omega
        rw [hB, hP] at e1 e2
        rw [hN] at e2
        rw [hw'] at e3
        have f1 : ((src[i].toNat : Int)).tmod 128 = (B : Int) := by rw [tmod128, hB]
        have f2 : IntKind.i64.wrap (P : Int) = (P : Int) := wrap_nat (by rw [← hP, ← hB]; omega)
        have f3 : IntKind.i64.wrap (N : Int) = (N : Int) := wrap_nat (by omega)
        have f4 : IntKind.i64.wrap (w' : Int) = (w' : Int) := wrap_nat hwb
        refine Wp.s ?_
        by_cases hb : src[i].toNat < 128
        · rw [if_pos hb] at h
          have hBb : src[i].toNat * 128 ^ i = P := by rw [← hP, ← hB, hmod hb]
          rw [hBb, hN] at h
          by_cases hz : (src[i].toNat = 0 ∧ 0 < i) ∨ 9007199254740991 < N
          · rw [if_pos hz] at h
            simp -implicitDefEqProofs [go_sem, byte_wrap, f1, e1, f2, e2, f3, e3, f4, hs, show (i : Int) < 8 by omega, show (src[i].toNat : Int) < 128 by omega, show ¬ src.length ≤ i by omega]
            exact ⟨fun h1 => ⟨fun h2 => ⟨fun _ => Fin.nmErr h.symm rfl hokH (by simp) (by simp), fun h4 => absurd hz (by omega)⟩, fun _ => Fin.nmErr h.symm rfl hokH (by simp) (by simp)⟩, fun h1 => ⟨fun _ => Fin.nmErr h.symm rfl hokH (by simp) (by simp), fun h4 => absurd hz (by omega)⟩⟩
          · rw [if_neg hz] at h
            simp -implicitDefEqProofs [go_sem, byte_wrap, f1, e1, f2, e2, f3, e3, f4, hs, show (i : Int) < 8 by omega, show (src[i].toNat : Int) < 128 by omega, show ¬ src.length ≤ i by omega]
            exact ⟨fun h1 => ⟨fun h2 => ⟨fun h4 => absurd (.inr (by omega)) hz, fun _ => Fin.nmOk (k := i + 1) h.symm rfl (by rw [wrap_succ (by omega)]) rfl (by omega) rfl hokH (by simp) (by simp)⟩, fun h2 => absurd (.inl ⟨h1, by omega⟩) hz⟩, fun h1 => ⟨fun h4 => absurd (.inr (by omega)) hz, fun _ => Fin.nmOk (k := i + 1) h.symm rfl (by rw [wrap_succ (by omega)]) rfl (by omega) rfl hokH (by simp) (by simp)⟩⟩
        · rw [if_neg hb] at h
          simp -implicitDefEqProofs [go_sem, byte_wrap, f1, e1, f2, e2, f3, e3, f4, hs, show (i : Int) < 8 by omega, show ¬ (src[i].toNat : Int) < 128 by omega, show ¬ src.length ≤ i by omega]
          refine ⟨N, i + 1, w', ⟨by omega, by rw [← hw', hw8], by rw [← hN, ← hP, ← hB]; exact hlt, ?_⟩, by omega, Sh.forget (by simp [go_sem, wrap_succ (show i ≤ 1000000000 by omega)]) rfl rfl⟩
          rw [hB, hP, hN] at h
          rw [show 8 - (i + 1) = 7 - i by omega]; exact h
      · rw [show 8 - i = (7 - i) + 1 by omega, List.drop_eq_nil_of_le (by omega), numG] at h
        refine Wp.s ?_
        simp -implicitDefEqProofs [go_sem, show (i : Int) < 8 by omega, show src.length ≤ i by omega]
        exact Fin.nmErr h.symm rfl hokH (by simp) (by simp)
    · rw [show 8 - i = 0 by omega, numG] at h
      refine Wp.s ?_
      simp -implicitDefEqProofs [go_sem, show ¬ ((i : Int) < 8) by omega]
      exact ⟨h.symm, Sh.forget (by simp [go_sem]) rfl rfl⟩
  · rintro _ he
    refine Wp.s ?_
    simp -implicitDefEqProofs [go_sem]
    exact Fin.nmErr he rfl hokH (by simp) (by simp)
theorem rest_cc (H : Hp) (V : List Nat) (tk : Tk) (src : List UInt8) (k : Nat) (hk : k ≤ src.length) (hl : src.length ≤ 1000000000) : CC Try.prog 80 [.sl tk 1 (bs src), ci k] H V (Fr 1 (bs (src.drop k)) H V) := by
  refine CC.of_swp Try.func80 rfl (by kernel_rfl) (by rw [Try.ntmps80]; exact len_le _ _ rfl) fun hok hokH => Wp.s ?_
  simp -implicitDefEqProofs [go_sem, args0]
  refine ⟨by omega, by omega, ?_⟩
  exact Fin.fresh rfl (okBs _ _ _) hokH (by simp)
theorem refInt_cc (H : Hp) (V : List Nat) (tk : Tk) (src : List UInt8) (hl : src.length ≤ 1000000000) : CC Try.prog 78 [.sl tk 1 (bs src)] H V (Pu (rdv (fun n : Nat => ci n) (ci 0) (number src)) H V) := by
  refine CC.of_swp Try.func78 rfl (by kernel_rfl) (by rw [Try.ntmps78]; exact len_le _ _ rfl) fun hok hokH => Wp.s ?_
  simp -implicitDefEqProofs [go_sem, args0]
  refine CC.mono (refNumber_cc _ _ _ _) ?_
  intro r H' V' h
  unfold Nm at h
  rcases hn : number src with e | ⟨n, s⟩ <;> rw [hn] at h
  · have he := ne0_number _ _ hn
    obtain ⟨rfl, rfl, rfl⟩ := h
    simp -implicitDefEqProofs [go_sem, he]
    exact Fin.pu (.refl _) (by simp [go_sem, rdv]) hokH (by simp) (by simp)
  · obtain ⟨⟨k, rfl, hk, rfl⟩, rfl, rfl⟩ := h
    simp -implicitDefEqProofs [go_sem]
    refine CC.mono (rest_cc _ _ _ _ _ hk hl) ?_
    rintro _ _ _ ⟨v', rfl, rfl, rfl⟩
    simp -implicitDefEqProofs [go_sem]
    exact Fin.pu (.tup (.cons (.refl _) (.cons (.sh ..) (.cons (.refl _) .nil)))) (by simp [go_sem, rdv]) hokH (by simp) (by simp)
theorem refLength_cc (H : Hp) (V : List Nat) (tk : Tk) (src : List UInt8) (hl : src.length ≤ 1000000000) : CC Try.prog 79 [.sl tk 1 (bs src)] H V (Pu (rdv (fun n : Nat => ci n) (ci 0) (lengthP src)) H V) := by
  refine CC.of_swp Try.func79 rfl (by kernel_rfl) (by rw [Try.ntmps79]; exact len_le _ _ rfl) fun hok hokH => Wp.s ?_
  simp -implicitDefEqProofs [go_sem, args0]
  refine CC.mono (refInt_cc _ _ _ _ hl) ?_
  rintro _ _ _ ⟨rfl, rfl, rfl⟩
  unfold lengthP
  rcases hn : number src with e | ⟨n, s⟩
  · have he := ne0_number _ _ hn
    simp -implicitDefEqProofs [go_sem, rdv, he]
    exact Fin.pu (.refl _) (by simp [go_sem]) hokH (by simp) (by simp)
  · dsimp only
    by_cases h5 : 65536 < n
    · rw [if_pos h5]
      simp -implicitDefEqProofs [go_sem, rdv, show (65536 : Int) < n by omega]
      exact Fin.pu (.refl _) (by simp [go_sem]) hokH (by simp) (by simp)
    · rw [if_neg h5]
      simp -implicitDefEqProofs [go_sem, rdv, show ¬ (65536 : Int) < n by omega]
      exact Fin.pu (.refl _) (by simp [go_sem]) hokH (by simp) (by simp)
theorem refBytes_cc (H : Hp) (V : List Nat) (tk : Tk) (src : List UInt8) (hl : src.length ≤ 1000000000) : CC Try.prog 56 [.sl tk 1 (bs src)] H V (Pu (rdv (fun l : List UInt8 => .sl .sh 1 (bs l)) nilC (textP src)) H V) := by
  refine CC.of_swp Try.func56 rfl (by kernel_rfl) (by rw [Try.ntmps56]; exact len_le _ _ rfl) fun hok hokH => Wp.s ?_
  simp -implicitDefEqProofs [go_sem, args0]
  refine CC.mono (refLength_cc _ _ _ _ hl) ?_
  rintro _ _ _ ⟨rfl, rfl, rfl⟩
  unfold textP
  rcases hn : lengthP src with e | ⟨n, s⟩
  · have he := ne0_length _ _ hn
    simp -implicitDefEqProofs [go_sem, rdv, he]
    exact Fin.pu (.refl _) (by simp [go_sem]) hokH (by simp) (by simp)
  · have hls := shr_length _ _ _ hn
    dsimp only
    unfold takeP
    by_cases h5 : s.length < n
    · rw [if_pos h5]
      simp -implicitDefEqProofs [go_sem, rdv, show (s.length : Int) < n by omega]
      exact Fin.pu (.refl _) (by simp [go_sem]) hokH (by simp) (by simp)
    · rw [if_neg h5]
      simp -implicitDefEqProofs [go_sem, rdv, show ¬ (s.length : Int) < n by omega]
      refine ⟨by omega, by omega, ?_⟩
      refine CC.mono (rest_cc _ _ _ _ _ (by omega) (by omega)) ?_
      rintro _ _ _ ⟨v', rfl, rfl, rfl⟩
      simp -implicitDefEqProofs [go_sem]
      exact Fin.pu (.tup (.cons (.sh ..) (.cons (.sh ..) (.cons (.refl _) .nil)))) (by simp [go_sem]) hokH (by simp) (by simp)
end Go.Proofs.Ythakkopnoeinmaa
namespace Go.Proofs.Ythakkopnoeinmaa
open Go.Proofs
theorem refInts_cc (H : Hp) (V : List Nat) (tk : Tk) (src : List UInt8) (hl : src.length ≤ 1000000000) : CC Try.prog 60 [.sl tk 1 (bs src)] H V (Pu (rdv (fun l : List Int => .sl .sh 1 (l.map ic)) nilC (listP intP src)) H V) := by
  refine CC.of_swp Try.func60 rfl (by kernel_rfl) (by rw [Try.ntmps60]; exact len_le _ _ rfl) fun hok hokH => ?_
  clear hok
  refine SWp.seq (Wp.s ?_)
  simp -implicitDefEqProofs [go_sem, args0]
  refine SWp.seq (Wp.s ?_)
  simp -implicitDefEqProofs [go_sem]
  refine CC.mono (refLength_cc _ _ _ _ hl) ?_
  rintro _ _ _ ⟨rfl, rfl, rfl⟩
  rcases hn : lengthP src with e | ⟨n, s⟩
  · have he := ne0_length _ _ hn
    have hq : listP intP src = .error e := by unfold listP; rw [hn]
    rw [hq]
    simp -implicitDefEqProofs [go_sem, rdv]
    refine Wp.s ?_
    simp -implicitDefEqProofs [go_sem, he]
    exact Fin.pu (.refl _) (by simp [go_sem]) hokH (by simp) (by simp)
  · have hn5 := length_le hn
    have hls := shr_length _ _ _ hn
    simp -implicitDefEqProofs [go_sem, rdv]
    refine SWp.seq (Wp.s ?_)
    simp -implicitDefEqProofs [go_sem]
    refine SWp.seq (Wp.s ?_)
    simp -implicitDefEqProofs [go_sem]
    refine SWp.join (α := Option Nat × List Int × List UInt8) (fun x => ([(7, outC x.1 V.length 1 (x.2.1.map ic)), (0, .sl .sh 1 (bs x.2.2))], H, outV V x.1)) (fun x => (x.1 = none → x.2.1 = []) ∧ listP intP src = .ok (x.2.1, x.2.2)) ?_ ?_
    · refine SWp.seq (Wp.s ?_)
      simp -implicitDefEqProofs [go_sem]
      refine SWp.block ?_
      refine SWp.loop (α := Nat × Option Nat × List Int × List UInt8) (fun x => ([(0, .sl .sh 1 (bs x.2.2.2)), (5, ci n), (8, ci x.1), (7, outC x.2.1 V.length 1 (x.2.2.1.map ic))], H, outV V x.2.1))
        (fun x => x.1 ≤ n ∧ x.2.2.1.length = x.1 ∧ (x.2.1 = none → x.2.2.1 = []) ∧ listP intP src = ahead x.2.2.1 (repP intP (n - x.1) x.2.2.2) ∧ x.2.2.2.length ≤ 1000000000) (fun x => n - x.1) (0, none, [], s) ⟨Nat.zero_le _, rfl, fun _ => rfl, by unfold listP; rw [hn]; exact (ahead_nil _).symm, by dsimp only; omega⟩
        (Sh.forget (by simp [go_sem]) rfl rfl) ?_
      rintro ⟨i, o, xs, s⟩ ⟨hi, hx, ho, hL, hsl⟩
      dsimp only at hi hx ho hL hsl ⊢
      refine Wp.s ?_
      simp -implicitDefEqProofs [go_sem]
      refine ⟨fun h => ?_, fun h => ?_⟩
      · refine CC.mono (refInt_cc _ _ _ s hsl) ?_
        rintro _ _ _ ⟨rfl, rfl, rfl⟩
        have hnn : n - i = n - (i + 1) + 1 := by omega
        rcases hm : number s with e | ⟨a, s'⟩
        · have he := ne0_number _ _ hm
          have hL' := hL
          rw [hnn, rep_err (show intP s = .error e by unfold intP; rw [hm])] at hL'
          simp -implicitDefEqProofs [go_sem, rdv, he]
          rw [hL']
          exact Fin.pu (.refl _) (by simp [go_sem, rdv]) hokH (by simp) (outV_take _ _)
        · have hq : intP s = .ok ((a : Int), s') := by unfold intP; rw [hm]
          simp -implicitDefEqProofs [go_sem, rdv]
          have hs' := shr_int _ _ _ hq
          have hL' := hL
          rw [hnn, rep_ok hq] at hL'
          have hw := wrap_succ (show i ≤ 1000000000 by omega)
          cases o with
          | none =>
            obtain rfl := ho rfl
            simp -implicitDefEqProofs [go_sem]
            exact ⟨i + 1, some 0, [] ++ [(a : Int)], s', ⟨by omega, by rw [List.length_append, hx]; rfl, by simp, hL', by omega⟩, by omega, Sh.forget (by simp [go_sem, hw]; exact .refl _) rfl rfl⟩
          | some v =>
            simp -implicitDefEqProofs [go_sem]
            exact ⟨by omega, i + 1, some (v + 1), xs ++ [(a : Int)], s', ⟨by omega, by rw [List.length_append, hx]; rfl, by simp, hL', by omega⟩, by omega, Sh.forget (by simp [go_sem, hw]; exact .refl _) rfl rfl⟩
      · exact ⟨o, xs, s, ⟨ho, by rw [hL, show n - i = 0 by omega, repP]; simp [ahead]⟩, Sh.forget (by simp [go_sem]) rfl rfl⟩
    · rintro ⟨o, xs, s⟩ ⟨ho, hL⟩
      dsimp only at ho hL ⊢
      refine Wp.s ?_
      simp -implicitDefEqProofs [go_sem]
      rw [hL]
      exact Fin.pu (.tup (.cons (outC_le _ _ _ _ (by decide) ho) (.cons (.refl _) (.cons (.refl _) .nil)))) (by simp [go_sem, rdv]) hokH (by simp) (outV_take _ _)
theorem refExtents_cc (H : Hp) (V : List Nat) (tk : Tk) (src : List UInt8) (hl : src.length ≤ 1000000000) : CC Try.prog 55 [.sl tk 1 (bs src)] H V (Pu (rdv (fun l : List Ext2 => .sl .sh 2 (l.map extC)) nilC (listP extP src)) H V) := by
  refine CC.of_swp Try.func55 rfl (by kernel_rfl) (by rw [Try.ntmps55]; exact len_le _ _ rfl) fun hok hokH => ?_
  clear hok
  refine SWp.seq (Wp.s ?_)
  simp -implicitDefEqProofs [go_sem, args0]
  refine SWp.seq (Wp.s ?_)
  simp -implicitDefEqProofs [go_sem]
  refine CC.mono (refLength_cc _ _ _ _ hl) ?_
  rintro _ _ _ ⟨rfl, rfl, rfl⟩
  rcases hn : lengthP src with e | ⟨n, s⟩
  · have he := ne0_length _ _ hn
    have hq : listP extP src = .error e := by unfold listP; rw [hn]
    rw [hq]
    simp -implicitDefEqProofs [go_sem, rdv]
    refine Wp.s ?_
    simp -implicitDefEqProofs [go_sem, he]
    exact Fin.pu (.refl _) (by simp [go_sem]) hokH (by simp) (by simp)
  · have hn5 := length_le hn
    have hls := shr_length _ _ _ hn
    simp -implicitDefEqProofs [go_sem, rdv]
    refine SWp.seq (Wp.s ?_)
    simp -implicitDefEqProofs [go_sem]
    refine SWp.seq (Wp.s ?_)
    simp -implicitDefEqProofs [go_sem]
    refine SWp.join (α := Option Nat × List Ext2 × List UInt8) (fun x => ([(7, outC x.1 V.length 2 (x.2.1.map extC)), (0, .sl .sh 1 (bs x.2.2))], H, outV V x.1)) (fun x => (x.1 = none → x.2.1 = []) ∧ listP extP src = .ok (x.2.1, x.2.2)) ?_ ?_
    · refine SWp.seq (Wp.s ?_)
      simp -implicitDefEqProofs [go_sem]
      refine SWp.block ?_
      refine SWp.loop (α := Nat × Option Nat × List Ext2 × List UInt8) (fun x => ([(0, .sl .sh 1 (bs x.2.2.2)), (5, ci n), (8, ci x.1), (7, outC x.2.1 V.length 2 (x.2.2.1.map extC))], H, outV V x.2.1))
        (fun x => x.1 ≤ n ∧ x.2.2.1.length = x.1 ∧ (x.2.1 = none → x.2.2.1 = []) ∧ listP extP src = ahead x.2.2.1 (repP extP (n - x.1) x.2.2.2) ∧ x.2.2.2.length ≤ 1000000000) (fun x => n - x.1) (0, none, [], s) ⟨Nat.zero_le _, rfl, fun _ => rfl, by unfold listP; rw [hn]; exact (ahead_nil _).symm, by dsimp only; omega⟩
        (Sh.forget (by simp [go_sem]) rfl rfl) ?_
      rintro ⟨i, o, xs, s⟩ ⟨hi, hx, ho, hL, hsl⟩
      dsimp only at hi hx ho hL hsl ⊢
      refine Wp.s ?_
      simp -implicitDefEqProofs [go_sem]
      refine ⟨fun h => ?_, fun h => ?_⟩
      · refine CC.mono (refInt_cc _ _ _ s hsl) ?_
        rintro _ _ _ ⟨rfl, rfl, rfl⟩
        have hnn : n - i = n - (i + 1) + 1 := by omega
        rcases hm : number s with e | ⟨a, s1⟩
        · have he := ne0_number _ _ hm
          have hL' := hL
          rw [hnn, rep_err (show extP s = .error e by unfold extP pairP; rw [hm])] at hL'
          simp -implicitDefEqProofs [go_sem, rdv, he]
          rw [hL']
          exact Fin.pu (.refl _) (by simp [go_sem, rdv]) hokH (by simp) (outV_take _ _)
        · have hs1 := shr_number _ _ _ hm
          simp -implicitDefEqProofs [go_sem, rdv]
          refine CC.mono (refInt_cc _ _ _ s1 (by omega)) ?_
          rintro _ _ _ ⟨rfl, rfl, rfl⟩
          rcases hm2 : number s1 with e | ⟨b, s2⟩
          · have he := ne0_number _ _ hm2
            have hL' := hL
            rw [hnn, rep_err (show extP s = .error e by unfold extP pairP; rw [hm]; dsimp only; rw [hm2])] at hL'
            simp -implicitDefEqProofs [go_sem, rdv, he]
            rw [hL']
            exact Fin.pu (.refl _) (by simp [go_sem, rdv]) hokH (by simp) (outV_take _ _)
          · have hs2 := shr_number _ _ _ hm2
            simp -implicitDefEqProofs [go_sem, rdv]
            have hq : extP s = .ok (⟨a, b⟩, s2) := by unfold extP pairP; rw [hm]; dsimp only; rw [hm2]
            have hs' := shr_ext _ _ _ hq
            have hL' := hL
            rw [hnn, rep_ok hq] at hL'
            have hw := wrap_succ (show i ≤ 1000000000 by omega)
            cases o with
            | none =>
              obtain rfl := ho rfl
              simp -implicitDefEqProofs [go_sem]
              exact ⟨i + 1, some 0, [] ++ [⟨a, b⟩], s2, ⟨by omega, by rw [List.length_append, hx]; rfl, by simp, hL', by omega⟩, by omega, Sh.forget (by simp [go_sem, hw]; exact .refl _) rfl rfl⟩
            | some v =>
              simp -implicitDefEqProofs [go_sem]
              exact ⟨by omega, i + 1, some (v + 1), xs ++ [⟨a, b⟩], s2, ⟨by omega, by rw [List.length_append, hx]; rfl, by simp, hL', by omega⟩, by omega, Sh.forget (by simp [go_sem, hw]; exact .refl _) rfl rfl⟩
      · exact ⟨o, xs, s, ⟨ho, by rw [hL, show n - i = 0 by omega, repP]; simp [ahead]⟩, Sh.forget (by simp [go_sem]) rfl rfl⟩
    · rintro ⟨o, xs, s⟩ ⟨ho, hL⟩
      dsimp only at ho hL ⊢
      refine Wp.s ?_
      simp -implicitDefEqProofs [go_sem]
      rw [hL]
      exact Fin.pu (.tup (.cons (outC_le _ _ _ _ (by decide) ho) (.cons (.refl _) (.cons (.refl _) .nil)))) (by simp [go_sem, rdv]) hokH (by simp) (outV_take _ _)
def cell8 (b : UInt8) : CV := .v (.int .u8 (b.toNat : Int))
theorem take_tok (V : List Nat) (v w : Nat) : (V ++ [v, w]).take (V.length + 1) = V ++ [v] := by
  rw [List.take_append, List.take_of_length_le (by omega), show V.length + 1 - V.length = 1 by omega]; rfl
theorem fill_step {cs : List CV} {s : List UInt8} {j : Nat} (hj : j < s.length) (hc : j < cs.length) (ht : cs.take j = (s.take j).map cell8) : (cs.take j ++ cell8 s[j] :: cs.drop (j + 1)).take (j + 1) = (s.take (j + 1)).map cell8 := by
  have h : (cs.take j).length = j := by rw [List.length_take]; omega
  rw [List.take_append, List.take_of_length_le (by omega), h, show j + 1 - j = 1 by omega, List.take_succ_cons, List.take_zero, ht, List.take_succ_eq_append_getElem hj, List.map_append]; rfl
theorem okL_cells (i j : Nat) (l : List UInt8) : okL i j (l.map cell8) := by
  rw [okL_iff]; intro c hc
  obtain ⟨b, _, rfl⟩ := List.mem_map.1 hc
  trivial
theorem allOne_cells (l : List UInt8) : allOne (l.map cell8) = true := by
  simp only [allOne, List.all_map, List.all_eq_true]; intros; rfl
end Go.Proofs.Ythakkopnoeinmaa
namespace Go.Proofs.Ythakkopnoeinmaa
/-! ### Whether two arrays or structs of integers are equal -/
def ints (k : IntKind) (zs : List Int) : Array Value := (zs.map fun z => Value.int k z).toArray
theorem zip_rep (k : IntKind) : ∀ (n : Nat) (zs : List Int), zs.length = n → (((List.replicate n k).zip zs).map fun p => Value.int p.1 p.2) = zs.map fun z => Value.int k z
  | 0, [], _ => rfl
  | n + 1, z :: zs, h => by
    rw [List.replicate_succ, List.zip_cons_cons, List.map_cons, List.map_cons, zip_rep k n zs (by simpa using h)]
  | 0, _ :: _, h => by simp at h
  | n + 1, [], h => by simp at h
theorem all_range_int : ∀ (xs ys : List Int), xs.length = ys.length → ((List.range xs.length).all fun i => xs.getD i 0 == ys.getD i 0) = decide (xs = ys)
  | [], [], _ => rfl
  | x :: xs, y :: ys, h => by
    have ih := all_range_int xs ys (by simpa using h)
    rw [List.length_cons, List.range_succ_eq_map, List.all_cons, List.all_map]
    simp only [List.getD_cons_zero, Function.comp_def, List.getD_cons_succ, ih]
    by_cases hx : x = y <;> simp [hx]
  | [], _ :: _, h => by simp at h
  | _ :: _, [], h => by simp at h
section
variable {P : Program}
theorem run_eqItems_ints (w : World) (d : Nat) {e : TypeId} {k : IntKind} (he : P.underlying e = some (.int k)) (xs ys : List Int) : ∀ l : List Nat, (∀ i ∈ l, i < xs.length ∧ i < ys.length) →
    (Op.eqItems (d + 1) e 1 (ints k xs) (ints k ys) l).run P w = .ok (l.all fun i => xs.getD i 0 == ys.getD i 0) w
  | [], _ => by simp [Op.eqItems]
  | i :: l, h => by
    obtain ⟨h1, h2⟩ := h i (by simp)
    have px : (part e (ints k xs) (i * 1)).run P w = .ok (.int k (xs.getD i 0)) w := by
      simp [ints, part, isAgg, run_underlying he, List.getD, List.getElem?_eq_getElem h1]
    have py : (part e (ints k ys) (i * 1)).run P w = .ok (.int k (ys.getD i 0)) w := by
      simp [ints, part, isAgg, run_underlying he, List.getD, List.getElem?_eq_getElem h2]
    have pe : (Op.equalIn (d + 1) e (.int k (xs.getD i 0)) (.int k (ys.getD i 0))).run P w = .ok (xs.getD i 0 == ys.getD i 0) w := run_equalIn_int w d e k k _ _ he
    simp only [Op.eqItems, Sem.run_bind, px, py, pe, Result.andThen_ok, List.all_cons]
    cases hb : (xs.getD i 0 == ys.getD i 0)
    · simp
    · simp only [Bool.not_true, Bool.false_eq_true, if_false, Bool.true_and]
      exact run_eqItems_ints w d he xs ys l fun j hj => h j (List.mem_cons_of_mem _ hj)
theorem flatEq_array {t e : TypeId} {n : Nat} {k : IntKind} {i : TypeInfo} (hu : P.underlying t = some (.array n e)) (hi : P.info? e = some i) (he : P.underlying e = some (.int k)) (hc : P.cellsOf e = 1) (hg : P.eqGuardType P.depth t = false) : FlatEq P t (List.replicate n k) := by
  refine ⟨hg, fun w zs zs' h1 h2 => ?_⟩
  rw [List.length_replicate] at h1 h2
  rw [zip_rep k n zs h1, zip_rep k n zs' h2]
  show (Op.equalIn 10000 t (.agg (ints k zs)) (.agg (ints k zs'))).run P w = _
  rw [run_equalIn_array w 9999 _ _ hu hi, hc, run_eqItems_ints w 9998 he _ _ _ (fun i hi => by rw [List.mem_range] at hi; omega), ← h1, all_range_int _ _ (by omega)]
theorem flatEq_pair {t e : TypeId} {f g : Field} {k : IntKind} (hu : P.underlying t = some (.struct #[f, g])) (hf : f.type = e) (hg : g.type = e) (of : f.offset = 0) (og : g.offset = 1) (nf : f.name ≠ "_") (ng : g.name ≠ "_") (he : P.underlying e = some (.int k)) (hs : P.stoodInHeld t = false) (hq : P.eqGuardType P.depth t = false) : FlatEq P t [k, k] := by
  refine ⟨hq, fun w zs zs' h1 h2 => ?_⟩
  match zs, zs', h1, h2 with
  | [a, b], [c, d], _, _ =>
    show (Op.equalIn 10000 t (.agg (ints k [a, b])) (.agg (ints k [c, d]))).run P w = _
    have hF : P.fieldsOf t = #[f, g] := by unfold Program.fieldsOf; rw [hu]
    rw [run_equalIn_agg w 9999 _ _ _ (by rw [hF]; exact hu) hs, hF]
    have p1 : (part e (ints k [a, b]) 0).run P w = .ok (.int k a) w := by simp [ints, part, isAgg, run_underlying he]
    have p2 : (part e (ints k [a, b]) 1).run P w = .ok (.int k b) w := by simp [ints, part, isAgg, run_underlying he]
    have p3 : (part e (ints k [c, d]) 0).run P w = .ok (.int k c) w := by simp [ints, part, isAgg, run_underlying he]
    have p4 : (part e (ints k [c, d]) 1).run P w = .ok (.int k d) w := by simp [ints, part, isAgg, run_underlying he]
    have q1 : (Op.equalIn 9999 e (.int k a) (.int k c)).run P w = .ok (a == c) w := run_equalIn_int w 9998 e k k _ _ he
    have q2 : (Op.equalIn 9999 e (.int k b) (.int k d)).run P w = .ok (b == d) w := run_equalIn_int w 9998 e k k _ _ he
    simp only [Op.eqFields, hf, hg, of, og, nf, ng, ne_eq, not_false_eq_true, if_true, Sem.run_bind, p1, p3, q1, Result.andThen_ok]
    cases h1 : (a == c)
    · have : a ≠ c := by simpa using h1
      simp [this]
    · have h1 : a = c := by simpa using h1
      simp only [Bool.not_true, Bool.false_eq_true, if_false, Sem.run_bind, p2, p4, q2, Result.andThen_ok]
      cases h2 : (b == d)
      · have : b ≠ d := by simpa using h2
        simp [h1, this]
      · have h2 : b = d := by simpa using h2
        simp [h1, h2]
end
theorem fits_rep (k : IntKind) : ∀ zs : List Int, fits (List.replicate zs.length k) (zs.map fun z => CV.v (.int k z))
  | [] => by rw [List.length_nil, List.replicate_zero, fits]; rfl
  | z :: zs => by rw [List.length_cons, List.replicate_succ, fits]; exact ⟨z, _, rfl, fits_rep k zs⟩
end Go.Proofs.Ythakkopnoeinmaa
namespace Go.Proofs.Ythakkopnoeinmaa
open Go.Proofs
theorem flat77 : FlatEq Try.prog 33 [.i64, .i64] := flatEq_pair Try.underlying33 rfl rfl rfl rfl (by decide) (by decide) Try.underlying3 (by kernel_rfl) (by kernel_rfl)
theorem fits_sec (s : Sec) : fits (List.replicate 8 .u8) (secC s) := by
  have := fits_rep .u8 (s.val.map fun b => (b.toNat : Int))
  rw [List.length_map, s.len, List.map_map] at this
  exact this
theorem fits_ext (x : Ext2) : fits [.i64, .i64] (extC x) := ⟨_, _, rfl, _, _, rfl, rfl⟩
theorem eqExts_cc (H : Hp) (V : List Nat) (t1 t2 : Tk) (l : List Ext2) (hl : l.length ≤ 900000000) : CC Try.prog 15 [.sl t1 2 (l.map extC), .sl t2 2 (l.map extC)] H V (Pu (cb true) H V) := by
  refine CC.of_swp Try.func15 rfl (by kernel_rfl) (by rw [Try.ntmps15]; exact len_le _ _ rfl) fun hok hokH => ?_
  clear hok
  refine SWp.seq (Wp.s ?_)
  simp -implicitDefEqProofs [go_sem, args0]
  refine SWp.seq (Wp.s ?_)
  simp -implicitDefEqProofs [go_sem]
  refine SWp.join (α := Unit) (fun _ => ([], H, V)) (fun _ => True) ?_ ?_
  · refine SWp.seq (Wp.s ?_)
    simp -implicitDefEqProofs [go_sem]
    refine SWp.block ?_
    refine SWp.loop (α := Nat) (fun i => ([(0, .sl t1 2 (l.map extC)), (1, .sl t2 2 (l.map extC)), (12, ci l.length), (13, ci i)], H, V)) (fun i => i ≤ l.length) (fun i => l.length - i) 0 (Nat.zero_le _) (Sh.forget (by simp [go_sem]) rfl rfl) ?_
    intro i hi
    dsimp only
    refine SWp.seq (Wp.s ?_)
    simp -implicitDefEqProofs [go_sem]
    refine SWp.seq (Wp.s ?_)
    simp -implicitDefEqProofs [go_sem]
    refine ⟨fun h => ?_, fun h => Sh.forget (by simp [go_sem]) rfl rfl⟩
    have hw := wrap_succ (show i ≤ 1000000000 by omega)
    refine SWp.seq (SWp.block ?_)
    refine SWp.seq (Wp.s ?_)
    simp -implicitDefEqProofs [go_sem]
    refine SWp.seq (SWp.drawnL [0, 1, 2, 3, 4, 5, 6, 7, 8] (by kernel_rfl) (by kernel_rfl) rfl ?_)
    simp -implicitDefEqProofs [go_sem, h]
    refine ⟨_, flat77, fits_ext _, ?_⟩
    refine Wp.s ?_
    simp -implicitDefEqProofs [go_sem, hw]
    refine Wp.s ?_
    simp -implicitDefEqProofs [go_sem, hw]
    exact ⟨i + 1, by omega, by omega, Sh.forget (by simp [go_sem]) rfl rfl⟩
  · rintro _ -
    dsimp only
    refine Wp.s ?_
    simp -implicitDefEqProofs [go_sem]
    exact Fin.bool rfl hokH (by simp) (by simp)
end Go.Proofs.Ythakkopnoeinmaa
