import Derived.Test.YtffjhibomipemaaR6
set_option linter.unusedSimpArgs false
namespace Go.Proofs.Ytffjhibomipemaa
open Go.Proofs
theorem refInts_cc (H : Hp) (V : List Nat) (tk : Tk) (src : List UInt8) (hl : src.length ≤ 1000000000) : CC Try.prog 37 [.sl tk 1 (bs src)] H V (Pu (rdv (fun l : List Int => .sl .sh 1 (l.map ic)) nilC (listP intP src)) H V) := by
  refine CC.of_swp Try.func37 rfl (by kernel_rfl) (by rw [Try.ntmps37]; exact len_le _ _ rfl) fun hok hokH => ?_
  clear hok
  refine SWp.seq (Wp.s ?_)
  simp -implicitDefEqProofs [go_sem, args0]
  refine SWp.seq (Wp.s ?_)
  simp -implicitDefEqProofs [go_sem]
  refine CC.mono (refLength_cc _ _ _ _ hl) ?_
  rintro _ _ _ ⟨rfl, rfl, rfl⟩
  rcases hn : lengthP src with e | ⟨n, s⟩
  · have he := ne0_length _ _ hn
    have hq : listP intP src = .error e := by unfold listP; rw [hn]
    rw [hq]
    simp -implicitDefEqProofs [go_sem, rdv]
    refine Wp.s ?_
    simp -implicitDefEqProofs [go_sem, he]
    exact Fin.pu (.refl _) (by simp [go_sem]) hokH (by simp) (by simp)
  · have hn5 := length_le hn
    have hls := shr_length _ _ _ hn
    simp -implicitDefEqProofs [go_sem, rdv]
    refine SWp.seq (Wp.s ?_)
    simp -implicitDefEqProofs [go_sem]
    refine SWp.seq (Wp.s ?_)
    simp -implicitDefEqProofs [go_sem]
    refine SWp.join (α := Option Nat × List Int × List UInt8) (fun x => ([(7, outC x.1 V.length 1 (x.2.1.map ic)), (0, .sl .sh 1 (bs x.2.2))], H, outV V x.1)) (fun x => (x.1 = none → x.2.1 = []) ∧ listP intP src = .ok (x.2.1, x.2.2)) ?_ ?_
    · refine SWp.seq (Wp.s ?_)
      simp -implicitDefEqProofs [go_sem]
      refine SWp.block ?_
      refine SWp.loop (α := Nat × Option Nat × List Int × List UInt8) (fun x => ([(0, .sl .sh 1 (bs x.2.2.2)), (5, ci n), (8, ci x.1), (7, outC x.2.1 V.length 1 (x.2.2.1.map ic))], H, outV V x.2.1))
        (fun x => x.1 ≤ n ∧ x.2.2.1.length = x.1 ∧ (x.2.1 = none → x.2.2.1 = []) ∧ listP intP src = ahead x.2.2.1 (repP intP (n - x.1) x.2.2.2) ∧ x.2.2.2.length ≤ 1000000000) (fun x => n - x.1) (0, none, [], s) ⟨Nat.zero_le _, rfl, fun _ => rfl, by unfold listP; rw [hn]; exact (ahead_nil _).symm, by dsimp only; omega⟩
        (Sh.forget (by simp [go_sem]) rfl rfl) ?_
      rintro ⟨i, o, xs, s⟩ ⟨hi, hx, ho, hL, hsl⟩
      dsimp only at hi hx ho hL hsl ⊢
      refine Wp.s ?_
      simp -implicitDefEqProofs [go_sem]
      refine ⟨fun h => ?_, fun h => ?_⟩
      · refine CC.mono (refInt_cc _ _ _ s hsl) ?_
        rintro _ _ _ ⟨rfl, rfl, rfl⟩
        have hnn : n - i = n - (i + 1) + 1 := by omega
        rcases hm : number s with e | ⟨a, s'⟩
        · have he := ne0_number _ _ hm
          have hL' := hL
          rw [hnn, rep_err (show intP s = .error e by unfold intP; rw [hm])] at hL'
          simp -implicitDefEqProofs [go_sem, rdv, he]
          rw [hL']
          exact Fin.pu (.refl _) (by simp [go_sem, rdv]) hokH (by simp) (outV_take _ _)
        · have hq : intP s = .ok ((a : Int), s') := by unfold intP; rw [hm]
          simp -implicitDefEqProofs [go_sem, rdv]
          have hs' := shr_int _ _ _ hq
          have hL' := hL
          rw [hnn, rep_ok hq] at hL'
          have hw := wrap_succ (show i ≤ 1000000000 by omega)
          cases o with
          | none =>
            obtain rfl := ho rfl
            simp -implicitDefEqProofs [go_sem]
            exact ⟨i + 1, some 0, [] ++ [(a : Int)], s', ⟨by omega, by rw [List.length_append, hx]; rfl, by simp, hL', by omega⟩, by omega, Sh.forget (by simp [go_sem, hw]; exact .refl _) rfl rfl⟩
          | some v =>
            simp -implicitDefEqProofs [go_sem]
            exact ⟨by omega, i + 1, some (v + 1), xs ++ [(a : Int)], s', ⟨by omega, by rw [List.length_append, hx]; rfl, by simp, hL', by omega⟩, by omega, Sh.forget (by simp [go_sem, hw]; exact .refl _) rfl rfl⟩
      · exact ⟨o, xs, s, ⟨ho, by rw [hL, show n - i = 0 by omega, repP]; simp [ahead]⟩, Sh.forget (by simp [go_sem]) rfl rfl⟩
    · rintro ⟨o, xs, s⟩ ⟨ho, hL⟩
      dsimp only at ho hL ⊢
      refine Wp.s ?_
      simp -implicitDefEqProofs [go_sem]
      rw [hL]
      exact Fin.pu (.tup (.cons (outC_le _ _ _ _ (by decide) ho) (.cons (.refl _) (.cons (.refl _) .nil)))) (by simp [go_sem, rdv]) hokH (by simp) (outV_take _ _)
theorem refExtents_cc (H : Hp) (V : List Nat) (tk : Tk) (src : List UInt8) (hl : src.length ≤ 1000000000) : CC Try.prog 41 [.sl tk 1 (bs src)] H V (Pu (rdv (fun l : List Ext2 => .sl .sh 2 (l.map extC)) nilC (listP extP src)) H V) := by
  refine CC.of_swp Try.func41 rfl (by kernel_rfl) (by rw [Try.ntmps41]; exact len_le _ _ rfl) fun hok hokH => ?_
  clear hok
  refine SWp.seq (Wp.s ?_)
  simp -implicitDefEqProofs [go_sem, args0]
  refine SWp.seq (Wp.s ?_)
  simp -implicitDefEqProofs [go_sem]
  refine CC.mono (refLength_cc _ _ _ _ hl) ?_
  rintro _ _ _ ⟨rfl, rfl, rfl⟩
  rcases hn : lengthP src with e | ⟨n, s⟩
  · have he := ne0_length _ _ hn
    have hq : listP extP src = .error e := by unfold listP; rw [hn]
    rw [hq]
    simp -implicitDefEqProofs [go_sem, rdv]
    refine Wp.s ?_
    simp -implicitDefEqProofs [go_sem, he]
    exact Fin.pu (.refl _) (by simp [go_sem]) hokH (by simp) (by simp)
  · have hn5 := length_le hn
    have hls := shr_length _ _ _ hn
    simp -implicitDefEqProofs [go_sem, rdv]
    refine SWp.seq (Wp.s ?_)
    simp -implicitDefEqProofs [go_sem]
    refine SWp.seq (Wp.s ?_)
    simp -implicitDefEqProofs [go_sem]
    refine SWp.join (α := Option Nat × List Ext2 × List UInt8) (fun x => ([(7, outC x.1 V.length 2 (x.2.1.map extC)), (0, .sl .sh 1 (bs x.2.2))], H, outV V x.1)) (fun x => (x.1 = none → x.2.1 = []) ∧ listP extP src = .ok (x.2.1, x.2.2)) ?_ ?_
    · refine SWp.seq (Wp.s ?_)
      simp -implicitDefEqProofs [go_sem]
      refine SWp.block ?_
      refine SWp.loop (α := Nat × Option Nat × List Ext2 × List UInt8) (fun x => ([(0, .sl .sh 1 (bs x.2.2.2)), (5, ci n), (8, ci x.1), (7, outC x.2.1 V.length 2 (x.2.2.1.map extC))], H, outV V x.2.1))
        (fun x => x.1 ≤ n ∧ x.2.2.1.length = x.1 ∧ (x.2.1 = none → x.2.2.1 = []) ∧ listP extP src = ahead x.2.2.1 (repP extP (n - x.1) x.2.2.2) ∧ x.2.2.2.length ≤ 1000000000) (fun x => n - x.1) (0, none, [], s) ⟨Nat.zero_le _, rfl, fun _ => rfl, by unfold listP; rw [hn]; exact (ahead_nil _).symm, by dsimp only; omega⟩
        (Sh.forget (by simp [go_sem]) rfl rfl) ?_
      rintro ⟨i, o, xs, s⟩ ⟨hi, hx, ho, hL, hsl⟩
      dsimp only at hi hx ho hL hsl ⊢
      refine Wp.s ?_
      simp -implicitDefEqProofs [go_sem]
      refine ⟨fun h => ?_, fun h => ?_⟩
      · refine CC.mono (refInt_cc _ _ _ s hsl) ?_
        rintro _ _ _ ⟨rfl, rfl, rfl⟩
        have hnn : n - i = n - (i + 1) + 1 := by omega
        rcases hm : number s with e | ⟨a, s1⟩
        · have he := ne0_number _ _ hm
          have hL' := hL
          rw [hnn, rep_err (show extP s = .error e by unfold extP pairP; rw [hm])] at hL'
          simp -implicitDefEqProofs [go_sem, rdv, he]
          rw [hL']
          exact Fin.pu (.refl _) (by simp [go_sem, rdv]) hokH (by simp) (outV_take _ _)
        · have hs1 := shr_number _ _ _ hm
          simp -implicitDefEqProofs [go_sem, rdv]
          refine CC.mono (refInt_cc _ _ _ s1 (by omega)) ?_
          rintro _ _ _ ⟨rfl, rfl, rfl⟩
          rcases hm2 : number s1 with e | ⟨b, s2⟩
          · have he := ne0_number _ _ hm2
            have hL' := hL
            rw [hnn, rep_err (show extP s = .error e by unfold extP pairP; rw [hm]; dsimp only; rw [hm2])] at hL'
            simp -implicitDefEqProofs [go_sem, rdv, he]
            rw [hL']
            exact Fin.pu (.refl _) (by simp [go_sem, rdv]) hokH (by simp) (outV_take _ _)
          · have hs2 := shr_number _ _ _ hm2
            simp -implicitDefEqProofs [go_sem, rdv]
            have hq : extP s = .ok (⟨a, b⟩, s2) := by unfold extP pairP; rw [hm]; dsimp only; rw [hm2]
            have hs' := shr_ext _ _ _ hq
            have hL' := hL
            rw [hnn, rep_ok hq] at hL'
            have hw := wrap_succ (show i ≤ 1000000000 by omega)
            cases o with
            | none =>
              obtain rfl := ho rfl
              simp -implicitDefEqProofs [go_sem]
              exact ⟨i + 1, some 0, [] ++ [⟨a, b⟩], s2, ⟨by omega, by rw [List.length_append, hx]; rfl, by simp, hL', by omega⟩, by omega, Sh.forget (by simp [go_sem, hw]; exact .refl _) rfl rfl⟩
            | some v =>
              simp -implicitDefEqProofs [go_sem]
              exact ⟨by omega, i + 1, some (v + 1), xs ++ [⟨a, b⟩], s2, ⟨by omega, by rw [List.length_append, hx]; rfl, by simp, hL', by omega⟩, by omega, Sh.forget (by simp [go_sem, hw]; exact .refl _) rfl rfl⟩
      · exact ⟨o, xs, s, ⟨ho, by rw [hL, show n - i = 0 by omega, repP]; simp [ahead]⟩, Sh.forget (by simp [go_sem]) rfl rfl⟩
    · rintro ⟨o, xs, s⟩ ⟨ho, hL⟩
      dsimp only at ho hL ⊢
      refine Wp.s ?_
      simp -implicitDefEqProofs [go_sem]
      rw [hL]
      exact Fin.pu (.tup (.cons (outC_le _ _ _ _ (by decide) ho) (.cons (.refl _) (.cons (.refl _) .nil)))) (by simp [go_sem, rdv]) hokH (by simp) (outV_take _ _)
def cell8 (b : UInt8) : CV := .v (.int .u8 (b.toNat : Int))
theorem take_tok (V : List Nat) (v w : Nat) : (V ++ [v, w]).take (V.length + 1) = V ++ [v] := by
  rw [List.take_append, List.take_of_length_le (by omega), show V.length + 1 - V.length = 1 by omega]; rfl
theorem fill_step {cs : List CV} {s : List UInt8} {j : Nat} (hj : j < s.length) (hc : j < cs.length) (ht : cs.take j = (s.take j).map cell8) : (cs.take j ++ cell8 s[j] :: cs.drop (j + 1)).take (j + 1) = (s.take (j + 1)).map cell8 := by
  have h : (cs.take j).length = j := by rw [List.length_take]; omega
  rw [List.take_append, List.take_of_length_le (by omega), h, show j + 1 - j = 1 by omega, List.take_succ_cons, List.take_zero, ht, List.take_succ_eq_append_getElem hj, List.map_append]; rfl
theorem okL_cells (i j : Nat) (l : List UInt8) : okL i j (l.map cell8) := by
  rw [okL_iff]; intro c hc
  obtain ⟨b, _, rfl⟩ := List.mem_map.1 hc
  trivial
theorem allOne_cells (l : List UInt8) : allOne (l.map cell8) = true := by
  simp only [allOne, List.all_map, List.all_eq_true]; intros; rfl
theorem refSectors_cc (H : Hp) (V : List Nat) (tk : Tk) (src : List UInt8) (hl : src.length ≤ 1000000000) : CC Try.prog 39 [.sl tk 1 (bs src)] H V (Pu (rdv (fun l : List Sec => .sl .sh 8 (l.map secC)) nilC (listP secP src)) H V) := by
  refine CC.of_swp Try.func39 rfl (by kernel_rfl) (by rw [Try.ntmps39]; exact len_le _ _ rfl) fun hok hokH => ?_
  clear hok
  refine SWp.seq (Wp.s ?_)
  simp -implicitDefEqProofs [go_sem, args0]
  refine SWp.seq (Wp.s ?_)
  simp -implicitDefEqProofs [go_sem]
  refine CC.mono (refLength_cc _ _ _ _ hl) ?_
  rintro _ _ _ ⟨rfl, rfl, rfl⟩
  rcases hn : lengthP src with e | ⟨n, s⟩
  · have he := ne0_length _ _ hn
    have hq : listP secP src = .error e := by unfold listP; rw [hn]
    rw [hq]
    simp -implicitDefEqProofs [go_sem, rdv]
    refine Wp.s ?_
    simp -implicitDefEqProofs [go_sem, he]
    exact Fin.pu (.refl _) (by simp [go_sem]) hokH (by simp) (by simp)
  · have hn5 := length_le hn
    have hls := shr_length _ _ _ hn
    simp -implicitDefEqProofs [go_sem, rdv]
    refine SWp.seq (Wp.s ?_)
    simp -implicitDefEqProofs [go_sem]
    refine SWp.seq (Wp.s ?_)
    simp -implicitDefEqProofs [go_sem]
    refine SWp.join (α := Option Nat × List Sec × List UInt8) (fun x => ([(7, outC x.1 V.length 8 (x.2.1.map secC)), (0, .sl .sh 1 (bs x.2.2))], H, outV V x.1)) (fun x => (x.1 = none → x.2.1 = []) ∧ listP secP src = .ok (x.2.1, x.2.2)) ?_ ?_
    · refine SWp.seq (Wp.s ?_)
      simp -implicitDefEqProofs [go_sem]
      refine SWp.block ?_
      refine SWp.loop (α := Nat × Option Nat × List Sec × List UInt8) (fun x => ([(0, .sl .sh 1 (bs x.2.2.2)), (5, ci n), (8, ci x.1), (7, outC x.2.1 V.length 8 (x.2.2.1.map secC))], H, outV V x.2.1))
        (fun x => x.1 ≤ n ∧ x.2.2.1.length = x.1 ∧ (x.2.1 = none → x.2.2.1 = []) ∧ listP secP src = ahead x.2.2.1 (repP secP (n - x.1) x.2.2.2) ∧ x.2.2.2.length ≤ 1000000000) (fun x => n - x.1) (0, none, [], s) ⟨Nat.zero_le _, rfl, fun _ => rfl, by unfold listP; rw [hn]; exact (ahead_nil _).symm, by dsimp only; omega⟩
        (Sh.forget (by simp [go_sem]) rfl rfl) ?_
      rintro ⟨i, o, xs, s⟩ ⟨hi, hx, ho, hL, hsl⟩
      dsimp only at hi hx ho hL hsl ⊢
      refine SWp.seq (Wp.s ?_)
      simp -implicitDefEqProofs [go_sem]
      refine And.symm ⟨?_, fun h => ?_⟩
      · intro h
        exact ⟨o, xs, s, ⟨ho, by rw [hL, show n - i = 0 by omega, repP]; simp [ahead]⟩, Sh.forget (by simp [go_sem]) rfl rfl⟩
      have hnn : n - i = n - (i + 1) + 1 := by omega
      refine SWp.seq (SWp.block ?_)
      refine SWp.seq (Wp.s ?_)
      by_cases h8 : s.length < 8
      · have hq : secP s = .error 10 := by unfold secP; rw [dif_pos h8]
        have hL' := hL
        rw [hnn, rep_err hq] at hL'
        simp -implicitDefEqProofs [go_sem, show (s.length : Int) < 8 by omega]
        rw [hL']
        exact Fin.pu (.refl _) (by simp [go_sem, rdv]) hokH (by simp) (outV_take _ _)
      · obtain ⟨s0, e0, hq⟩ : ∃ s0 : Sec, s0.val = s.take 8 ∧ secP s = .ok (s0, s.drop 8) := ⟨⟨s.take 8, by rw [List.length_take]; omega⟩, rfl, by unfold secP; rw [dif_neg h8]⟩
        simp -implicitDefEqProofs [go_sem, show ¬ (s.length : Int) < 8 by omega]
        refine SWp.seq (Wp.s ?_)
        simp -implicitDefEqProofs [go_sem]
        refine SWp.join (α := Unit) (fun _ => ([(9, .ptr H.length 0), (0, .sl .sh 1 (bs s)), (5, ci n), (8, ci i), (7, outC o V.length 8 (xs.map secC))], H ++ [some (secC s0)], outV V o)) (fun _ => True) ?_ ?_
        · refine SWp.seq (Wp.s ?_)
          simp -implicitDefEqProofs [go_sem]
          refine SWp.block ?_
          refine SWp.loop (α := Nat × List CV) (fun x => ([(10, ci x.1), (9, .ptr H.length 0), (0, .sl .sh 1 (bs s)), (5, ci n), (8, ci i), (7, outC o V.length 8 (xs.map secC))], H ++ [some x.2], outV V o))
            (fun x => x.1 ≤ 8 ∧ x.2.length = 8 ∧ x.2.take x.1 = (s.take x.1).map cell8) (fun x => 8 - x.1) (0, List.replicate 8 (cell8 0)) ⟨by decide, rfl, rfl⟩ (Sh.forget (by simp [go_sem]) rfl rfl) ?_
          rintro ⟨j, cs⟩ ⟨hj, hc, ht⟩
          dsimp only at hj hc ht ⊢
          refine Wp.s ?_
          simp -implicitDefEqProofs [go_sem]
          refine ⟨fun h1 => ?_, fun h2 => ?_⟩
          · have hjs : j < s.length := by omega
            exact ⟨h1, by omega, hjs, j + 1, cs.take j ++ cell8 s[j] :: cs.drop (j + 1), ⟨by omega, by rw [List.length_append, List.length_cons, List.length_take, List.length_drop]; omega, (fill_step hjs (by omega) ht).trans List.map_take⟩, by omega, Sh.forget (by simp [go_sem, wrap_succ (show j ≤ 1000000000 by omega)]) rfl rfl⟩
          · have e1 : cs = secC s0 := by
              have e2 : j = 8 := by omega
              rw [e2, List.take_of_length_le (by omega), ← e0] at ht
              rw [ht]; rfl
            rw [e1]
            exact Sh.forget (by simp [go_sem]) rfl rfl
        · rintro _ -
          dsimp only
          refine Wp.s ?_
          have hs' := shr_sec _ _ _ hq
          have hL' := hL
          rw [hnn, rep_ok hq] at hL'
          have hw := wrap_succ (show i ≤ 1000000000 by omega)
          cases o with
          | none =>
            obtain rfl := ho rfl
            simp -implicitDefEqProofs [go_sem]
            refine CC.mono (rest_cc _ _ _ s 8 (by omega) hsl) ?_
            rintro _ _ _ ⟨v', rfl, rfl, rfl⟩
            simp -implicitDefEqProofs [go_sem]
            refine Wp.s ?_
            simp -implicitDefEqProofs [go_sem]
            exact ⟨i + 1, some 0, [] ++ [s0], s.drop 8, ⟨by omega, by rw [List.length_append, hx]; rfl, by simp, hL', by omega⟩, by omega, Sh.cut H.length (V.length + 1) (by simp [go_sem, hw]) (Nat.le_refl _) (Nat.le_succ _) (by simp [go_sem]) (fun b cs h => okL_mono (Nat.le_refl _) (Nat.le_succ _) (hokH b cs h)) (by simp) (take_tok ..)⟩
          | some v =>
            simp -implicitDefEqProofs [go_sem]
            refine ⟨by omega, ?_⟩
            refine CC.mono (rest_cc _ _ _ s 8 (by omega) hsl) ?_
            rintro _ _ _ ⟨v', rfl, rfl, rfl⟩
            simp -implicitDefEqProofs [go_sem]
            refine Wp.s ?_
            simp -implicitDefEqProofs [go_sem]
            exact ⟨i + 1, some (v + 1), xs ++ [s0], s.drop 8, ⟨by omega, by rw [List.length_append, hx]; rfl, by simp, hL', by omega⟩, by omega, Sh.cut H.length (V.length + 1) (by simp [go_sem, hw]) (Nat.le_refl _) (Nat.le_succ _) (by simp [go_sem, okE_app]) (fun b cs h => okL_mono (Nat.le_refl _) (Nat.le_succ _) (hokH b cs h)) (by simp) (take_tok ..)⟩
    · rintro ⟨o, xs, s⟩ ⟨ho, hL⟩
      dsimp only at ho hL ⊢
      refine Wp.s ?_
      simp -implicitDefEqProofs [go_sem]
      rw [hL]
      exact Fin.pu (.tup (.cons (outC_le _ _ _ _ (by decide) ho) (.cons (.refl _) (.cons (.refl _) .nil)))) (by simp [go_sem, rdv]) hokH (by simp) (outV_take _ _)
theorem refWrites_cc (H : Hp) (V : List Nat) (tk : Tk) (src : List UInt8) (hl : src.length ≤ 1000000000) : CC Try.prog 43 [.sl tk 1 (bs src)] H V (Pu (rdv (fun l : List Wr => .sl .sh 3 (l.map wrC)) nilC (listP wrP src)) H V) := by
  refine CC.of_swp Try.func43 rfl (by kernel_rfl) (by rw [Try.ntmps43]; exact len_le _ _ rfl) fun hok hokH => ?_
  clear hok
  refine SWp.seq (Wp.s ?_)
  simp -implicitDefEqProofs [go_sem, args0]
  refine SWp.seq (Wp.s ?_)
  simp -implicitDefEqProofs [go_sem]
  refine CC.mono (refLength_cc _ _ _ _ hl) ?_
  rintro _ _ _ ⟨rfl, rfl, rfl⟩
  rcases hn : lengthP src with e | ⟨n, s⟩
  · have he := ne0_length _ _ hn
    have hq : listP wrP src = .error e := by unfold listP; rw [hn]
    rw [hq]
    simp -implicitDefEqProofs [go_sem, rdv]
    refine Wp.s ?_
    simp -implicitDefEqProofs [go_sem, he]
    exact Fin.pu (.refl _) (by simp [go_sem]) hokH (by simp) (by simp)
  · have hn5 := length_le hn
    have hls := shr_length _ _ _ hn
    simp -implicitDefEqProofs [go_sem, rdv]
    refine SWp.seq (Wp.s ?_)
    simp -implicitDefEqProofs [go_sem]
    refine SWp.seq (Wp.s ?_)
    simp -implicitDefEqProofs [go_sem]
    refine SWp.join (α := Option Nat × List Wr × List UInt8) (fun x => ([(7, outC x.1 V.length 3 (x.2.1.map wrC)), (0, .sl .sh 1 (bs x.2.2))], H, outV V x.1)) (fun x => (x.1 = none → x.2.1 = []) ∧ listP wrP src = .ok (x.2.1, x.2.2)) ?_ ?_
    · refine SWp.seq (Wp.s ?_)
      simp -implicitDefEqProofs [go_sem]
      refine SWp.block ?_
      refine SWp.loop (α := Nat × Option Nat × List Wr × List UInt8) (fun x => ([(0, .sl .sh 1 (bs x.2.2.2)), (5, ci n), (8, ci x.1), (7, outC x.2.1 V.length 3 (x.2.2.1.map wrC))], H, outV V x.2.1))
        (fun x => x.1 ≤ n ∧ x.2.2.1.length = x.1 ∧ (x.2.1 = none → x.2.2.1 = []) ∧ listP wrP src = ahead x.2.2.1 (repP wrP (n - x.1) x.2.2.2) ∧ x.2.2.2.length ≤ 1000000000) (fun x => n - x.1) (0, none, [], s) ⟨Nat.zero_le _, rfl, fun _ => rfl, by unfold listP; rw [hn]; exact (ahead_nil _).symm, by dsimp only; omega⟩
        (Sh.forget (by simp [go_sem]) rfl rfl) ?_
      rintro ⟨i, o, xs, s⟩ ⟨hi, hx, ho, hL, hsl⟩
      dsimp only at hi hx ho hL hsl ⊢
      refine Wp.s ?_
      simp -implicitDefEqProofs [go_sem]
      refine ⟨fun h => ?_, fun h => ?_⟩
      · refine CC.mono (refInt_cc _ _ _ s hsl) ?_
        rintro _ _ _ ⟨rfl, rfl, rfl⟩
        have hnn : n - i = n - (i + 1) + 1 := by omega
        rcases hm : number s with e | ⟨a, s1⟩
        · have he := ne0_number _ _ hm
          have hL' := hL
          rw [hnn, rep_err (show wrP s = .error e by unfold wrP pairP; rw [hm])] at hL'
          simp -implicitDefEqProofs [go_sem, rdv, he]
          rw [hL']
          exact Fin.pu (.refl _) (by simp [go_sem, rdv]) hokH (by simp) (outV_take _ _)
        · have hs1 := shr_number _ _ _ hm
          simp -implicitDefEqProofs [go_sem, rdv]
          refine CC.mono (refInt_cc _ _ _ s1 (by omega)) ?_
          rintro _ _ _ ⟨rfl, rfl, rfl⟩
          rcases hm2 : number s1 with e | ⟨b, s2⟩
          · have he := ne0_number _ _ hm2
            have hL' := hL
            rw [hnn, rep_err (show wrP s = .error e by unfold wrP pairP; rw [hm]; dsimp only; rw [hm2])] at hL'
            simp -implicitDefEqProofs [go_sem, rdv, he]
            rw [hL']
            exact Fin.pu (.refl _) (by simp [go_sem, rdv]) hokH (by simp) (outV_take _ _)
          · have hs2 := shr_number _ _ _ hm2
            simp -implicitDefEqProofs [go_sem, rdv]
            refine CC.mono (refSectors_cc _ _ _ s2 (by omega)) ?_
            rintro _ _ _ ⟨rfl, rfl, rfl⟩
            rcases hm3 : listP secP s2 with e | ⟨l, s3⟩
            · have he := ne0_list ne0_sec _ _ hm3
              have hL' := hL
              rw [hnn, rep_err (show wrP s = .error e by unfold wrP pairP; rw [hm]; dsimp only; rw [hm2]; dsimp only; rw [hm3])] at hL'
              simp -implicitDefEqProofs [go_sem, rdv, he]
              rw [hL']
              exact Fin.pu (.refl _) (by simp [go_sem, rdv]) hokH (by simp) (outV_take _ _)
            · have hs3 := shr_list shr_sec _ _ _ hm3
              simp -implicitDefEqProofs [go_sem, rdv]
              have hq : wrP s = .ok (⟨a, b, l⟩, s3) := by unfold wrP pairP; rw [hm]; dsimp only; rw [hm2]; dsimp only; rw [hm3]
              have hs' := shr_wr _ _ _ hq
              have hL' := hL
              rw [hnn, rep_ok hq] at hL'
              have hw := wrap_succ (show i ≤ 1000000000 by omega)
              cases o with
              | none =>
                obtain rfl := ho rfl
                simp -implicitDefEqProofs [go_sem]
                exact ⟨i + 1, some 0, [] ++ [⟨a, b, l⟩], s3, ⟨by omega, by rw [List.length_append, hx]; rfl, by simp, hL', by omega⟩, by omega, Sh.forget (by simp [go_sem, hw]; exact .refl _) rfl rfl⟩
              | some v =>
                simp -implicitDefEqProofs [go_sem]
                exact ⟨by omega, i + 1, some (v + 1), xs ++ [⟨a, b, l⟩], s3, ⟨by omega, by rw [List.length_append, hx]; rfl, by simp, hL', by omega⟩, by omega, Sh.forget (by simp [go_sem, hw]; exact .refl _) rfl rfl⟩
      · exact ⟨o, xs, s, ⟨ho, by rw [hL, show n - i = 0 by omega, repP]; simp [ahead]⟩, Sh.forget (by simp [go_sem]) rfl rfl⟩
    · rintro ⟨o, xs, s⟩ ⟨ho, hL⟩
      dsimp only at ho hL ⊢
      refine Wp.s ?_
      simp -implicitDefEqProofs [go_sem]
      rw [hL]
      exact Fin.pu (.tup (.cons (outC_le _ _ _ _ (by decide) ho) (.cons (.refl _) (.cons (.refl _) .nil)))) (by simp [go_sem, rdv]) hokH (by simp) (outV_take _ _)
end Go.Proofs.Ytffjhibomipemaa
