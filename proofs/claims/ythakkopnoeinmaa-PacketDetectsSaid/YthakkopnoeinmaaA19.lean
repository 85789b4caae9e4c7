import Derived.Test.YthakkopnoeinmaaA18
set_option linter.unusedSimpArgs false
set_option linter.unusedVariables false
namespace Go.Proofs.Ythakkopnoeinmaa
open Go.Proofs
def opv : Except Nat (List UInt8) → CV
  | .ok s => .tup [.sl .sh 1 (bs s), er 0]
  | .error k => .tup [.v (.slice none 0 0), er k]
theorem Opened_cc (H : Hp) (V : List Nat) (tk : Tk) (b : List UInt8) (hl : b.length ≤ 800000000) : CC Try.prog 53 [.sl tk 1 (bs b)] H V (Pu (opv (openP b)) H V) := by
  refine CC.of_swp Try.func53 rfl (by kernel_rfl) (by rw [Try.ntmps53]; exact len_le _ _ rfl) fun hok hokH => ?_
  clear hok
  have hw4 : IntKind.i64.wrap ((b.length : Int) - 4) = (b.length : Int) - 4 := IntWalk.i64_in _ ⟨by omega, by omega⟩
  refine SWp.seq (Wp.s ?_)
  simp -implicitDefEqProofs [go_sem, args0]
  refine SWp.seq (Wp.s ?_)
  by_cases b1 : 65536 < b.length
  · simp -implicitDefEqProofs [go_sem, show (65536 : Int) < b.length by omega]
    rw [show openP b = .error 5 by simp [openP, b1]]
    exact Fin.pu (.refl _) (by simp [opv, go_sem]) hokH (by simp) (by simp)
  simp -implicitDefEqProofs [go_sem, show ¬ (65536 : Int) < b.length by omega]
  refine SWp.seq (Wp.s ?_)
  by_cases b2 : b.length < 4
  · simp -implicitDefEqProofs [go_sem, show (b.length : Int) < 4 by omega]
    rw [show openP b = .error 10 by simp [openP, b1, b2]]
    exact Fin.pu (.refl _) (by simp [opv, go_sem]) hokH (by simp) (by simp)
  simp -implicitDefEqProofs [go_sem, show ¬ (b.length : Int) < 4 by omega]
  have hn : ((b.length : Int) - 4).toNat = b.length - 4 := by omega
  refine SWp.seq (Wp.s ?_)
  simp -implicitDefEqProofs [go_sem, hw4]
  refine SWp.seq (Wp.s ?_)
  simp -implicitDefEqProofs [go_sem, show (0 : Int) ≤ (b.length : Int) - 4 by omega, show (b.length : Int) - 4 ≤ b.length by omega, hn, show (4 : Int) ≤ b.length by omega]
  refine CC.mono (Sealed_cc _ _ _ _ (by rw [List.length_take]; omega)) ?_
  rintro _ _ _ ⟨v, rfl, rfl, rfl⟩
  simp -implicitDefEqProofs [go_sem]
  refine CC.mono (sameBytes_cc _ _ _ _ _ _ (by simp only [sealed, List.length_append, List.length_take, crc4_len]; omega) (by omega)) ?_
  rintro _ _ _ ⟨rfl, rfl, rfl⟩
  by_cases b3 : sealed (b.take (b.length - 4)) = b
  case neg =>
    simp -implicitDefEqProofs [go_sem, b3]
    rw [show openP b = .error 9 by simp [openP, b1, b2, b3]]
    exact Fin.pu (.refl _) (by simp [opv, go_sem]) hokH (by simp) (by simp)
  simp -implicitDefEqProofs [go_sem, b3]
  refine Wp.s ?_
  simp -implicitDefEqProofs [go_sem, show (0 : Int) ≤ (b.length : Int) - 4 by omega, show (b.length : Int) - 4 ≤ b.length by omega, hn, show (4 : Int) ≤ b.length by omega]
  rw [show openP b = .ok (b.take (b.length - 4)) by simp [openP, b1, b2, b3]]
  exact Fin.pu (.refl _) (by simp [opv, go_sem]) hokH (by simp) (by simp)
theorem numbers_cc (H : Hp) (V : List Nat) (tk : Tk) (src : List UInt8) (n : Nat) (hn5 : n ≤ 1000) (hl : src.length ≤ 1000000000) : CC Try.prog 54 [.sl tk 1 (bs src), ci n] H V (Pu (rdv (fun l : List Int => .sl .sh 1 (l.map ic)) nilC (repP intP n src)) H V) := by
  refine CC.of_swp Try.func54 rfl (by kernel_rfl) (by rw [Try.ntmps54]; exact len_le _ _ rfl) fun hok hokH => ?_
  clear hok
  refine SWp.seq (Wp.s ?_)
  simp -implicitDefEqProofs [go_sem, args0]
  refine SWp.seq (Wp.s ?_)
  simp -implicitDefEqProofs [go_sem]
  refine SWp.join (α := Option Nat × List Int × List UInt8) (fun x => ([(7, outC x.1 V.length 1 (x.2.1.map ic)), (0, .sl .sh 1 (bs x.2.2))], H, outV V x.1)) (fun x => (x.1 = none → x.2.1 = []) ∧ repP intP n src = .ok (x.2.1, x.2.2)) ?_ ?_
  · refine SWp.seq (Wp.s ?_)
    simp -implicitDefEqProofs [go_sem]
    refine SWp.block ?_
    refine SWp.loop (α := Nat × Option Nat × List Int × List UInt8) (fun x => ([(0, .sl .sh 1 (bs x.2.2.2)), (1, ci n), (8, ci x.1), (7, outC x.2.1 V.length 1 (x.2.2.1.map ic))], H, outV V x.2.1))
      (fun x => x.1 ≤ n ∧ x.2.2.1.length = x.1 ∧ (x.2.1 = none → x.2.2.1 = []) ∧ repP intP n src = ahead x.2.2.1 (repP intP (n - x.1) x.2.2.2) ∧ x.2.2.2.length ≤ 1000000000) (fun x => n - x.1) (0, none, [], src) ⟨Nat.zero_le _, rfl, fun _ => rfl, (ahead_nil _).symm, by dsimp only; omega⟩
      (Sh.forget (by simp [go_sem]) rfl rfl) ?_
    rintro ⟨i, o, xs, s⟩ ⟨hi, hx, ho, hL, hsl⟩
    dsimp only at hi hx ho hL hsl ⊢
    refine Wp.s ?_
    simp -implicitDefEqProofs [go_sem]
    refine ⟨fun h => ?_, fun h => ?_⟩
    · refine CC.mono (refInt_cc _ _ _ s hsl) ?_
      rintro _ _ _ ⟨rfl, rfl, rfl⟩
      have hnn : n - i = n - (i + 1) + 1 := by omega
      rcases hm : number s with e | ⟨a, s'⟩
      · have he := ne0_number _ _ hm
        have hL' := hL
        rw [hnn, rep_err (show intP s = .error e by unfold intP; rw [hm])] at hL'
        simp -implicitDefEqProofs [go_sem, rdv, he]
        rw [hL']
        exact Fin.pu (.refl _) (by simp [go_sem, rdv]) hokH (by simp) (outV_take _ _)
      · have hq : intP s = .ok ((a : Int), s') := by unfold intP; rw [hm]
        simp -implicitDefEqProofs [go_sem, rdv]
        have hs' := shr_int _ _ _ hq
        have hL' := hL
        rw [hnn, rep_ok hq] at hL'
        have hw := wrap_succ (show i ≤ 1000000000 by omega)
        cases o with
        | none =>
          obtain rfl := ho rfl
          simp -implicitDefEqProofs [go_sem]
          exact ⟨i + 1, some 0, [] ++ [(a : Int)], s', ⟨by omega, by rw [List.length_append, hx]; rfl, by simp, hL', by omega⟩, by omega, Sh.forget (by simp [go_sem, hw]; exact .refl _) rfl rfl⟩
        | some v =>
          simp -implicitDefEqProofs [go_sem]
          exact ⟨by omega, i + 1, some (v + 1), xs ++ [(a : Int)], s', ⟨by omega, by rw [List.length_append, hx]; rfl, by simp, hL', by omega⟩, by omega, Sh.forget (by simp [go_sem, hw]; exact .refl _) rfl rfl⟩
    · exact ⟨o, xs, s, ⟨ho, by rw [hL, show n - i = 0 by omega, repP]; simp [ahead]⟩, Sh.forget (by simp [go_sem]) rfl rfl⟩
  · rintro ⟨o, xs, s⟩ ⟨ho, hL⟩
    dsimp only at ho hL ⊢
    refine Wp.s ?_
    simp -implicitDefEqProofs [go_sem]
    rw [hL]
    exact Fin.pu (.tup (.cons (outC_le _ _ _ _ (by decide) ho) (.cons (.refl _) (.cons (.refl _) .nil)))) (by simp [go_sem, rdv]) hokH (by simp) (outV_take _ _)
theorem numsPk (s : List UInt8) : (∃ k, repP intP 5 s = .error k ∧ pPk s = .error k) ∨ (∃ x0 x1 x2 x3 x4 : Nat, ∃ r, repP intP 5 s = .ok ([(x0 : Int), (x1 : Int), (x2 : Int), (x3 : Int), (x4 : Int)], r) ∧ pPk s =
    match listP extP r with
    | .error k => .error k
    | .ok (y, s1) =>
      match textP s1 with
      | .error k => .error k
      | .ok (z, s2) => .ok (⟨x0, x1, x2, x3, x4, y, z⟩, s2)) := by
  unfold pPk
  rcases h0 : number s with k | ⟨x0, s1⟩
  · exact .inl ⟨k, by simp [repP, intP, h0], rfl⟩
  dsimp only
  rcases h1 : number s1 with k | ⟨x1, s2⟩
  · exact .inl ⟨k, by simp [repP, intP, h0, h1], rfl⟩
  dsimp only
  rcases h2 : number s2 with k | ⟨x2, s3⟩
  · exact .inl ⟨k, by simp [repP, intP, h0, h1, h2], rfl⟩
  dsimp only
  rcases h3 : number s3 with k | ⟨x3, s4⟩
  · exact .inl ⟨k, by simp [repP, intP, h0, h1, h2, h3], rfl⟩
  dsimp only
  rcases h4 : number s4 with k | ⟨x4, s5⟩
  · exact .inl ⟨k, by simp [repP, intP, h0, h1, h2, h3, h4], rfl⟩
  dsimp only
  exact .inr ⟨x0, x1, x2, x3, x4, s5, by simp [repP, intP, h0, h1, h2, h3, h4], rfl⟩
theorem numsMs (s : List UInt8) : (∃ k, repP intP 6 s = .error k ∧ pMs s = .error k) ∨ (∃ x0 x1 x2 x3 x4 x5 : Nat, ∃ r, repP intP 6 s = .ok ([(x0 : Int), (x1 : Int), (x2 : Int), (x3 : Int), (x4 : Int), (x5 : Int)], r) ∧ pMs s =
    match listP intP r with
    | .error k => .error k
    | .ok (y, s1) =>
      match textP s1 with
      | .error k => .error k
      | .ok (z, s2) => .ok (⟨x0, x1, x2, x3, x4, x5, y, z⟩, s2)) := by
  unfold pMs
  rcases h0 : number s with k | ⟨x0, s1⟩
  · exact .inl ⟨k, by simp [repP, intP, h0], rfl⟩
  dsimp only
  rcases h1 : number s1 with k | ⟨x1, s2⟩
  · exact .inl ⟨k, by simp [repP, intP, h0, h1], rfl⟩
  dsimp only
  rcases h2 : number s2 with k | ⟨x2, s3⟩
  · exact .inl ⟨k, by simp [repP, intP, h0, h1, h2], rfl⟩
  dsimp only
  rcases h3 : number s3 with k | ⟨x3, s4⟩
  · exact .inl ⟨k, by simp [repP, intP, h0, h1, h2, h3], rfl⟩
  dsimp only
  rcases h4 : number s4 with k | ⟨x4, s5⟩
  · exact .inl ⟨k, by simp [repP, intP, h0, h1, h2, h3, h4], rfl⟩
  dsimp only
  rcases h5 : number s5 with k | ⟨x5, s6⟩
  · exact .inl ⟨k, by simp [repP, intP, h0, h1, h2, h3, h4, h5], rfl⟩
  dsimp only
  exact .inr ⟨x0, x1, x2, x3, x4, x5, s6, by simp [repP, intP, h0, h1, h2, h3, h4, h5], rfl⟩
theorem openP_ne0 {b : List UInt8} {k : Nat} (h : openP b = .error k) : k ≠ 0 := by
  unfold openP at h
  split at h
  · cases h; decide
  · split at h
    · cases h; decide
    · split at h
      · cases h
      · cases h; decide
theorem on_rep {n : Nat} {s r : List UInt8} {l : List Int} (h : repP intP n s = .ok (l, r)) : r.length ≤ s.length := by
  rw [(rep_on int_on _ _ _ _ h).1, List.length_append]; omega
end Go.Proofs.Ythakkopnoeinmaa
namespace Go.Proofs.Ythakkopnoeinmaa
open Go.Proofs
set_option maxRecDepth 10000 in
theorem refDecPk_cc (H : Hp) (V : List Nat) (tk : Tk) (b : List UInt8) (hl : b.length ≤ 800000000) : CC Try.prog 23 [.sl tk 1 (bs b)] H V (Pu (dvPk (decPk b)) H V) := by
  refine CC.of_swp Try.func23 rfl (by kernel_rfl) (by rw [Try.ntmps23]; exact len_le _ _ rfl) fun hok hokH => ?_
  clear hok
  refine SWp.seq (Wp.s ?_)
  simp -implicitDefEqProofs [go_sem, args0]
  refine SWp.seq (Wp.s ?_)
  simp -implicitDefEqProofs [go_sem]
  refine CC.mono (Opened_cc _ _ _ _ hl) ?_
  rintro _ _ _ ⟨rfl, rfl, rfl⟩
  rcases h1 : openP b with k | s
  · have he := openP_ne0 h1
    have hd : decPk b = .error k := by rw [decPk, h1]
    simp -implicitDefEqProofs [go_sem, opv]
    try simp -implicitDefEqProofs [go_sem, rdv, he]
    refine Wp.s ?_
    simp -implicitDefEqProofs [go_sem, he]
    rw [hd]
    exact Fin.pure ⟨rfl, rfl, rfl⟩ (by simp) (by simp) (.refl _) (by simp [dvPk, pkZ, go_sem]) hokH
  have hsl := openP_le h1
  simp -implicitDefEqProofs [go_sem, opv]
  refine SWp.seq (Wp.s ?_)
  simp -implicitDefEqProofs [go_sem]
  refine SWp.seq (Wp.s ?_)
  simp -implicitDefEqProofs [go_sem]
  refine CC.mono (numbers_cc _ _ _ _ 5 (by omega) (by omega)) ?_
  rintro _ _ _ ⟨rfl, rfl, rfl⟩
  rcases numsPk s with ⟨k, h2, h3⟩ | ⟨x0, x1, x2, x3, x4, r, h2, h3⟩
  · have he := ne0_rep ne0_int _ _ _ h2
    have hd : decPk b = .error k := by rw [decPk, h1]; dsimp only; rw [h3]
    rw [h2]
    try simp -implicitDefEqProofs [go_sem, rdv, he]
    refine Wp.s ?_
    simp -implicitDefEqProofs [go_sem, he]
    rw [hd]
    exact Fin.pure ⟨rfl, rfl, rfl⟩ (by simp) (by simp) (.refl _) (by simp [dvPk, pkZ, go_sem]) hokH
  have hrl := on_rep h2
  rw [h2]
  simp -implicitDefEqProofs [go_sem, rdv]
  refine SWp.seq (Wp.s ?_)
  simp -implicitDefEqProofs [go_sem]
  refine SWp.seq (Wp.s ?_)
  simp -implicitDefEqProofs [go_sem]
  refine CC.mono (refExtents_cc _ _ _ _ (by omega)) ?_
  rintro _ _ _ ⟨rfl, rfl, rfl⟩
  rcases h4 : listP extP r with k | ⟨y, s1⟩
  · have he := (ne0_list ne0_ext) _ _ h4
    rw [h4] at h3
    have hd : decPk b = .error k := by rw [decPk, h1]; dsimp only; rw [h3]
    try simp -implicitDefEqProofs [go_sem, rdv, he]
    refine Wp.s ?_
    simp -implicitDefEqProofs [go_sem, he]
    rw [hd]
    exact Fin.pure ⟨rfl, rfl, rfl⟩ (by simp) (by simp) (.refl _) (by simp [dvPk, pkZ, go_sem]) hokH
  rw [h4] at h3
  dsimp only at h3
  have hyl := listP_le ext_on h4
  have hs1 := on_len (list_on ext_on) h4
  simp -implicitDefEqProofs [go_sem, rdv]
  refine SWp.seq (Wp.s ?_)
  simp -implicitDefEqProofs [go_sem]
  refine SWp.seq (Wp.s ?_)
  simp -implicitDefEqProofs [go_sem]
  refine CC.mono (refBytes_cc _ _ _ _ (by omega)) ?_
  rintro _ _ _ ⟨rfl, rfl, rfl⟩
  rcases h5 : textP s1 with k | ⟨z, s2⟩
  · have he := ne0_text _ _ h5
    rw [h5] at h3
    have hd : decPk b = .error k := by rw [decPk, h1]; dsimp only; rw [h3]
    try simp -implicitDefEqProofs [go_sem, rdv, he]
    refine Wp.s ?_
    simp -implicitDefEqProofs [go_sem, he]
    rw [hd]
    exact Fin.pure ⟨rfl, rfl, rfl⟩ (by simp) (by simp) (.refl _) (by simp [dvPk, pkZ, go_sem]) hokH
  rw [h5] at h3
  dsimp only at h3
  simp -implicitDefEqProofs [go_sem, rdv]
  refine SWp.seq (Wp.s ?_)
  simp -implicitDefEqProofs [go_sem]
  refine SWp.seq (Wp.s ?_)
  by_cases h6 : s2 = []
  case neg =>
    have h7 : 0 < s2.length := List.length_pos_iff.2 h6
    have hd : decPk b = .error 3 := by rw [decPk, h1]; dsimp only; rw [h3]; dsimp only; rw [if_pos h6]
    simp -implicitDefEqProofs [go_sem, h6, h7]
    rw [hd]
    exact Fin.pure ⟨rfl, rfl, rfl⟩ (by simp) (by simp) (.refl _) (by simp [dvPk, pkZ, go_sem]) hokH
  subst h6
  simp -implicitDefEqProofs [go_sem]
  refine SWp.seq (SWp.drawnF [] [(0, .pl), (1, .pl), (2, .ld), (3, .pl), (4, .pl), (5, .ld), (6, .pl), (7, .pl), (8, .ld), (9, .pl), (10, .pl), (11, .ld), (12, .pl), (13, .pl), (14, .ld), (15, .pl), (16, .pl), (17, .pl), (18, .pl), (19, .st)] (by kernel_rfl) (by kernel_rfl) rfl ?_)
  simp -implicitDefEqProofs [go_sem]
  refine SWp.seq (Wp.s ?_)
  simp -implicitDefEqProofs [go_sem]
  refine CC.mono (refCheck_cc _ _ ⟨x0, x1, x2, x3, x4, y, z⟩ (by dsimp only; omega)) ?_
  rintro _ _ _ ⟨rfl, rfl, rfl⟩
  generalize hp : (⟨(x0 : Int), x1, x2, x3, x4, y, z⟩ : Pk) = p at h3
  by_cases h8 : checkP p = 0
  · have hd : decPk b = .ok p := by rw [decPk, h1]; dsimp only; rw [h3]; dsimp only; rw [if_neg (by simp), if_neg (by simp [h8])]
    simp -implicitDefEqProofs [go_sem, h8]
    refine Wp.s ?_
    simp -implicitDefEqProofs [go_sem]
    rw [hd]
    subst hp
    exact Fin.pure ⟨rfl, rfl, rfl⟩ (by simp) (by simp) (.refl _) (by simp [dvPk, go_sem]) hokH
  · have hd : decPk b = .error (checkP p) := by rw [decPk, h1]; dsimp only; rw [h3]; dsimp only; rw [if_neg (by simp), if_pos h8]
    simp -implicitDefEqProofs [go_sem, h8]
    rw [hd]
    exact Fin.pure ⟨rfl, rfl, rfl⟩ (by simp) (by simp) (.refl _) (by simp [dvPk, pkZ, go_sem]) hokH
set_option maxRecDepth 10000 in
theorem refDecMs_cc (H : Hp) (V : List Nat) (tk : Tk) (b : List UInt8) (hl : b.length ≤ 800000000) : CC Try.prog 25 [.sl tk 1 (bs b)] H V (Pu (dvMs (decMs b)) H V) := by
  refine CC.of_swp Try.func25 rfl (by kernel_rfl) (by rw [Try.ntmps25]; exact len_le _ _ rfl) fun hok hokH => ?_
  clear hok
  refine SWp.seq (Wp.s ?_)
  simp -implicitDefEqProofs [go_sem, args0]
  refine SWp.seq (Wp.s ?_)
  simp -implicitDefEqProofs [go_sem]
  refine CC.mono (Opened_cc _ _ _ _ hl) ?_
  rintro _ _ _ ⟨rfl, rfl, rfl⟩
  rcases h1 : openP b with k | s
  · have he := openP_ne0 h1
    have hd : decMs b = .error k := by rw [decMs, h1]
    simp -implicitDefEqProofs [go_sem, opv]
    try simp -implicitDefEqProofs [go_sem, rdv, he]
    refine Wp.s ?_
    simp -implicitDefEqProofs [go_sem, he]
    rw [hd]
    exact Fin.pure ⟨rfl, rfl, rfl⟩ (by simp) (by simp) (.refl _) (by simp [dvMs, msZ, go_sem]) hokH
  have hsl := openP_le h1
  simp -implicitDefEqProofs [go_sem, opv]
  refine SWp.seq (Wp.s ?_)
  simp -implicitDefEqProofs [go_sem]
  refine SWp.seq (Wp.s ?_)
  simp -implicitDefEqProofs [go_sem]
  refine CC.mono (numbers_cc _ _ _ _ 6 (by omega) (by omega)) ?_
  rintro _ _ _ ⟨rfl, rfl, rfl⟩
  rcases numsMs s with ⟨k, h2, h3⟩ | ⟨x0, x1, x2, x3, x4, x5, r, h2, h3⟩
  · have he := ne0_rep ne0_int _ _ _ h2
    have hd : decMs b = .error k := by rw [decMs, h1]; dsimp only; rw [h3]
    rw [h2]
    try simp -implicitDefEqProofs [go_sem, rdv, he]
    refine Wp.s ?_
    simp -implicitDefEqProofs [go_sem, he]
    rw [hd]
    exact Fin.pure ⟨rfl, rfl, rfl⟩ (by simp) (by simp) (.refl _) (by simp [dvMs, msZ, go_sem]) hokH
  have hrl := on_rep h2
  rw [h2]
  simp -implicitDefEqProofs [go_sem, rdv]
  refine SWp.seq (Wp.s ?_)
  simp -implicitDefEqProofs [go_sem]
  refine SWp.seq (Wp.s ?_)
  simp -implicitDefEqProofs [go_sem]
  refine CC.mono (refInts_cc _ _ _ _ (by omega)) ?_
  rintro _ _ _ ⟨rfl, rfl, rfl⟩
  rcases h4 : listP intP r with k | ⟨y, s1⟩
  · have he := (ne0_list ne0_int) _ _ h4
    rw [h4] at h3
    have hd : decMs b = .error k := by rw [decMs, h1]; dsimp only; rw [h3]
    try simp -implicitDefEqProofs [go_sem, rdv, he]
    refine Wp.s ?_
    simp -implicitDefEqProofs [go_sem, he]
    rw [hd]
    exact Fin.pure ⟨rfl, rfl, rfl⟩ (by simp) (by simp) (.refl _) (by simp [dvMs, msZ, go_sem]) hokH
  rw [h4] at h3
  dsimp only at h3
  have hyl := listP_le int_on h4
  have hs1 := on_len (list_on int_on) h4
  simp -implicitDefEqProofs [go_sem, rdv]
  refine SWp.seq (Wp.s ?_)
  simp -implicitDefEqProofs [go_sem]
  refine SWp.seq (Wp.s ?_)
  simp -implicitDefEqProofs [go_sem]
  refine CC.mono (refBytes_cc _ _ _ _ (by omega)) ?_
  rintro _ _ _ ⟨rfl, rfl, rfl⟩
  rcases h5 : textP s1 with k | ⟨z, s2⟩
  · have he := ne0_text _ _ h5
    rw [h5] at h3
    have hd : decMs b = .error k := by rw [decMs, h1]; dsimp only; rw [h3]
    try simp -implicitDefEqProofs [go_sem, rdv, he]
    refine Wp.s ?_
    simp -implicitDefEqProofs [go_sem, he]
    rw [hd]
    exact Fin.pure ⟨rfl, rfl, rfl⟩ (by simp) (by simp) (.refl _) (by simp [dvMs, msZ, go_sem]) hokH
  rw [h5] at h3
  dsimp only at h3
  simp -implicitDefEqProofs [go_sem, rdv]
  refine SWp.seq (Wp.s ?_)
  simp -implicitDefEqProofs [go_sem]
  refine SWp.seq (Wp.s ?_)
  by_cases h6 : s2 = []
  case neg =>
    have h7 : 0 < s2.length := List.length_pos_iff.2 h6
    have hd : decMs b = .error 3 := by rw [decMs, h1]; dsimp only; rw [h3]; dsimp only; rw [if_pos h6]
    simp -implicitDefEqProofs [go_sem, h6, h7]
    rw [hd]
    exact Fin.pure ⟨rfl, rfl, rfl⟩ (by simp) (by simp) (.refl _) (by simp [dvMs, msZ, go_sem]) hokH
  subst h6
  simp -implicitDefEqProofs [go_sem]
  refine SWp.seq (SWp.drawnF [] [(0, .pl), (1, .pl), (2, .ld), (3, .pl), (4, .pl), (5, .ld), (6, .pl), (7, .pl), (8, .ld), (9, .pl), (10, .pl), (11, .ld), (12, .pl), (13, .pl), (14, .ld), (15, .pl), (16, .pl), (17, .ld), (18, .pl), (19, .pl), (20, .pl), (21, .pl), (22, .st)] (by kernel_rfl) (by kernel_rfl) rfl ?_)
  simp -implicitDefEqProofs [go_sem]
  refine SWp.seq (Wp.s ?_)
  simp -implicitDefEqProofs [go_sem]
  refine CC.mono (refCheckMessage_cc _ _ ⟨x0, x1, x2, x3, x4, x5, y, z⟩ (by dsimp only; omega)) ?_
  rintro _ _ _ ⟨rfl, rfl, rfl⟩
  generalize hp : (⟨(x0 : Int), x1, x2, x3, x4, x5, y, z⟩ : Ms) = p at h3
  by_cases h8 : checkM p = 0
  · have hd : decMs b = .ok p := by rw [decMs, h1]; dsimp only; rw [h3]; dsimp only; rw [if_neg (by simp), if_neg (by simp [h8])]
    simp -implicitDefEqProofs [go_sem, h8]
    refine Wp.s ?_
    simp -implicitDefEqProofs [go_sem]
    rw [hd]
    subst hp
    exact Fin.pure ⟨rfl, rfl, rfl⟩ (by simp) (by simp) (.refl _) (by simp [dvMs, go_sem]) hokH
  · have hd : decMs b = .error (checkM p) := by rw [decMs, h1]; dsimp only; rw [h3]; dsimp only; rw [if_neg (by simp), if_pos h8]
    simp -implicitDefEqProofs [go_sem, h8]
    rw [hd]
    exact Fin.pure ⟨rfl, rfl, rfl⟩ (by simp) (by simp) (.refl _) (by simp [dvMs, msZ, go_sem]) hokH
end Go.Proofs.Ythakkopnoeinmaa
