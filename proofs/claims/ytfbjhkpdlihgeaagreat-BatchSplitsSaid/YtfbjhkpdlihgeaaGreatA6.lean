import Derived.Test.YtfbjhkpdlihgeaaGreatA5
import Derived.Test.YtfbjhkpdlihgeaaGreatA4
set_option linter.unusedSimpArgs false
set_option linter.unusedVariables false
set_option linter.unusedSectionVars false
namespace Go.Proofs.YtfbjhkpdlihgeaaGreat
open Go.Proofs
theorem chkA_bad {a : Asm} (h : asmHd a = true) : chkA a = 3 := by rw [chkA, if_pos h]
theorem chkA_any {a : Asm} (h : (a.pcs.zip a.seen).any (fun x => badPc x.1 x.2) = true) : chkA a = 3 := by
  unfold chkA
  rw [if_pos h]
  split <;> rfl
theorem chkA_ok {a : Asm} (h : asmHd a = false) (h2 : (a.pcs.zip a.seen).any (fun x => badPc x.1 x.2) = false) : chkA a = 0 := by rw [chkA, if_neg (by simp [h]), if_neg (by simp [h2])]
theorem asmHd_iff (a : Asm) : asmHd a = true ↔ (a.number < 1 ∨ 1073741824 < a.number ∨ a.parts < 1 ∨ 65536 < a.parts ∨ a.sum < 0 ∨ 4294967295 < a.sum ∨ (a.pcs.length : Int) ≠ a.parts ∨ (a.seen.length : Int) ≠ a.parts) := by
  simp only [asmHd, Bool.or_eq_true, decide_eq_true_eq, or_assoc]
theorem zip_get {a : Asm} {i : Nat} (h1 : i < a.pcs.length) (h2 : i < a.seen.length) (h : i < (a.pcs.zip a.seen).length) : (a.pcs.zip a.seen)[i] = (a.pcs[i], a.seen[i]) := List.getElem_zip
def pcsB (a : Asm) (i : Nat) : Bool := ((a.pcs.zip a.seen).take i).any (fun x => badPc x.1 x.2)
theorem pcsB_0 (a : Asm) : pcsB a 0 = false := rfl
theorem pcsB_all {a : Asm} {i : Nat} (h : a.pcs.length ≤ i) (hp : pcsB a i = false) (hn : asmHd a = false) : chkA a = 0 := by
  refine chkA_ok hn ?_
  rw [pcsB, List.take_of_length_le (by rw [List.length_zip]; omega)] at hp
  exact hp
theorem pcsB_step {a : Asm} {i : Nat} (h1 : i < a.pcs.length) (h2 : i < a.seen.length) (hp : pcsB a i = false) (hb : badPc a.pcs[i] a.seen[i] = false) : pcsB a (i + 1) = false := by
  have hz : i < (a.pcs.zip a.seen).length := by rw [List.length_zip]; omega
  exact any_take hz hp (by rw [zip_get h1 h2 hz]; exact hb)
theorem pcsB_bad {a : Asm} {i : Nat} (h1 : i < a.pcs.length) (h2 : i < a.seen.length) (hb : badPc a.pcs[i] a.seen[i] = true) : chkA a = 3 := by
  have hz : i < (a.pcs.zip a.seen).length := by rw [List.length_zip]; omega
  exact chkA_any (any_at hz (by rw [zip_get h1 h2 hz]; exact hb))
theorem badPc1 {p : List UInt8} {s : Bool} (h : ¬ decide (0 < p.length) = s) : badPc p s = true := by
  unfold badPc; rw [Bool.or_eq_true]; exact .inl (by simpa using h)
theorem badPc2 {p : List UInt8} {s : Bool} (h : 4096 < p.length) : badPc p s = true := by
  unfold badPc; rw [Bool.or_eq_true]; exact .inr (by simpa using h)
theorem badPc0 {p : List UInt8} {s : Bool} (h : decide (0 < p.length) = s) (h2 : ¬ 4096 < p.length) : badPc p s = false := by
  unfold badPc; rw [Bool.or_eq_false_iff]; exact ⟨by simpa using h, by simpa using h2⟩
theorem Check_cc (H : Hp) (V : List Nat) (a : Asm) (hl : a.pcs.length ≤ 1000000000) : CC Tryz.prog 28 [.agg (asmC a)] H V (Pu (er (chkA a)) H V) := by
  refine CC.of_swp Tryz.func28 rfl (by kernel_rfl) (by rw [Tryz.ntmps28]; exact len_le _ _ rfl) fun hok hokH => ?_
  clear hok
  refine SWp.seq (Wp.s ?_)
  simp -implicitDefEqProofs [go_sem, args0]
  refine SWp.join (α := Unit) (fun _ => ([(1, .ptr H.length 0)], H ++ [some (asmC a)], V)) (fun _ => asmHd a = false) ?_ ?_
  · refine SWp.seq (Wp.s ?_)
    by_cases c1 : a.number < 1
    · simp -implicitDefEqProofs [go_sem, c1]
      refine Wp.s ?_
      simp -implicitDefEqProofs [go_sem]
      exact Fin.er (chkA_bad ((asmHd_iff a).2 (by omega))) hokH (by simp) (by simp)
    by_cases c2 : 1073741824 < a.number
    · simp -implicitDefEqProofs [go_sem, c1, c2]
      refine Wp.s ?_
      simp -implicitDefEqProofs [go_sem]
      exact Fin.er (chkA_bad ((asmHd_iff a).2 (by omega))) hokH (by simp) (by simp)
    by_cases c3 : a.parts < 1
    · simp -implicitDefEqProofs [go_sem, c1, c2, c3]
      refine Wp.s ?_
      simp -implicitDefEqProofs [go_sem]
      exact Fin.er (chkA_bad ((asmHd_iff a).2 (by omega))) hokH (by simp) (by simp)
    by_cases c4 : 65536 < a.parts
    · simp -implicitDefEqProofs [go_sem, c1, c2, c3, c4]
      refine Wp.s ?_
      simp -implicitDefEqProofs [go_sem]
      exact Fin.er (chkA_bad ((asmHd_iff a).2 (by omega))) hokH (by simp) (by simp)
    by_cases c5 : a.sum < 0
    · simp -implicitDefEqProofs [go_sem, c1, c2, c3, c4, c5]
      refine Wp.s ?_
      simp -implicitDefEqProofs [go_sem]
      exact Fin.er (chkA_bad ((asmHd_iff a).2 (by omega))) hokH (by simp) (by simp)
    by_cases c6 : 4294967295 < a.sum
    · simp -implicitDefEqProofs [go_sem, c1, c2, c3, c4, c5, c6]
      refine Wp.s ?_
      simp -implicitDefEqProofs [go_sem]
      exact Fin.er (chkA_bad ((asmHd_iff a).2 (by omega))) hokH (by simp) (by simp)
    by_cases c7 : (a.pcs.length : Int) = a.parts
    case neg =>
      simp -implicitDefEqProofs [go_sem, c1, c2, c3, c4, c5, c6, c7]
      refine Wp.s ?_
      simp -implicitDefEqProofs [go_sem]
      exact Fin.er (chkA_bad ((asmHd_iff a).2 (by omega))) hokH (by simp) (by simp)
    by_cases c8 : (a.seen.length : Int) = a.parts
    case neg =>
      simp -implicitDefEqProofs [go_sem, c1, c2, c3, c4, c5, c6, c7, c8]
      refine Wp.s ?_
      simp -implicitDefEqProofs [go_sem]
      exact Fin.er (chkA_bad ((asmHd_iff a).2 (by omega))) hokH (by simp) (by simp)
    simp -implicitDefEqProofs [go_sem, c1, c2, c3, c4, c5, c6, c7, c8]
    refine Wp.s ?_
    simp -implicitDefEqProofs [go_sem]
    have hno : asmHd a = false := by
      rw [Bool.eq_false_iff, Ne, asmHd_iff]; omega
    exact ⟨hno, Sh.forget (by simp [go_sem]) rfl rfl⟩
  · rintro _ hno
    dsimp only
    have hh : ¬ (asmHd a = true) := by rw [hno]; decide
    rw [asmHd_iff] at hh
    refine SWp.join (α := Unit) (fun _ => ([], H, V)) (fun _ => chkA a = 0) ?_ ?_
    · refine SWp.seq (Wp.s ?_)
      simp -implicitDefEqProofs [go_sem]
      refine SWp.block ?_
      refine SWp.loop (α := Nat) (fun i => ([(1, .ptr H.length 0), (50, .sl .sh 1 (a.pcs.map byE)), (51, ci a.pcs.length), (52, ci i)], H ++ [some (asmC a)], V)) (fun i => i ≤ a.pcs.length ∧ pcsB a i = false) (fun i => a.pcs.length - i) 0 ⟨Nat.zero_le _, pcsB_0 a⟩ (Sh.forget (by simp [go_sem]) rfl rfl) ?_
      rintro i ⟨hi, hp⟩
      dsimp only
      refine SWp.seq (Wp.s ?_)
      simp -implicitDefEqProofs [go_sem]
      refine SWp.seq (Wp.s ?_)
      simp -implicitDefEqProofs [go_sem]
      refine ⟨fun h => ?_, fun h => ⟨pcsB_all h hp hno, Sh.back (by simp [go_sem]) (by simp) (by simp) (by simp [go_sem]) hokH (by simp) (by simp)⟩⟩
      have hs : i < a.seen.length := by omega
      refine SWp.seq (SWp.block (SWp.seq (Wp.s ?_)))
      simp -implicitDefEqProofs [go_sem, h]
      refine SWp.seq (Wp.s ?_)
      by_cases k1 : decide (0 < a.pcs[i].length) = a.seen[i]
      · by_cases k2 : 4096 < a.pcs[i].length
        · have k2' : 4096 < (a.pcs[i].length : Int) := by omega
          simp -implicitDefEqProofs [go_sem, hs, k1, k2']
          refine Wp.s ?_
          simp -implicitDefEqProofs [go_sem]
          exact Fin.er (pcsB_bad h hs (badPc2 k2)) hokH (by simp) (by simp)
        · have k2' : ¬ 4096 < (a.pcs[i].length : Int) := by omega
          simp -implicitDefEqProofs [go_sem, hs, k1, k2']
          refine Wp.s ?_
          simp -implicitDefEqProofs [go_sem]
          refine Wp.s ?_
          simp -implicitDefEqProofs [go_sem]
          refine ⟨i + 1, ⟨by omega, pcsB_step h hs hp (badPc0 k1 k2)⟩, by omega, Sh.forget ?_ rfl rfl⟩
          simp [go_sem, wrap_succ (show i ≤ 1000000000 by omega)]
      · simp -implicitDefEqProofs [go_sem, hs, k1]
        refine Wp.s ?_
        simp -implicitDefEqProofs [go_sem]
        exact Fin.er (pcsB_bad h hs (badPc1 k1)) hokH (by simp) (by simp)
    · rintro _ hp
      dsimp only
      refine Wp.s ?_
      simp -implicitDefEqProofs [go_sem]
      exact Fin.er hp hokH (by simp) (by simp)
theorem refCheck_cc (H : Hp) (V : List Nat) (a : Asm) (hl : a.pcs.length ≤ 1000000000) : CC Tryz.prog 32 [.agg (asmC a)] H V (Pu (er (chkA a)) H V) := by
  refine CC.of_swp Tryz.func32 rfl (by kernel_rfl) (by rw [Tryz.ntmps32]; exact len_le _ _ rfl) fun hok hokH => ?_
  clear hok
  refine SWp.seq (Wp.s ?_)
  simp -implicitDefEqProofs [go_sem, args0]
  refine SWp.join (α := Unit) (fun _ => ([(1, .ptr H.length 0)], H ++ [some (asmC a)], V)) (fun _ => asmHd a = false) ?_ ?_
  · refine SWp.seq (Wp.s ?_)
    by_cases c1 : a.number < 1
    · simp -implicitDefEqProofs [go_sem, c1]
      refine Wp.s ?_
      simp -implicitDefEqProofs [go_sem]
      exact Fin.er (chkA_bad ((asmHd_iff a).2 (by omega))) hokH (by simp) (by simp)
    by_cases c2 : 1073741824 < a.number
    · simp -implicitDefEqProofs [go_sem, c1, c2]
      refine Wp.s ?_
      simp -implicitDefEqProofs [go_sem]
      exact Fin.er (chkA_bad ((asmHd_iff a).2 (by omega))) hokH (by simp) (by simp)
    by_cases c3 : a.parts < 1
    · simp -implicitDefEqProofs [go_sem, c1, c2, c3]
      refine Wp.s ?_
      simp -implicitDefEqProofs [go_sem]
      exact Fin.er (chkA_bad ((asmHd_iff a).2 (by omega))) hokH (by simp) (by simp)
    by_cases c4 : 65536 < a.parts
    · simp -implicitDefEqProofs [go_sem, c1, c2, c3, c4]
      refine Wp.s ?_
      simp -implicitDefEqProofs [go_sem]
      exact Fin.er (chkA_bad ((asmHd_iff a).2 (by omega))) hokH (by simp) (by simp)
    by_cases c5 : a.sum < 0
    · simp -implicitDefEqProofs [go_sem, c1, c2, c3, c4, c5]
      refine Wp.s ?_
      simp -implicitDefEqProofs [go_sem]
      exact Fin.er (chkA_bad ((asmHd_iff a).2 (by omega))) hokH (by simp) (by simp)
    by_cases c6 : 4294967295 < a.sum
    · simp -implicitDefEqProofs [go_sem, c1, c2, c3, c4, c5, c6]
      refine Wp.s ?_
      simp -implicitDefEqProofs [go_sem]
      exact Fin.er (chkA_bad ((asmHd_iff a).2 (by omega))) hokH (by simp) (by simp)
    by_cases c7 : (a.pcs.length : Int) = a.parts
    case neg =>
      simp -implicitDefEqProofs [go_sem, c1, c2, c3, c4, c5, c6, c7]
      refine Wp.s ?_
      simp -implicitDefEqProofs [go_sem]
      exact Fin.er (chkA_bad ((asmHd_iff a).2 (by omega))) hokH (by simp) (by simp)
    by_cases c8 : (a.seen.length : Int) = a.parts
    case neg =>
      simp -implicitDefEqProofs [go_sem, c1, c2, c3, c4, c5, c6, c7, c8]
      refine Wp.s ?_
      simp -implicitDefEqProofs [go_sem]
      exact Fin.er (chkA_bad ((asmHd_iff a).2 (by omega))) hokH (by simp) (by simp)
    simp -implicitDefEqProofs [go_sem, c1, c2, c3, c4, c5, c6, c7, c8]
    refine Wp.s ?_
    simp -implicitDefEqProofs [go_sem]
    have hno : asmHd a = false := by
      rw [Bool.eq_false_iff, Ne, asmHd_iff]; omega
    exact ⟨hno, Sh.forget (by simp [go_sem]) rfl rfl⟩
  · rintro _ hno
    dsimp only
    have hh : ¬ (asmHd a = true) := by rw [hno]; decide
    rw [asmHd_iff] at hh
    refine SWp.join (α := Unit) (fun _ => ([], H, V)) (fun _ => chkA a = 0) ?_ ?_
    · refine SWp.seq (Wp.s ?_)
      simp -implicitDefEqProofs [go_sem]
      refine SWp.block ?_
      refine SWp.loop (α := Nat) (fun i => ([(1, .ptr H.length 0), (3, ci i)], H ++ [some (asmC a)], V)) (fun i => i ≤ a.pcs.length ∧ pcsB a i = false) (fun i => a.pcs.length - i) 0 ⟨Nat.zero_le _, pcsB_0 a⟩ (Sh.forget (by simp [go_sem]) rfl rfl) ?_
      rintro i ⟨hi, hp⟩
      dsimp only
      have hpl : a.parts = (a.pcs.length : Int) := by omega
      refine SWp.seq (SWp.seq (Wp.s ?_))
      simp -implicitDefEqProofs [go_sem, hpl]
      refine Wp.s ?_
      simp -implicitDefEqProofs [go_sem, hpl]
      refine ⟨fun h => ?_, fun h => ⟨pcsB_all h hp hno, Sh.back (by simp [go_sem]) (by simp) (by simp) (by simp [go_sem]) hokH (by simp) (by simp)⟩⟩
      have hs : i < a.seen.length := by omega
      refine SWp.seq (SWp.block (SWp.seq ?_))
      refine SWp.drawnT [] [] (.s 0 .pl <| .s 1 .pl <| .s 2 .pl <| .s 3 .pl <| .s 4 .pl <| .s 5 .pl <| .s 6 .pl <| .s 7 .pl <| .s 8 .pl <| .s 9 .pl <| .s 10 .pl <| .s 11 .pl <| .s 12 .pl <| .s 13 .pl <| .s 14 .pl <| .s 15 .pl <| .s 16 .pl <| .s 17 .pl <| .s 18 .pl <| .s 19 .pl <| .s 20 .pl <| .s 21 .pl <| .n) (by kernel_rfl) (by kernel_rfl) ?_
      by_cases k1 : decide (0 < a.pcs[i].length) = a.seen[i]
      · by_cases k2 : 4096 < a.pcs[i].length
        · have k2' : 4096 < (a.pcs[i].length : Int) := by omega
          simp -implicitDefEqProofs [go_sem, h, hs, k1, k2']
          refine Wp.s ?_
          simp -implicitDefEqProofs [go_sem]
          exact Fin.er (pcsB_bad h hs (badPc2 k2)) hokH (by simp) (by simp)
        · have k2' : ¬ 4096 < (a.pcs[i].length : Int) := by omega
          simp -implicitDefEqProofs [go_sem, h, hs, k1, k2']
          refine Wp.s ?_
          simp -implicitDefEqProofs [go_sem]
          refine Wp.s ?_
          simp -implicitDefEqProofs [go_sem]
          refine ⟨i + 1, ⟨by omega, pcsB_step h hs hp (badPc0 k1 k2)⟩, by omega, Sh.forget ?_ rfl rfl⟩
          simp [go_sem, wrap_succ (show i ≤ 1000000000 by omega)]
      · simp -implicitDefEqProofs [go_sem, h, hs, k1]
        refine Wp.s ?_
        simp -implicitDefEqProofs [go_sem]
        exact Fin.er (pcsB_bad h hs (badPc1 k1)) hokH (by simp) (by simp)
    · rintro _ hp
      dsimp only
      refine Wp.s ?_
      simp -implicitDefEqProofs [go_sem]
      exact Fin.er hp hokH (by simp) (by simp)
end Go.Proofs.YtfbjhkpdlihgeaaGreat
namespace Go.Proofs.YtfbjhkpdlihgeaaGreat
open Go.Proofs
@[go_sem] theorem hbx_addj (H L : Hp) (j : Nat) (K : List CV → Prop) : hbx (H ++ L) (H.length + j) K = hbx L j K := by simp only [hbx, at_len_add]
@[go_sem] theorem set_addj (H L : Hp) (j : Nat) (d : Option (List CV)) : (H ++ L).set (H.length + j) d = H ++ L.set j d := by
  rw [List.set_append_right _ _ (by omega)]; congr 2; omega
theorem Kp_two {a b : Nat} {G G' : Hp} (h1 : G'[a]? = G[a]?) (h2 : G'[b]? = G[b]?) : Kp [a, b] G G' := fun x hx cs h => by
  simp only [List.mem_cons, List.not_mem_nil, or_false] at hx
  rcases hx with rfl | rfl
  · rw [h1]; exact h
  · rw [h2]; exact h
theorem at3_nn (xs : List Nat) (i : Nat) : 0 ≤ at3 xs i := Int.natCast_nonneg _
theorem prsP_ok {b : List UInt8} {h : Hd} {r : List UInt8} (e : prsP b = .ok (h, r)) : 1 ≤ h.number ∧ h.number ≤ 1073741824 ∧ 0 ≤ h.index ∧ h.index < h.parts ∧ h.parts ≤ 65536 ∧ 0 ≤ h.sum ∧ h.sum ≤ 4294967295 ∧ 1 ≤ r.length ∧ r.length ≤ 4096 := by
  unfold prsP at e
  split at e
  · cases e
  · rename_i xs s hx
    split at e
    · cases e
    · rename_i hn
      cases e
      have h1 : corrB (hd4 xs) = true := by
        cases hc : corrB (hd4 xs)
        · exact absurd (.inl hc) hn
        · rfl
      have hcor : corrB (hd4 xs) = (decide (1 ≤ at3 xs 0) && decide (at3 xs 0 ≤ 1073741824) && decide (at3 xs 1 < at3 xs 2) && decide (at3 xs 2 ≤ 65536) && decide (at3 xs 3 ≤ 4294967295)) := rfl
      rw [hcor] at h1
      simp only [Bool.and_eq_true, decide_eq_true_eq] at h1
      have := at3_nn xs 1
      have := at3_nn xs 3
      simp only [hd4]
      refine ⟨by omega, by omega, by omega, by omega, by omega, by omega, by omega, ?_, ?_⟩
      · exact Nat.not_lt.1 fun q => hn (.inr (.inl q))
      · exact Nat.not_lt.1 fun q => hn (.inr (.inr q))
theorem prsP_ne {b : List UInt8} {e : Nat} (h : prsP b = .error e) : e ≠ 0 := by
  unfold prsP at h
  split at h
  · rename_i h1; cases h; exact ne0_rep ne0_number _ _ _ h1
  · split at h
    · cases h; decide
    · cases h
abbrev cby (p : List UInt8) : CV := .sl .sh 1 (bs p)
abbrev cbo (b : Bool) : CV := .v (.bool b)
theorem map_cby (l : List (List UInt8)) : (l.map cby).map (fun c => [c]) = l.map byE := by rw [List.map_map]; rfl
theorem map_cbo (l : List Bool) : (l.map cbo).map (fun c => [c]) = l.map boE := by rw [List.map_map]; rfl
theorem set_cby (l : List (List UInt8)) (i : Nat) (p : List UInt8) : (l.map cby).set i (cby p) = (l.set i p).map cby := List.map_set.symm
theorem set_cbo (l : List Bool) (i : Nat) (p : Bool) : (l.map cbo).set i (cbo p) = (l.set i p).map cbo := List.map_set.symm
/-- An assembly in three boxes is handed back. -/
theorem Fin.asm {H H' : Hp} {V V' : List Nat} {a : Asm} {b1 b2 n m : Nat} {cs ds : List CV} (hb1 : H'[b1]? = some (some cs)) (hb2 : (H'.set b1 none)[b2]? = some (some ds)) (hc : LeL cs (a.pcs.map cby)) (hd : LeL ds (a.seen.map cbo)) (hn : cs.length = n) (hm : ds.length = m)
    (h1 : H.length ≤ b1) (h2 : H.length ≤ b2) (hne : b1 ≠ b2) (hokH : ∀ (b : Nat) cs, H[b]? = some (some cs) → okL H.length V.length cs) (hH : H'.take H.length = H) (hV : V'.take V.length = V) {c1 c2 c3 : CV} (e1 : c1 = .v (.int .i64 a.number)) (e2 : c2 = .v (.int .i64 a.parts)) (e3 : c3 = .v (.int .i64 a.sum)) :
    Fin H.length V.length (Pu (.tup [.agg (asmC a), Go.Proofs.YtfbjhkpdlihgeaaGreat.er 0]) H V) (.tup [.agg [c1, c2, c3, .bsl b1 0 n 1, .bsl b2 0 m 1], Go.Proofs.YtfbjhkpdlihgeaaGreat.er 0]) H' V' := by
  subst e1 e2 e3
  obtain ⟨r1, f1, l1⟩ := Fy.le1 (b := b1) hc hn
  obtain ⟨r2, f2, l2⟩ := Fy.le1 (b := b2) hd hm
  rw [map_cby] at l1
  rw [map_cbo] at l2
  exact Fin.froz2 (r1 := .tup [.agg [_, _, _, .bsl b1 0 n 1, .bsl b2 0 m 1], Go.Proofs.YtfbjhkpdlihgeaaGreat.er 0]) (r2 := .tup [.agg [_, _, _, r1, .bsl b2 0 m 1], Go.Proofs.YtfbjhkpdlihgeaaGreat.er 0]) (r3 := .tup [.agg [_, _, _, r1, r2], Go.Proofs.YtfbjhkpdlihgeaaGreat.er 0]) ⟨rfl, rfl, rfl⟩ (.refl _) hb1 (.tup (.cons (.agg (.cons (.refl _) (.cons (.refl _) (.cons (.refl _) (.cons f1 (.cons (.refl _) .nil)))))) (.cons (.refl _) .nil)))
    hb2 (.tup (.cons (.agg (.cons (.refl _) (.cons (.refl _) (.cons (.refl _) (.cons (.refl _) (.cons f2 .nil)))))) (.cons (.refl _) .nil)))
    (.tup (.cons (.agg (.cons (.refl _) (.cons (.refl _) (.cons (.refl _) (.cons l1 (.cons l2 .nil)))))) (.cons (.refl _) .nil))) h1 h2 (by simp [go_sem]) hokH hH hV
def asmZ : List CV := [ci 0, ci 0, ci 0, nilS, nilS]
theorem Le_zasm : Le (.agg asmZ) (.agg (asmC zasm)) := .agg (.cons (.refl _) (.cons (.refl _) (.cons (.refl _) (.cons (.nil 1 (by decide)) (.cons (.nil 1 (by decide)) .nil)))))
theorem rep_bys (n : Nat) : LeL (List.replicate n nilS) ((List.replicate n ([] : List UInt8)).map cby) := by
  rw [List.map_replicate]; exact .rep n (.nil 1 (by decide))
theorem rep_bos (n : Nat) : LeL (List.replicate n (cbo false)) ((List.replicate n false).map cbo) := by
  rw [List.map_replicate]; exact .refl _
theorem Begin_cc (H : Hp) (V : List Nat) (tk : Tk) (b : List UInt8) (hl : b.length ≤ 800000000) : CC Tryz.prog 17 [.sl tk 1 (bs b)] H V (Pu (dvA (begA b)) H V) := by
  refine CC.of_swp Tryz.func17 rfl (by kernel_rfl) (by rw [Tryz.ntmps17]; exact len_le _ _ rfl) fun hok hokH => ?_
  clear hok
  refine SWp.seq (Wp.s ?_)
  simp -implicitDefEqProofs [go_sem, args0]
  refine SWp.seq (Wp.s ?_)
  simp -implicitDefEqProofs [go_sem]
  refine CC.mono (parse_cc _ _ _ b hl) ?_
  rintro _ _ _ ⟨rfl, rfl, rfl⟩
  rcases hp : prsP b with e | ⟨h, r⟩
  · have he : begA b = .error e := by rw [begA, hp]
    have hne : e ≠ 0 := prsP_ne hp
    simp -implicitDefEqProofs [go_sem, dvH]
    refine SWp.seq (SWp.seq (Wp.s ?_))
    simp -implicitDefEqProofs [go_sem, hne]
    refine Wp.s ?_
    simp -implicitDefEqProofs [go_sem]
    rw [he, dvA]
    exact Fin.pu (.tup (.cons Le_zasm (.cons (.refl _) .nil))) (by simp [go_sem]) hokH (by simp) (by simp)
  · obtain ⟨o1, o2, o3, o4, o5, o6, o7, o8, o9⟩ := prsP_ok hp
    simp -implicitDefEqProofs [go_sem, dvH]
    refine SWp.seq (SWp.seq (Wp.s ?_))
    simp -implicitDefEqProofs [go_sem]
    refine Wp.s ?_
    simp -implicitDefEqProofs [go_sem]
    refine SWp.seq (SWp.drawnU [] [19] (.s 0 .pl <| .s 1 .pl <| .s 2 .pl <| .s 3 .pl <| .s 4 .pl <| .s 5 .pl <| .s 6 .pl <| .s 7 .pl <| .s 8 .pl <| .s 9 .pl <| .s 10 .pl <| .s 11 .pl <| .s 13 .pl <| .s 14 .pl <| .s 15 .pl <|
      .g 12 .pl (.f 16 .pl (.s 17 .pl <| .s 18 .pl <| .s 19 .st <| .n) 18 .pl (.s 16 .pl <| .s 17 .pl <| .s 19 .st <| .n))
        16 .pl (.f 12 .pl (.s 17 .pl <| .s 18 .pl <| .s 19 .st <| .n) 18 .pl (.s 12 .pl <| .s 17 .pl <| .s 19 .st <| .n))
        18 .pl (.f 12 .pl (.s 16 .pl <| .s 17 .pl <| .s 19 .st <| .n) 16 .pl (.s 12 .pl <| .s 17 .pl <| .s 19 .st <| .n))) (by kernel_rfl) (by kernel_rfl) ?_)
    obtain ⟨k, hk⟩ := Int.eq_ofNat_of_zero_le o3
    obtain ⟨n, hn⟩ := Int.eq_ofNat_of_zero_le (show 0 ≤ h.parts by omega)
    have hkn : k < n := by omega
    simp -implicitDefEqProofs [go_sem, hn, show (n : Int) ≤ 1099511627776 by omega]
    simp only [Nat.add_assoc, Nat.reduceAdd]
    obtain ⟨c0, hc0⟩ : ∃ c0, c0 = List.replicate n nilS := ⟨_, rfl⟩
    obtain ⟨d0, hd0⟩ : ∃ d0, d0 = List.replicate n (cbo false) := ⟨_, rfl⟩
    have lc0 : c0.length = n := by rw [hc0, List.length_replicate]
    have ld0 : d0.length = n := by rw [hd0, List.length_replicate]
    rw [show List.replicate n (CV.v (Value.slice none 0 0)) = c0 from hc0.symm, show List.replicate n (CV.v (Value.bool false)) = d0 from hd0.symm]
    have hbeg : begA b = .ok ⟨h.number, h.parts, h.sum, (List.replicate n []).set k r, (List.replicate n false).set k true⟩ := by rw [begA, hp]; dsimp only; rw [hn, hk]; rfl
    have le1 : LeL (c0.take k ++ cby r :: c0.drop (k + 1)) (((List.replicate n []).set k r).map cby) := by
      rw [← set_cby]; exact LeL.put (by rw [hc0]; exact rep_bys n) (.refl _) (by omega)
    have le2 : LeL (d0.take k ++ cbo true :: d0.drop (k + 1)) (((List.replicate n false).set k true).map cbo) := by
      rw [← set_cbo]; exact LeL.put (by rw [hd0]; exact rep_bos n) (.refl _) (by omega)
    refine ⟨⟨?_, ?_⟩, ⟨?_, ?_⟩, ?_, ?_⟩
    · refine SWp.seq (SWp.drawnT [H.length + 4, H.length + 1] [10, 12] (.s 0 .pl <| .s 1 .pl <| .s 2 .pl <| .s 3 .pl <| .s 4 .pl <| .s 5 .ld <| .s 6 .pl <| .s 7 .ld <| .s 8 .pl <| .s 9 .pl <| .s 10 .st <| .s 11 .pl <| .s 12 .st <| .n) (by kernel_rfl) (by kernel_rfl) ?_)
      simp -implicitDefEqProofs [go_sem, hk, hkn, lc0, ld0, show k + 1 ≤ n by omega]
      refine ⟨Kp_two (by simp [go_sem]) (by simp [go_sem]), Kp_two (by simp [go_sem]) (by simp [go_sem]), ?_⟩
      refine Wp.s ?_
      simp -implicitDefEqProofs [go_sem]
      rw [hbeg, dvA]
      exact Fin.asm (b1 := H.length + 2) (b2 := H.length + 3) (by rw [at_len_add]; rfl) (by rw [set_addj, at_len_add]; rfl) le1 le2 (by simp [lc0]; omega) (by simp [ld0]; omega) (by omega) (by omega) (by omega) hokH (by simp) (by simp) rfl (by rw [hn]) rfl
    · refine SWp.seq (SWp.drawnT [H.length + 3, H.length + 1] [10, 12] (.s 0 .pl <| .s 1 .pl <| .s 2 .pl <| .s 3 .pl <| .s 4 .pl <| .s 5 .ld <| .s 6 .pl <| .s 7 .ld <| .s 8 .pl <| .s 9 .pl <| .s 10 .st <| .s 11 .pl <| .s 12 .st <| .n) (by kernel_rfl) (by kernel_rfl) ?_)
      simp -implicitDefEqProofs [go_sem, hk, hkn, lc0, ld0, show k + 1 ≤ n by omega]
      refine ⟨Kp_two (by simp [go_sem]) (by simp [go_sem]), Kp_two (by simp [go_sem]) (by simp [go_sem]), ?_⟩
      refine Wp.s ?_
      simp -implicitDefEqProofs [go_sem]
      rw [hbeg, dvA]
      exact Fin.asm (b1 := H.length + 2) (b2 := H.length + 4) (by rw [at_len_add]; rfl) (by rw [set_addj, at_len_add]; rfl) le1 le2 (by simp [lc0]; omega) (by simp [ld0]; omega) (by omega) (by omega) (by omega) hokH (by simp) (by simp) rfl (by rw [hn]) rfl
    · refine SWp.seq (SWp.drawnT [H.length + 4, H.length + 1] [10, 12] (.s 0 .pl <| .s 1 .pl <| .s 2 .pl <| .s 3 .pl <| .s 4 .pl <| .s 5 .ld <| .s 6 .pl <| .s 7 .ld <| .s 8 .pl <| .s 9 .pl <| .s 10 .st <| .s 11 .pl <| .s 12 .st <| .n) (by kernel_rfl) (by kernel_rfl) ?_)
      simp -implicitDefEqProofs [go_sem, hk, hkn, lc0, ld0, show k + 1 ≤ n by omega]
      refine ⟨Kp_two (by simp [go_sem]) (by simp [go_sem]), Kp_two (by simp [go_sem]) (by simp [go_sem]), ?_⟩
      refine Wp.s ?_
      simp -implicitDefEqProofs [go_sem]
      rw [hbeg, dvA]
      exact Fin.asm (b1 := H.length + 3) (b2 := H.length + 2) (by rw [at_len_add]; rfl) (by rw [set_addj, at_len_add]; rfl) le1 le2 (by simp [lc0]; omega) (by simp [ld0]; omega) (by omega) (by omega) (by omega) hokH (by simp) (by simp) rfl (by rw [hn]) rfl
    · refine SWp.seq (SWp.drawnT [H.length + 3, H.length + 1] [10, 12] (.s 0 .pl <| .s 1 .pl <| .s 2 .pl <| .s 3 .pl <| .s 4 .pl <| .s 5 .ld <| .s 6 .pl <| .s 7 .ld <| .s 8 .pl <| .s 9 .pl <| .s 10 .st <| .s 11 .pl <| .s 12 .st <| .n) (by kernel_rfl) (by kernel_rfl) ?_)
      simp -implicitDefEqProofs [go_sem, hk, hkn, lc0, ld0, show k + 1 ≤ n by omega]
      refine ⟨Kp_two (by simp [go_sem]) (by simp [go_sem]), Kp_two (by simp [go_sem]) (by simp [go_sem]), ?_⟩
      refine Wp.s ?_
      simp -implicitDefEqProofs [go_sem]
      rw [hbeg, dvA]
      exact Fin.asm (b1 := H.length + 4) (b2 := H.length + 2) (by rw [at_len_add]; rfl) (by rw [set_addj, at_len_add]; rfl) le1 le2 (by simp [lc0]; omega) (by simp [ld0]; omega) (by omega) (by omega) (by omega) hokH (by simp) (by simp) rfl (by rw [hn]) rfl
    · refine SWp.seq (SWp.drawnT [H.length + 2, H.length + 1] [10, 12] (.s 0 .pl <| .s 1 .pl <| .s 2 .pl <| .s 3 .pl <| .s 4 .pl <| .s 5 .ld <| .s 6 .pl <| .s 7 .ld <| .s 8 .pl <| .s 9 .pl <| .s 10 .st <| .s 11 .pl <| .s 12 .st <| .n) (by kernel_rfl) (by kernel_rfl) ?_)
      simp -implicitDefEqProofs [go_sem, hk, hkn, lc0, ld0, show k + 1 ≤ n by omega]
      refine ⟨Kp_two (by simp [go_sem]) (by simp [go_sem]), Kp_two (by simp [go_sem]) (by simp [go_sem]), ?_⟩
      refine Wp.s ?_
      simp -implicitDefEqProofs [go_sem]
      rw [hbeg, dvA]
      exact Fin.asm (b1 := H.length + 3) (b2 := H.length + 4) (by rw [at_len_add]; rfl) (by rw [set_addj, at_len_add]; rfl) le1 le2 (by simp [lc0]; omega) (by simp [ld0]; omega) (by omega) (by omega) (by omega) hokH (by simp) (by simp) rfl (by rw [hn]) rfl
    · refine SWp.seq (SWp.drawnT [H.length + 2, H.length + 1] [10, 12] (.s 0 .pl <| .s 1 .pl <| .s 2 .pl <| .s 3 .pl <| .s 4 .pl <| .s 5 .ld <| .s 6 .pl <| .s 7 .ld <| .s 8 .pl <| .s 9 .pl <| .s 10 .st <| .s 11 .pl <| .s 12 .st <| .n) (by kernel_rfl) (by kernel_rfl) ?_)
      simp -implicitDefEqProofs [go_sem, hk, hkn, lc0, ld0, show k + 1 ≤ n by omega]
      refine ⟨Kp_two (by simp [go_sem]) (by simp [go_sem]), Kp_two (by simp [go_sem]) (by simp [go_sem]), ?_⟩
      refine Wp.s ?_
      simp -implicitDefEqProofs [go_sem]
      rw [hbeg, dvA]
      exact Fin.asm (b1 := H.length + 4) (b2 := H.length + 3) (by rw [at_len_add]; rfl) (by rw [set_addj, at_len_add]; rfl) le1 le2 (by simp [lc0]; omega) (by simp [ld0]; omega) (by omega) (by omega) (by omega) hokH (by simp) (by simp) rfl (by rw [hn]) rfl
end Go.Proofs.YtfbjhkpdlihgeaaGreat
namespace Go.Proofs.YtfbjhkpdlihgeaaGreat
open Go.Proofs
theorem missF_app : ∀ (l : List Bool) (k : Nat) (b : Bool), missF k (l ++ [b]) = missF k l ++ (if b = true then [] else [((k + l.length : Nat) : Int)])
  | [], k, b => by simp [missF]
  | c :: l, k, b => by
    rw [List.cons_append, missF, missF, missF_app l (k + 1) b, List.length_cons]
    have : k + 1 + l.length = k + (l.length + 1) := by omega
    rw [this]
    split <;> simp
theorem miss_t {l : List Bool} {i : Nat} (h : i < l.length) (hb : l[i] = true) : missF 0 (l.take (i + 1)) = missF 0 (l.take i) := by
  rw [List.take_succ_eq_append_getElem h, missF_app, hb]; simp
theorem miss_f {l : List Bool} {i : Nat} (h : i < l.length) (hb : l[i] = false) : missF 0 (l.take (i + 1)) = missF 0 (l.take i) ++ [(i : Int)] := by
  rw [List.take_succ_eq_append_getElem h, missF_app, hb, List.length_take]
  simp; omega
theorem missF_len : ∀ (l : List Bool) (k : Nat), (missF k l).length ≤ l.length
  | [], k => Nat.le_refl _
  | b :: l, k => by
    have := missF_len l (k + 1)
    rw [missF]
    split
    · rw [List.length_cons]; omega
    · rw [List.length_cons, List.length_cons]; omega
theorem chkA_len {a : Asm} (h : chkA a = 0) : (a.pcs.length : Int) = a.parts ∧ (a.seen.length : Int) = a.parts ∧ 1 ≤ a.parts ∧ a.parts ≤ 65536 := by
  have : ¬ asmHd a = true := fun q => by rw [chkA_bad q] at h; cases h
  rw [asmHd_iff] at this
  omega
theorem Missing_cc (H : Hp) (V : List Nat) (a : Asm) (hl : a.pcs.length ≤ 1000000000) : CC Tryz.prog 21 [.agg (asmC a)] H V (Pu (.sl .sh 1 ((missA a).map ic)) H V) := by
  refine CC.of_swp Tryz.func21 rfl (by kernel_rfl) (by rw [Tryz.ntmps21]; exact len_le _ _ rfl) fun hok hokH => ?_
  clear hok
  refine SWp.seq (Wp.s ?_)
  simp -implicitDefEqProofs [go_sem, args0]
  refine SWp.seq (SWp.seq (Wp.s ?_))
  simp -implicitDefEqProofs [go_sem]
  refine CC.mono (Check_cc _ _ a hl) ?_
  rintro _ _ _ ⟨rfl, rfl, rfl⟩
  by_cases hc : chkA a = 0
  case neg =>
    simp -implicitDefEqProofs [go_sem, hc]
    refine Wp.s ?_
    simp -implicitDefEqProofs [go_sem, hc]
    rw [missA, if_pos hc]
    exact Fin.pu (.nil 1 (by decide)) (by simp [go_sem]) hokH (by simp) (by simp)
  obtain ⟨q1, q2, q3, q4⟩ := chkA_len hc
  have em : missA a = missF 0 a.seen := by rw [missA, if_neg (by simp [hc])]
  simp -implicitDefEqProofs [go_sem, hc]
  refine Wp.s ?_
  simp -implicitDefEqProofs [go_sem, hc]
  refine SWp.seq (Wp.s ?_)
  simp -implicitDefEqProofs [go_sem]
  refine SWp.join (α := Option Nat) (fun o => ([(3, outC o V.length 1 ((missF 0 a.seen).map ic))], H, outV V o)) (fun o => o = none → missF 0 a.seen = []) ?_ ?_
  · refine SWp.seq (Wp.s ?_)
    simp -implicitDefEqProofs [go_sem]
    refine SWp.block ?_
    refine SWp.loop (α := Nat × Option Nat) (fun x => ([(3, outC x.2 V.length 1 ((missF 0 (a.seen.take x.1)).map ic)), (10, .sl .sh 1 (a.seen.map boE)), (11, ci a.seen.length), (12, ci x.1)], H, outV V x.2)) (fun x => x.1 ≤ a.seen.length ∧ (x.2 = none → missF 0 (a.seen.take x.1) = [])) (fun x => a.seen.length - x.1) (0, none) ⟨Nat.zero_le _, fun _ => rfl⟩ (Sh.back (by simp [go_sem, missF]) (by simp) rfl (by simp [go_sem, missF]) hokH (by simp) (by simp [go_sem])) ?_
    rintro ⟨i, o⟩ ⟨hi, ho⟩
    dsimp only at hi ho ⊢
    refine SWp.seq (Wp.s ?_)
    simp -implicitDefEqProofs [go_sem]
    refine SWp.seq (Wp.s ?_)
    simp -implicitDefEqProofs [go_sem]
    refine ⟨fun h => ?_, fun h => ?_⟩
    · refine SWp.seq (SWp.block (SWp.seq (Wp.s ?_)))
      simp -implicitDefEqProofs [go_sem, h]
      refine SWp.seq (Wp.s ?_)
      cases hb : a.seen[i] with
      | true =>
        simp -implicitDefEqProofs [go_sem]
        refine Wp.s ?_
        simp -implicitDefEqProofs [go_sem]
        refine Wp.s ?_
        simp -implicitDefEqProofs [go_sem]
        refine ⟨i + 1, o, ⟨by omega, by rw [miss_t h hb]; exact ho⟩, by omega, Sh.forget ?_ rfl rfl⟩
        simp [go_sem, wrap_succ (show i ≤ 1000000000 by omega), miss_t h hb]
      | false =>
        simp -implicitDefEqProofs [go_sem]
        refine Wp.s ?_
        simp -implicitDefEqProofs [go_sem]
        cases o with
        | none =>
          have e0 := ho rfl
          simp -implicitDefEqProofs [go_sem]
          refine Wp.s ?_
          simp -implicitDefEqProofs [go_sem]
          refine ⟨i + 1, some 0, ⟨by omega, fun h => by cases h⟩, by omega, Sh.forget ?_ rfl rfl⟩
          simp [go_sem, wrap_succ (show i ≤ 1000000000 by omega), miss_f h hb, e0]
          exact .refl _
        | some v =>
          have hml := missF_len (a.seen.take i) 0
          rw [List.length_take] at hml
          simp -implicitDefEqProofs [go_sem]
          refine ⟨by omega, ?_⟩
          refine Wp.s ?_
          simp -implicitDefEqProofs [go_sem]
          refine ⟨i + 1, some (v + 1), ⟨by omega, fun h => by cases h⟩, by omega, Sh.forget ?_ rfl rfl⟩
          simp [go_sem, wrap_succ (show i ≤ 1000000000 by omega), miss_f h hb]
          exact .refl _
    · have ht : a.seen.take i = a.seen := List.take_of_length_le h
      exact ⟨o, by rw [ht] at ho; exact ho, Sh.forget (by simp [go_sem, ht]) rfl rfl⟩
  · rintro o ho
    dsimp only
    refine Wp.s ?_
    simp -implicitDefEqProofs [go_sem]
    rw [em]
    exact Fin.pu (outC_le o _ 1 _ (by decide) ho) (by simp [go_sem]) hokH (by simp) (outV_take V o)
end Go.Proofs.YtfbjhkpdlihgeaaGreat
namespace Go.Proofs.YtfbjhkpdlihgeaaGreat
open Go.Proofs
theorem flat_bo : ∀ l : List Bool, (l.map boE).flatten = l.map cbo
  | [] => rfl
  | b :: l => by rw [List.map_cons, List.flatten_cons, flat_bo l]; rfl
@[go_sem] theorem okL_bos (i j : Nat) (l : List Bool) : okL i j (l.map cbo) = True := eq_true (okL_iff.2 fun c hc => by
  obtain ⟨b, -, rfl⟩ := List.mem_map.1 hc
  rw [okV]; trivial)
@[go_sem] theorem okL_bys (i j : Nat) (l : List (List UInt8)) : okL i j (l.map cby) = True := eq_true (okL_iff.2 fun c hc => by
  obtain ⟨b, -, rfl⟩ := List.mem_map.1 hc
  simp [go_sem])
/-- A clone of flags, to be written to. -/
theorem cloneBo_cc (H : Hp) (V : List Nat) (tk : Tk) (l : List Bool) (h0 : l ≠ []) (hx : l.length ≤ 1000000000) : CC Tryz.prog 42 [.sl tk 1 (l.map boE)] H V (fun r H' V' => r = .bsl H.length 0 l.length 1 ∧ H' = H ++ [some (l.map cbo)] ∧ V = V') := by
  refine CC.of_swp Tryz.func42 rfl (by kernel_rfl) (by rw [Tryz.ntmps42]; exact len_le _ _ rfl) fun hok hokH => ?_
  clear hok
  have hne : l.map boE ≠ [] := by simpa using h0
  refine SWp.seq (Wp.s ?_)
  simp -implicitDefEqProofs [go_sem, args0]
  refine SWp.seq (SWp.seq (Wp.s ?_))
  simp -implicitDefEqProofs [go_sem, h0]
  refine Wp.s ?_
  simp -implicitDefEqProofs [go_sem, h0]
  refine SWp.seq (SWp.opx (pre := [_, _]) (post := [_]) rfl (by intro c e; cases e) ?_)
  simp -implicitDefEqProofs [go_sem]
  refine ⟨_, _, _, appbox (sz := 1) (tk := tk) (ys := l.map boE) slTy36 slTy36 rfl rfl hne (by rw [List.length_map]; omega), ?_⟩
  simp -implicitDefEqProofs [go_sem]
  refine Wp.s ?_
  simp -implicitDefEqProofs [go_sem]
  rw [show (List.map boE l).flatten = l.map cbo from flat_bo l]
  refine Fin.cut (H.length + 1) V.length ⟨rfl, rfl, rfl⟩ (Nat.le_succ _) (Nat.le_refl _) (List.take_of_length_le (by simp)) (List.take_of_length_le (Nat.le_refl _)) (.bsa _ _ _) (by simp [go_sem]) ?_
  intro b cs hb
  rw [List.getElem?_append] at hb
  split at hb
  · exact okL_mono (Nat.le_succ _) (Nat.le_refl _) (hokH b cs hb)
  · exact okH_get (i := H.length + 1) (j := V.length) (L := [some (l.map cbo)]) (by simp [go_sem, okL_bos]) _ _ hb
theorem cloneSh_cc (H : Hp) (V : List Nat) (tk : Tk) (xs : List UInt8) (hx : xs.length ≤ 1000000000) : CC Tryz.prog 43 [.sl tk 1 (bs xs)] H V (Pu (cby xs) H V) := by
  refine CC.of_swp Tryz.func43 rfl (by kernel_rfl) (by rw [Tryz.ntmps43]; exact len_le _ _ rfl) fun hok hokH => Wp.s ?_
  simp -implicitDefEqProofs [go_sem, args0]
  refine ⟨⟨by omega, ?_⟩, fun h => ?_⟩
  · exact Fin.pu (.sh ..) (by simp [go_sem]) hokH (by simp) (by simp)
  · obtain rfl : xs = [] := by simpa [bs] using h
    exact Fin.pu (.nil 1 (by decide)) (by simp [go_sem]) hokH (by simp) (by simp)
theorem equal_cc (H : Hp) (V : List Nat) (t1 t2 : Tk) (x y : List UInt8) : CC Tryz.prog 41 [.sl t1 1 (bs x), .sl t2 1 (bs y)] H V (Pu (.v (.bool (x == y))) H V) := by
  refine CC.of_swp Tryz.func41 rfl (by kernel_rfl) (by rw [Tryz.ntmps41]; exact len_le _ _ rfl) fun hok hokH => ?_
  clear hok
  refine SWp.seq (Wp.s ?_)
  simp -implicitDefEqProofs [go_sem, args0]
  refine SWp.seq (Wp.s ?_)
  simp -implicitDefEqProofs [go_sem]
  refine Wp.s ?_
  simp -implicitDefEqProofs [go_sem]
  exact Fin.bool rfl hokH (by simp) (by simp)
theorem chkA_pc {a : Asm} (h : chkA a = 0) : ∀ p ∈ a.pcs, p.length ≤ 1000000 := fun p hp => by
  obtain ⟨i, hi, rfl⟩ := List.getElem_of_mem hp
  obtain ⟨q1, q2, -, -⟩ := chkA_len h
  have hs : i < a.seen.length := by omega
  refine Classical.byContradiction fun hn => ?_
  have := pcsB_bad hi hs (badPc2 (by omega))
  rw [h] at this; cases this
theorem addA_chk {a : Asm} {b : List UInt8} (h : chkA a ≠ 0) : addA a b = .error (chkA a) := by rw [addA, if_pos h]
theorem addA_prs {a : Asm} {b : List UInt8} {e : Nat} (h : chkA a = 0) (hp : prsP b = .error e) : addA a b = .error e := by rw [addA, if_neg (by simp [h]), hp]
theorem addA_ok {a : Asm} {b r : List UInt8} {h : Hd} (hc : chkA a = 0) (hp : prsP b = .ok (h, r)) : addA a b = if h.number ≠ a.number then .error 7
    else if h.parts ≠ a.parts ∨ h.sum ≠ a.sum then .error 22
    else if a.seen.getD h.index.toNat false = true ∧ a.pcs.getD h.index.toNat [] ≠ r then .error 22
    else .ok ⟨a.number, a.parts, a.sum, a.pcs.set h.index.toNat r, a.seen.set h.index.toNat true⟩ := by rw [addA, if_neg (by simp [hc]), hp]
/-- The first pieces, then nothing. -/
def fillC (l : List (List UInt8)) (i : Nat) : List CV := (l.take i).map cby ++ List.replicate (l.length - i) nilS
@[go_sem] theorem fillC_len (l : List (List UInt8)) (i : Nat) : (fillC l i).length = l.length := by
  rw [fillC, List.length_append, List.length_map, List.length_take, List.length_replicate]; omega
theorem fillC_0 (l : List (List UInt8)) : fillC l 0 = List.replicate l.length nilS := by rw [fillC]; simp
theorem fillC_end (l : List (List UInt8)) : fillC l l.length = l.map cby := by rw [fillC]; simp
theorem fillC_step {l : List (List UInt8)} {i : Nat} (h : i < l.length) : (fillC l i).take i ++ cby l[i] :: (fillC l i).drop (i + 1) = fillC l (i + 1) := by
  have hm : ((l.take i).map cby).length = i := by rw [List.length_map, List.length_take]; omega
  unfold fillC
  rw [List.take_append_of_le_length (by omega), List.take_of_length_le (by omega), List.drop_append, hm, List.drop_of_length_le (by omega), List.nil_append, List.take_succ_eq_append_getElem h, List.map_append, List.append_assoc]
  congr 1
  rw [show l.length - i = (l.length - (i + 1)) + 1 by omega, show i + 1 - i = 1 by omega, List.replicate_succ, List.drop_succ_cons, List.drop_zero]
  rfl
@[go_sem] theorem okL_fillC (i j : Nat) (l : List (List UInt8)) (k : Nat) : okL i j (fillC l k) = True := eq_true (okL_iff.2 fun c hc => by
  unfold fillC at hc
  rcases List.mem_append.1 hc with hc | hc
  · obtain ⟨b, -, rfl⟩ := List.mem_map.1 hc
    simp [go_sem]
  · rw [List.eq_of_mem_replicate hc, okV]; trivial)
@[go_sem] theorem Kp_head (H L L' : Hp) (a : Option (List CV)) : Kp [H.length] (H ++ a :: L) (H ++ a :: L') = True := eq_true fun x hx cs h => by
  obtain rfl := List.mem_singleton.1 hx
  rw [at_len] at h ⊢
  exact h
theorem flatId : FlatEq Tryz.prog 60 [.i64, .i64, .i64] := flatEq_triple Tryz.underlying60 rfl rfl rfl rfl rfl rfl (by decide) (by decide) (by decide) Tryz.underlying3 (by kernel_rfl) (by kernel_rfl)
theorem fits3 (x y z : Int) : fits [.i64, .i64, .i64] [.v (.int .i64 x), .v (.int .i64 y), .v (.int .i64 z)] := ⟨_, _, rfl, _, _, rfl, _, _, rfl, rfl⟩
theorem Add_cc (H : Hp) (V : List Nat) (tk : Tk) (a : Asm) (b : List UInt8) (hl : a.pcs.length ≤ 1000000000) (hb : b.length ≤ 800000000) : CC Tryz.prog 18 [.agg (asmC a), .sl tk 1 (bs b)] H V (Pu (dvA (addA a b)) H V) := by
  refine CC.of_swp Tryz.func18 rfl (by kernel_rfl) (by rw [Tryz.ntmps18]; exact len_le _ _ rfl) fun hok hokH => ?_
  clear hok
  have stop : ∀ {e : Nat} {H' : Hp}, addA a b = .error e → H'.take H.length = H → Fin H.length V.length (Pu (dvA (addA a b)) H V) (.tup [.agg asmZ, er e]) H' V := fun h1 h2 => by
    rw [h1]; exact Fin.pu (.tup (.cons Le_zasm (.cons (.refl _) .nil))) (by simp [go_sem, dvA]) hokH h2 (by simp)
  refine SWp.seq (Wp.s ?_)
  simp -implicitDefEqProofs [go_sem, args0]
  refine SWp.seq (SWp.seq (Wp.s ?_))
  simp -implicitDefEqProofs [go_sem]
  refine CC.mono (Check_cc _ _ a hl) ?_
  rintro _ _ _ ⟨rfl, rfl, rfl⟩
  simp -implicitDefEqProofs [go_sem]
  by_cases hc : chkA a = 0
  case neg =>
    refine SWp.seq (Wp.s ?_)
    simp -implicitDefEqProofs [go_sem]
    refine Wp.s ?_
    simp -implicitDefEqProofs [go_sem, hc]
    exact stop (addA_chk hc) (by simp)
  refine SWp.seq (Wp.s ?_)
  simp -implicitDefEqProofs [go_sem]
  refine Wp.s ?_
  simp -implicitDefEqProofs [go_sem, hc]
  obtain ⟨q1, q2, q3, q4⟩ := chkA_len hc
  have hpl := chkA_pc hc
  refine SWp.seq (Wp.s ?_)
  simp -implicitDefEqProofs [go_sem]
  refine CC.mono (parse_cc _ _ _ b hb) ?_
  rintro _ _ _ ⟨rfl, rfl, rfl⟩
  rcases hp : prsP b with e | ⟨h, r⟩
  · have hne : e ≠ 0 := prsP_ne hp
    simp -implicitDefEqProofs [go_sem, dvH]
    refine SWp.seq (SWp.block (SWp.seq (Wp.s ?_)))
    simp -implicitDefEqProofs [go_sem]
    refine Wp.s ?_
    simp -implicitDefEqProofs [go_sem, hne]
    exact stop (addA_prs hc hp) (by simp)
  obtain ⟨o1, o2, o3, o4, o5, o6, o7, o8, o9⟩ := prsP_ok hp
  have e0 := addA_ok hc hp
  simp -implicitDefEqProofs [go_sem, dvH]
  refine SWp.join (α := Unit) (fun _ => ([(2, .ptr H.length 0), (4, .ptr (H.length + 1) 0), (7, .ptr (H.length + 2) 0), (8, cby r)], H ++ [some (asmC a), some asmZ, some (hdC h)], V)) (fun _ => h.number = a.number ∧ h.parts = a.parts ∧ h.sum = a.sum ∧ addA a b = .ok ⟨a.number, a.parts, a.sum, a.pcs.set h.index.toNat r, a.seen.set h.index.toNat true⟩) ?_ ?_
  · refine SWp.block (SWp.seq (Wp.s ?_))
    by_cases n1 : h.number = a.number
    case neg =>
      simp -implicitDefEqProofs [go_sem]
      refine Wp.s ?_
      simp -implicitDefEqProofs [go_sem, n1]
      exact stop (by rw [e0, if_pos n1]) (by simp)
    rw [if_neg (by simp [n1])] at e0
    by_cases n2 : h.parts = a.parts ∧ h.sum = a.sum
    case neg =>
      simp -implicitDefEqProofs [go_sem]
      refine Wp.s ?_
      simp -implicitDefEqProofs [go_sem, n1]
      refine ⟨_, flatId, fits3 _ _ _, fits3 _ _ _, fun hne => ?_, fun h1 h2 => absurd ⟨h1, h2⟩ n2⟩
      exact stop (by rw [e0, if_pos (by rcases Classical.em (h.parts = a.parts) with q | q; exact .inr fun q' => n2 ⟨q, q'⟩; exact .inl q)]) (by simp)
    obtain ⟨n2, n3⟩ := n2
    rw [if_neg (by simp [n2, n3])] at e0
    obtain ⟨k, hk⟩ := Int.eq_ofNat_of_zero_le o3
    have hks : k < a.seen.length := by omega
    have hkp : k < a.pcs.length := by omega
    have hkk : h.index.toNat = k := by omega
    rw [hkk, List.getD_eq_getElem?_getD, List.getD_eq_getElem?_getD, List.getElem?_eq_getElem hks, List.getElem?_eq_getElem hkp, Option.getD_some, Option.getD_some] at e0
    cases hb : a.seen[k] with
    | false =>
      rw [if_neg (by simp [hb])] at e0
      simp -implicitDefEqProofs [go_sem]
      refine Wp.s ?_
      simp -implicitDefEqProofs [go_sem, n1]
      refine ⟨_, flatId, fits3 _ _ _, fits3 _ _ _, fun hne => absurd n3 (hne n2), fun _ _ => ?_⟩
      simp -implicitDefEqProofs [go_sem, hk, hks, hb, n1, n2, n3, e0]
      exact Sh.forget (by simp [go_sem]) rfl rfl
    | true =>
      simp -implicitDefEqProofs [go_sem]
      refine Wp.s ?_
      simp -implicitDefEqProofs [go_sem, n1]
      refine ⟨_, flatId, fits3 _ _ _, fits3 _ _ _, fun hne => absurd n3 (hne n2), fun _ _ => ?_⟩
      simp -implicitDefEqProofs [go_sem, hk, hks, hkp, hb, n1, n2, n3]
      refine CC.mono (equal_cc _ _ _ _ a.pcs[k] r) ?_
      rintro _ _ _ ⟨rfl, rfl, rfl⟩
      by_cases hr : a.pcs[k] = r
      · rw [if_neg (by simp [hr])] at e0
        simp -implicitDefEqProofs [go_sem, hr, e0]
        exact Sh.forget (by simp [go_sem]) rfl rfl
      · rw [if_pos ⟨hb, hr⟩] at e0
        have hr' : (a.pcs[k] == r) = false := by simpa using hr
        simp -implicitDefEqProofs [go_sem, hr']
        exact stop e0 (by simp)
  · rintro _ ⟨n1, n2, n3, n4⟩
    dsimp only
    obtain ⟨k, hk⟩ := Int.eq_ofNat_of_zero_le o3
    obtain ⟨n, hn⟩ : ∃ n, n = a.pcs.length := ⟨_, rfl⟩
    have hpn : a.parts = (n : Int) := by omega
    have hsn : a.seen.length = n := by omega
    have hs0 : a.seen ≠ [] := fun q => by rw [q] at hsn; simp at hsn; omega
    have hkn : k < n := by omega
    rw [show h.index.toNat = k by omega] at n4
    refine SWp.seq (Wp.s ?_)
    simp -implicitDefEqProofs [go_sem]
    obtain ⟨c0, hc0⟩ : ∃ c0, c0 = List.replicate n nilS := ⟨_, rfl⟩
    refine SWp.join (α := Bool) (fun sw => if sw = true then ([(2, .ptr H.length 0), (4, .ptr (H.length + 1) 0), (7, .ptr (H.length + 2) 0), (8, cby r), (10, .ptr (H.length + 3) 0)], H ++ [some (asmC a), some asmZ, some (hdC h), some [ci a.number, ci a.parts, ci a.sum, .bsl (H.length + 4) 0 n 1, .bsl (H.length + 5) 0 n 1], some (c0), some (a.seen.map cbo)], V) else ([(2, .ptr H.length 0), (4, .ptr (H.length + 1) 0), (7, .ptr (H.length + 2) 0), (8, cby r), (10, .ptr (H.length + 3) 0)], H ++ [some (asmC a), some asmZ, some (hdC h), some [ci a.number, ci a.parts, ci a.sum, .bsl (H.length + 5) 0 n 1, .bsl (H.length + 4) 0 n 1], some (a.seen.map cbo), some (c0)], V)) (fun _ => True) ?_ ?_
    · refine SWp.drawnT [H.length] [7, 9] (.s 0 .pl <| .s 1 .pl <| .s 3 .pl <| .s 4 .ld <| .f 2 .pl (.s 6 .pl <| .f 5 .pl (.s 7 .st <| .s 8 .pl <| .s 9 .st <| .n) 7 .st (.s 5 .pl <| .s 8 .pl <| .s 9 .st <| .n)) 5 .pl (.s 2 .pl <| .s 6 .pl <| .s 7 .st <| .s 8 .pl <| .s 9 .st <| .n)) (by kernel_rfl) (by kernel_rfl) ?_
      simp -implicitDefEqProofs [go_sem, hpn, show (n : Int) ≤ 1099511627776 by omega]
      refine ⟨?_, ?_⟩
      · refine CC.mono (cloneBo_cc _ _ _ a.seen hs0 (by omega)) ?_
        rintro _ _ _ ⟨rfl, rfl, rfl⟩
        simp -implicitDefEqProofs [go_sem, hpn, show (n : Int) ≤ 1099511627776 by omega]
        refine .inl (Sh.forget (by simp [go_sem]) ?_ rfl)
        rw [hc0, hsn, asmC, hpn]
        rfl
      · refine CC.mono (cloneBo_cc _ _ _ a.seen hs0 (by omega)) ?_
        rintro _ _ _ ⟨rfl, rfl, rfl⟩
        simp -implicitDefEqProofs [go_sem, hpn]
        refine .inr (Sh.forget (by simp [go_sem]) ?_ rfl)
        rw [hc0, hsn, asmC, hpn]
        rfl
    · intro sw _
      cases sw
      · simp only [Bool.false_eq_true, if_false, if_true]
        refine SWp.join (α := Unit) (fun _ => ([(2, .ptr H.length 0), (4, .ptr (H.length + 1) 0), (7, .ptr (H.length + 2) 0), (8, cby r), (10, .ptr (H.length + 3) 0)], H ++ [some (asmC a), some asmZ, some (hdC h), some [ci a.number, ci a.parts, ci a.sum, .bsl (H.length + 5) 0 n 1, .bsl (H.length + 4) 0 n 1], some (a.seen.map cbo), some (a.pcs.map cby)], V)) (fun _ => True) ?_ ?_
        · refine SWp.seq (Wp.s ?_)
          simp -implicitDefEqProofs [go_sem]
          refine SWp.block ?_
          refine SWp.loop (α := Nat) (fun i => ([(2, .ptr H.length 0), (4, .ptr (H.length + 1) 0), (7, .ptr (H.length + 2) 0), (8, cby r), (10, .ptr (H.length + 3) 0), (79, .sl .sh 1 (a.pcs.map byE)), (80, ci a.pcs.length), (81, ci i)], H ++ [some (asmC a), some asmZ, some (hdC h), some [ci a.number, ci a.parts, ci a.sum, .bsl (H.length + 5) 0 n 1, .bsl (H.length + 4) 0 n 1], some (a.seen.map cbo), some (fillC a.pcs i)], V)) (fun i => i ≤ a.pcs.length) (fun i => a.pcs.length - i) 0 (Nat.zero_le _) (Sh.forget (by simp [go_sem]) (by rw [fillC_0, hc0, hn]) rfl) ?_
          intro i hi
          dsimp only
          refine SWp.seq (Wp.s ?_)
          simp -implicitDefEqProofs [go_sem]
          refine SWp.seq (Wp.s ?_)
          simp -implicitDefEqProofs [go_sem]
          refine ⟨fun q => ?_, fun q => Sh.forget (by simp [go_sem]) (by rw [show i = a.pcs.length by omega, fillC_end]) rfl⟩
          refine SWp.seq (SWp.block (SWp.seq (Wp.s ?_)))
          simp -implicitDefEqProofs [go_sem, q]
          refine SWp.drawnT [] [6] (.s 0 .pl <| .s 1 .pl <| .s 2 .pl <| .s 3 .pl <| .s 4 .pl <| .s 5 .pl <| .s 6 .st <| .n) (by kernel_rfl) (by kernel_rfl) ?_
          simp -implicitDefEqProofs [go_sem]
          refine CC.mono (cloneSh_cc _ _ .sh a.pcs[i] (by have := hpl _ (List.getElem_mem q); omega)) ?_
          rintro _ _ _ ⟨rfl, rfl, rfl⟩
          simp -implicitDefEqProofs [go_sem, hn, q, show i + 1 ≤ a.pcs.length by omega]
          refine Wp.s ?_
          simp -implicitDefEqProofs [go_sem]
          refine ⟨i + 1, by omega, by omega, Sh.forget ?_ ?_ rfl⟩
          · simp [go_sem, wrap_succ (show i ≤ 1000000000 by omega)]
          · rw [fillC_step q]
        · rintro _ -
          dsimp only
          refine SWp.seq (SWp.drawnT [H.length + 3, H.length + 2] [10, 12] (.s 0 .pl <| .s 1 .pl <| .s 2 .pl <| .s 3 .pl <| .s 4 .pl <| .s 5 .ld <| .s 6 .pl <| .s 7 .ld <| .s 8 .pl <| .s 9 .pl <| .s 10 .st <| .s 11 .pl <| .s 12 .st <| .n) (by kernel_rfl) (by kernel_rfl) ?_)
          simp -implicitDefEqProofs [go_sem, hk, hkn, show k + 1 ≤ n by omega, hsn, ← hn]
          refine ⟨Kp_two (by simp [go_sem]) (by simp [go_sem]), Kp_two (by simp [go_sem]) (by simp [go_sem]), ?_⟩
          refine Wp.s ?_
          simp -implicitDefEqProofs [go_sem]
          rw [n4, dvA]
          refine ⟨by decide, ?_⟩
          exact Fin.asm (b1 := H.length + 5) (b2 := H.length + 4) (by rw [at_len_add]; rfl) (by rw [set_addj, at_len_add]; rfl) (by rw [← set_cby]; exact LeL.put (.refl _) (.refl _) (by rw [List.length_map]; omega)) (by rw [← set_cbo]; exact LeL.put (.refl _) (.refl _) (by rw [List.length_map]; omega)) (by simp [← hn]; omega) (by simp [hsn]; omega) (by omega) (by omega) (by omega) hokH (by simp) (by simp) rfl rfl rfl
      · simp only [Bool.false_eq_true, if_false, if_true]
        refine SWp.join (α := Unit) (fun _ => ([(2, .ptr H.length 0), (4, .ptr (H.length + 1) 0), (7, .ptr (H.length + 2) 0), (8, cby r), (10, .ptr (H.length + 3) 0)], H ++ [some (asmC a), some asmZ, some (hdC h), some [ci a.number, ci a.parts, ci a.sum, .bsl (H.length + 4) 0 n 1, .bsl (H.length + 5) 0 n 1], some (a.pcs.map cby), some (a.seen.map cbo)], V)) (fun _ => True) ?_ ?_
        · refine SWp.seq (Wp.s ?_)
          simp -implicitDefEqProofs [go_sem]
          refine SWp.block ?_
          refine SWp.loop (α := Nat) (fun i => ([(2, .ptr H.length 0), (4, .ptr (H.length + 1) 0), (7, .ptr (H.length + 2) 0), (8, cby r), (10, .ptr (H.length + 3) 0), (79, .sl .sh 1 (a.pcs.map byE)), (80, ci a.pcs.length), (81, ci i)], H ++ [some (asmC a), some asmZ, some (hdC h), some [ci a.number, ci a.parts, ci a.sum, .bsl (H.length + 4) 0 n 1, .bsl (H.length + 5) 0 n 1], some (fillC a.pcs i), some (a.seen.map cbo)], V)) (fun i => i ≤ a.pcs.length) (fun i => a.pcs.length - i) 0 (Nat.zero_le _) (Sh.forget (by simp [go_sem]) (by rw [fillC_0, hc0, hn]) rfl) ?_
          intro i hi
          dsimp only
          refine SWp.seq (Wp.s ?_)
          simp -implicitDefEqProofs [go_sem]
          refine SWp.seq (Wp.s ?_)
          simp -implicitDefEqProofs [go_sem]
          refine ⟨fun q => ?_, fun q => Sh.forget (by simp [go_sem]) (by rw [show i = a.pcs.length by omega, fillC_end]) rfl⟩
          refine SWp.seq (SWp.block (SWp.seq (Wp.s ?_)))
          simp -implicitDefEqProofs [go_sem, q]
          refine SWp.drawnT [] [6] (.s 0 .pl <| .s 1 .pl <| .s 2 .pl <| .s 3 .pl <| .s 4 .pl <| .s 5 .pl <| .s 6 .st <| .n) (by kernel_rfl) (by kernel_rfl) ?_
          simp -implicitDefEqProofs [go_sem]
          refine CC.mono (cloneSh_cc _ _ .sh a.pcs[i] (by have := hpl _ (List.getElem_mem q); omega)) ?_
          rintro _ _ _ ⟨rfl, rfl, rfl⟩
          simp -implicitDefEqProofs [go_sem, hn, q, show i + 1 ≤ a.pcs.length by omega]
          refine Wp.s ?_
          simp -implicitDefEqProofs [go_sem]
          refine ⟨i + 1, by omega, by omega, Sh.forget ?_ ?_ rfl⟩
          · simp [go_sem, wrap_succ (show i ≤ 1000000000 by omega)]
          · rw [fillC_step q]
        · rintro _ -
          dsimp only
          refine SWp.seq (SWp.drawnT [H.length + 3, H.length + 2] [10, 12] (.s 0 .pl <| .s 1 .pl <| .s 2 .pl <| .s 3 .pl <| .s 4 .pl <| .s 5 .ld <| .s 6 .pl <| .s 7 .ld <| .s 8 .pl <| .s 9 .pl <| .s 10 .st <| .s 11 .pl <| .s 12 .st <| .n) (by kernel_rfl) (by kernel_rfl) ?_)
          simp -implicitDefEqProofs [go_sem, hk, hkn, show k + 1 ≤ n by omega, hsn, ← hn]
          refine ⟨Kp_two (by simp [go_sem]) (by simp [go_sem]), Kp_two (by simp [go_sem]) (by simp [go_sem]), ?_⟩
          refine Wp.s ?_
          simp -implicitDefEqProofs [go_sem]
          rw [n4, dvA]
          refine ⟨by decide, ?_⟩
          exact Fin.asm (b1 := H.length + 4) (b2 := H.length + 5) (by rw [at_len_add]; rfl) (by rw [set_addj, at_len_add]; rfl) (by rw [← set_cby]; exact LeL.put (.refl _) (.refl _) (by rw [List.length_map]; omega)) (by rw [← set_cbo]; exact LeL.put (.refl _) (.refl _) (by rw [List.length_map]; omega)) (by simp [← hn]; omega) (by simp [hsn]; omega) (by omega) (by omega) (by omega) hokH (by simp) (by simp) rfl rfl rfl
end Go.Proofs.YtfbjhkpdlihgeaaGreat
namespace Go.Proofs.YtfbjhkpdlihgeaaGreat
open Go.Proofs
theorem fillC_no {l : List (List UInt8)} {i : Nat} : ∀ x ∈ fillC l i, x.isObj = false := fun x hx => by
  unfold fillC at hx
  rcases List.mem_append.1 hx with hx | hx
  · obtain ⟨b, -, rfl⟩ := List.mem_map.1 hx; rfl
  · rw [List.eq_of_mem_replicate hx]; rfl
def asmB (a : Asm) (p q n : Nat) : List CV := [ci a.number, ci a.parts, ci a.sum, .bsl p 0 n 1, .bsl q 0 n 1]
theorem asm_put (a : Asm) (x y : CV) : List.take 4 (List.take 3 (asmC a) ++ x :: List.drop 4 (asmC a)) ++ y :: List.drop 5 (List.take 3 (asmC a) ++ x :: List.drop 4 (asmC a)) = [ci a.number, ci a.parts, ci a.sum, x, y] := rfl
def asmB2 (a : Asm) (p q n : Nat) : List CV := [ci a.number, ci a.parts, ci a.sum, .bsl p 0 n 1, .bsa q n 1]
end Go.Proofs.YtfbjhkpdlihgeaaGreat
namespace Go.Proofs.YtfbjhkpdlihgeaaGreat
open Go.Proofs
/-- Equal from the start up to i. -/
theorem eq_of_take {α : Type} {x y : List α} (hl : x.length = y.length) {i : Nat} (hi : x.length ≤ i) (h : x.take i = y.take i) : x = y := by
  rwa [List.take_of_length_le hi, List.take_of_length_le (by omega)] at h
theorem take_eq_succ {α : Type} {x y : List α} {i : Nat} (h1 : i < x.length) (h2 : i < y.length) (h : x.take i = y.take i) (he : x[i] = y[i]) : x.take (i + 1) = y.take (i + 1) := by
  rw [List.take_succ_eq_append_getElem h1, List.take_succ_eq_append_getElem h2, h, he]
theorem ne_at {α : Type} {x y : List α} {i : Nat} (h1 : i < x.length) (h2 : i < y.length) (he : x[i] ≠ y[i]) : x ≠ y := fun e => he (by subst e; rfl)
theorem SameInts_cc (H : Hp) (V : List Nat) (t1 t2 : Tk) (x y : List Int) (hl : x.length ≤ 1000000000) : CC Tryz.prog 20 [.sl t1 1 (x.map ic), .sl t2 1 (y.map ic)] H V (Pu (.v (.bool (decide (x = y)))) H V) := by
  refine CC.of_swp Tryz.func20 rfl (by kernel_rfl) (by rw [Tryz.ntmps20]; exact len_le _ _ rfl) fun hok hokH => ?_
  clear hok
  refine SWp.seq (Wp.s ?_)
  simp -implicitDefEqProofs [go_sem, args0]
  refine SWp.seq (SWp.seq (Wp.s ?_))
  by_cases hlen : x.length = y.length
  case neg =>
    have hlen' : ¬ (x.length : Int) = (y.length : Int) := by omega
    simp -implicitDefEqProofs [go_sem, hlen']
    refine Wp.s ?_
    simp -implicitDefEqProofs [go_sem, hlen, hlen']
    exact Fin.bool (by simp [show x ≠ y from fun e => hlen (by rw [e])]) hokH (by simp) (by simp)
  simp -implicitDefEqProofs [go_sem, hlen]
  refine Wp.s ?_
  simp -implicitDefEqProofs [go_sem, hlen]
  refine SWp.join (α := Unit) (fun _ => ([], H, V)) (fun _ => x = y) ?_ ?_
  · refine SWp.seq (Wp.s ?_)
    simp -implicitDefEqProofs [go_sem]
    refine SWp.block ?_
    refine SWp.loop (α := Nat) (fun i => ([(0, .sl t1 1 (x.map ic)), (1, .sl t2 1 (y.map ic)), (5, ci i)], H, V)) (fun i => i ≤ x.length ∧ x.take i = y.take i) (fun i => x.length - i) 0 ⟨Nat.zero_le _, rfl⟩ (Sh.forget (by simp [go_sem]) rfl rfl) ?_
    rintro i ⟨hi, hp⟩
    dsimp only
    refine SWp.seq (SWp.seq (Wp.s ?_))
    simp -implicitDefEqProofs [go_sem]
    refine Wp.s ?_
    simp -implicitDefEqProofs [go_sem]
    refine ⟨fun h => ?_, fun h => ⟨eq_of_take hlen h hp, Sh.forget (by simp [go_sem]) rfl rfl⟩⟩
    have h2 : i < y.length := by omega
    refine SWp.seq (SWp.block (SWp.seq (SWp.drawnT [] [] (.s 0 .pl <| .s 1 .pl <| .s 2 .pl <| .s 3 .pl <| .s 4 .pl <| .s 5 .pl <| .s 6 .pl <| .s 7 .pl <| .s 8 .pl <| .n) (by kernel_rfl) (by kernel_rfl) ?_)))
    by_cases he : x[i] = y[i]
    · simp -implicitDefEqProofs [go_sem, h, h2, he]
      refine Wp.s ?_
      simp -implicitDefEqProofs [go_sem]
      refine Wp.s ?_
      simp -implicitDefEqProofs [go_sem]
      refine ⟨i + 1, ⟨by omega, take_eq_succ h h2 hp he⟩, by omega, Sh.forget ?_ rfl rfl⟩
      simp [go_sem, wrap_succ (show i ≤ 1000000000 by omega)]
    · simp -implicitDefEqProofs [go_sem, h, h2, he]
      refine Wp.s ?_
      simp -implicitDefEqProofs [go_sem]
      exact Fin.bool (by simp [ne_at h h2 he]) hokH (by simp) (by simp)
  · rintro _ he
    dsimp only
    refine Wp.s ?_
    simp -implicitDefEqProofs [go_sem]
    exact Fin.bool (by simp [he]) hokH (by simp) (by simp)
end Go.Proofs.YtfbjhkpdlihgeaaGreat
namespace Go.Proofs.YtfbjhkpdlihgeaaGreat
open Go.Proofs
def few22 (l : List Wr) : Bool := (l.take 60).all (fun w => decide (w.data.length ≤ 24)) && decide (l.length ≤ 40)
theorem all_take {α : Type} {p : α → Bool} {l : List α} {i : Nat} (h : i < l.length) (h1 : (l.take i).all p = true) (h2 : p l[i] = true) : (l.take (i + 1)).all p = true := by
  rw [List.take_succ_eq_append_getElem h, List.all_append, h1]; simp [h2]
def fewS (l : List Wr) (i : Nat) : Bool := (l.take i).all (fun w => decide (w.data.length ≤ 24))
theorem few_bad {l : List Wr} {i : Nat} (h : i < l.length) (h6 : i < 60) (hb : 24 < (l[i]).data.length) : few22 l = false := by
  unfold few22
  rw [Bool.and_eq_false_iff]
  left
  rw [List.all_eq_false]
  exact ⟨l[i], List.mem_take_iff_getElem.2 ⟨i, by omega, rfl⟩, by simpa using hb⟩
theorem few_ok {l : List Wr} {i : Nat} (hi : i ≤ l.length) (h : l.length ≤ i ∨ 60 ≤ i) (h6 : i ≤ 60) (hp : fewS l i = true) : few22 l = decide (l.length ≤ 40) := by
  unfold few22
  have : l.take 60 = l.take i := by
    rcases h with h | h
    · rw [List.take_of_length_le (by omega), List.take_of_length_le (by omega)]
    · rw [show i = 60 by omega]
  rw [this]
  unfold fewS at hp
  rw [hp, Bool.true_and]
theorem few22_cc (H : Hp) (V : List Nat) (tk : Tk) (l : List Wr) : CC Tryz.prog 14 [.sl tk 3 (l.map wrC)] H V (Pu (.v (.bool (few22 l))) H V) := by
  refine CC.of_swp Tryz.func14 rfl (by kernel_rfl) (by rw [Tryz.ntmps14]; exact len_le _ _ rfl) fun hok hokH => ?_
  clear hok
  refine SWp.seq (Wp.s ?_)
  simp -implicitDefEqProofs [go_sem, args0]
  refine SWp.join (α := Unit) (fun _ => ([(0, .sl tk 3 (l.map wrC))], H, V)) (fun _ => few22 l = decide (l.length ≤ 40)) ?_ ?_
  · refine SWp.seq (Wp.s ?_)
    simp -implicitDefEqProofs [go_sem]
    refine SWp.block ?_
    refine SWp.loop (α := Nat) (fun i => ([(0, .sl tk 3 (l.map wrC)), (3, ci i)], H, V)) (fun i => i ≤ l.length ∧ i ≤ 60 ∧ fewS l i = true) (fun i => 60 - i) 0 ⟨Nat.zero_le _, by omega, rfl⟩ (Sh.forget (by simp [go_sem]) rfl rfl) ?_
    rintro i ⟨hi, h6, hp⟩
    dsimp only
    refine SWp.seq (SWp.seq (Wp.s ?_))
    by_cases h : i < l.length
    case neg =>
      have h' : ¬ (i : Int) < (l.length : Int) := by omega
      simp -implicitDefEqProofs [go_sem, h, h']
      refine Wp.s ?_
      simp -implicitDefEqProofs [go_sem, h, h']
      exact ⟨few_ok hi (.inl (by omega)) h6 hp, Sh.forget (by simp [go_sem]) rfl rfl⟩
    by_cases h60 : i < 60
    case neg =>
      have h' : ¬ (i : Int) < 60 := by omega
      simp -implicitDefEqProofs [go_sem, h, h60, h']
      refine Wp.s ?_
      simp -implicitDefEqProofs [go_sem]
      exact ⟨few_ok hi (.inr (by omega)) h6 hp, Sh.forget (by simp [go_sem]) rfl rfl⟩
    have h' : (i : Int) < 60 := by omega
    simp -implicitDefEqProofs [go_sem, h, h60, h']
    refine Wp.s ?_
    simp -implicitDefEqProofs [go_sem]
    refine SWp.seq (SWp.block (SWp.seq (Wp.s ?_)))
    by_cases hb : 24 < (l[i]).data.length
    · have hb' : 24 < ((l[i]).data.length : Int) := by omega
      simp -implicitDefEqProofs [go_sem, h, hb']
      refine Wp.s ?_
      simp -implicitDefEqProofs [go_sem]
      exact Fin.bool (few_bad h h60 hb).symm hokH (by simp) (by simp)
    · have hb' : ¬ 24 < ((l[i]).data.length : Int) := by omega
      simp -implicitDefEqProofs [go_sem, h, hb']
      refine Wp.s ?_
      simp -implicitDefEqProofs [go_sem]
      refine Wp.s ?_
      simp -implicitDefEqProofs [go_sem]
      refine ⟨i + 1, ⟨by omega, by omega, all_take h hp (by simpa using hb)⟩, by omega, Sh.forget ?_ rfl rfl⟩
      simp [go_sem, wrap_succ (show i ≤ 1000000000 by omega)]
  · rintro _ he
    dsimp only
    refine SWp.seq (Wp.s ?_)
    simp -implicitDefEqProofs [go_sem]
    refine Wp.s ?_
    simp -implicitDefEqProofs [go_sem]
    exact Fin.bool (by rw [he]; exact decide_eq_decide.2 (by omega)) hokH (by simp) (by simp)
end Go.Proofs.YtfbjhkpdlihgeaaGreat
namespace Go.Proofs.YtfbjhkpdlihgeaaGreat
open Go.Proofs
def few23 (c : Cyc) : Bool := decide (c.poss.length ≤ 40) && few22 c.wrs
theorem few23_cc (H : Hp) (V : List Nat) (c : Cyc) : CC Tryz.prog 5 [.agg (cycC c)] H V (Pu (.v (.bool (few23 c))) H V) := by
  refine CC.of_swp Tryz.func5 rfl (by kernel_rfl) (by rw [Tryz.ntmps5]; exact len_le _ _ rfl) fun hok hokH => ?_
  clear hok
  refine SWp.seq (Wp.s ?_)
  simp -implicitDefEqProofs [go_sem, args0]
  refine SWp.seq (Wp.s ?_)
  by_cases h : c.poss.length ≤ 40
  · have h' : (c.poss.length : Int) ≤ 40 := by omega
    simp -implicitDefEqProofs [go_sem, h']
    refine CC.mono (few22_cc _ _ _ c.wrs) ?_
    rintro _ _ _ ⟨rfl, rfl, rfl⟩
    simp -implicitDefEqProofs [go_sem]
    refine Wp.s ?_
    simp -implicitDefEqProofs [go_sem]
    exact Fin.bool (by simp [few23, h]) hokH (by simp) (by simp)
  · have h' : ¬ (c.poss.length : Int) ≤ 40 := by omega
    simp -implicitDefEqProofs [go_sem, h']
    refine Wp.s ?_
    simp -implicitDefEqProofs [go_sem]
    exact Fin.bool (by simp [few23, h]) hokH (by simp) (by simp)
end Go.Proofs.YtfbjhkpdlihgeaaGreat
namespace Go.Proofs.YtfbjhkpdlihgeaaGreat
open Go.Proofs
instance : DecidableEq Sec := fun a b => decidable_of_iff (a.val = b.val) ⟨fun h => by obtain ⟨x, hx⟩ := a; obtain ⟨y, hy⟩ := b; dsimp only at h; subst h; rfl, fun h => by rw [h]⟩
theorem flatSec : FlatEq Tryz.prog 85 (List.replicate 8 .u8) := by
  obtain ⟨i, hi⟩ := Option.isSome_iff_exists.1 (show (Tryz.prog.info? 5).isSome = true by kernel_rfl)
  exact flatEq_array Tryz.underlying85 hi Tryz.underlying5 (by kernel_rfl) (by kernel_rfl)
theorem fits_sec (s : Sec) : fits (List.replicate 8 .u8) (secC s) := by
  have := fits_rep .u8 (s.val.map fun b => (b.toNat : Int))
  rw [List.length_map, s.len, List.map_map] at this
  exact this
theorem secC_inj {a b : Sec} (h : secC a = secC b) : a = b := by
  obtain ⟨x, hx⟩ := a
  obtain ⟨y, hy⟩ := b
  simp only [secC] at h
  have hm : ∀ (u v : List UInt8), (u.map fun b => CV.v (.int .u8 (b.toNat : Int))) = (v.map fun b => CV.v (.int .u8 (b.toNat : Int))) → u = v := by
    intro u
    induction u with
    | nil => intro v hv; cases v; rfl; simp at hv
    | cons c u ih =>
      intro v hv
      cases v with
      | nil => simp at hv
      | cons d v =>
        simp only [List.map_cons, List.cons.injEq, CV.v.injEq, Value.int.injEq, true_and, Int.natCast_inj] at hv
        obtain ⟨h1, h2⟩ := hv
        rw [UInt8.toNat_inj.1 h1, ih v h2]
  obtain rfl := hm x y h
  rfl
theorem SameSecs_cc (H : Hp) (V : List Nat) (t1 t2 : Tk) (x y : List Sec) (hl : x.length ≤ 1000000000) : CC Tryz.prog 64 [.sl t1 8 (x.map secC), .sl t2 8 (y.map secC)] H V (Pu (.v (.bool (decide (x = y)))) H V) := by
  refine CC.of_swp Tryz.func64 rfl (by kernel_rfl) (by rw [Tryz.ntmps64]; exact len_le _ _ rfl) fun hok hokH => ?_
  clear hok
  refine SWp.seq (Wp.s ?_)
  simp -implicitDefEqProofs [go_sem, args0]
  refine SWp.seq (SWp.seq (Wp.s ?_))
  by_cases hlen : x.length = y.length
  case neg =>
    have hlen' : ¬ (x.length : Int) = (y.length : Int) := by omega
    simp -implicitDefEqProofs [go_sem, hlen']
    refine Wp.s ?_
    simp -implicitDefEqProofs [go_sem, hlen, hlen']
    exact Fin.bool (by simp [show x ≠ y from fun e => hlen (by rw [e])]) hokH (by simp) (by simp)
  simp -implicitDefEqProofs [go_sem, hlen]
  refine Wp.s ?_
  simp -implicitDefEqProofs [go_sem, hlen]
  refine SWp.join (α := Unit) (fun _ => ([], H, V)) (fun _ => x = y) ?_ ?_
  · refine SWp.seq (Wp.s ?_)
    simp -implicitDefEqProofs [go_sem]
    refine SWp.block ?_
    refine SWp.loop (α := Nat) (fun i => ([(0, .sl t1 8 (x.map secC)), (1, .sl t2 8 (y.map secC)), (5, ci i)], H, V)) (fun i => i ≤ x.length ∧ x.take i = y.take i) (fun i => x.length - i) 0 ⟨Nat.zero_le _, rfl⟩ (Sh.forget (by simp [go_sem]) rfl rfl) ?_
    rintro i ⟨hi, hp⟩
    dsimp only
    refine SWp.seq (SWp.seq (Wp.s ?_))
    simp -implicitDefEqProofs [go_sem]
    refine Wp.s ?_
    simp -implicitDefEqProofs [go_sem]
    refine ⟨fun h => ?_, fun h => ⟨eq_of_take hlen h hp, Sh.forget (by simp [go_sem]) rfl rfl⟩⟩
    have h2 : i < y.length := by omega
    refine SWp.seq (SWp.block (SWp.seq (SWp.drawnT [] [] (.s 0 .pl <| .s 1 .pl <| .s 2 .pl <| .s 3 .pl <| .s 4 .pl <| .s 5 .pl <| .s 6 .pl <| .s 7 .pl <| .s 8 .pl <| .n) (by kernel_rfl) (by kernel_rfl) ?_)))
    simp -implicitDefEqProofs [go_sem, h, h2]
    refine ⟨_, flatSec, fits_sec _, fits_sec _, fun he => ?_, fun he => ?_⟩
    · refine Wp.s ?_
      simp -implicitDefEqProofs [go_sem]
      exact Fin.bool (by simp [ne_at h h2 (fun e => he (by rw [e]))]) hokH (by simp) (by simp)
    · refine Wp.s ?_
      simp -implicitDefEqProofs [go_sem]
      refine Wp.s ?_
      simp -implicitDefEqProofs [go_sem]
      refine ⟨i + 1, ⟨by omega, take_eq_succ h h2 hp (secC_inj he)⟩, by omega, Sh.forget ?_ rfl rfl⟩
      simp [go_sem, wrap_succ (show i ≤ 1000000000 by omega)]
  · rintro _ he
    dsimp only
    refine Wp.s ?_
    simp -implicitDefEqProofs [go_sem]
    exact Fin.bool (by simp [he]) hokH (by simp) (by simp)
end Go.Proofs.YtfbjhkpdlihgeaaGreat
namespace Go.Proofs.YtfbjhkpdlihgeaaGreat
open Go.Proofs
deriving instance DecidableEq for Wr
theorem wr_ext {a b : Wr} (h1 : a.volume = b.volume) (h2 : a.start = b.start) (h3 : a.data = b.data) : a = b := by
  obtain ⟨p, q, r⟩ := a
  obtain ⟨p', q', r'⟩ := b
  simp_all
set_option maxRecDepth 20000 in
theorem SameWrs_cc (H : Hp) (V : List Nat) (t1 t2 : Tk) (x y : List Wr) (hl : x.length ≤ 1000000000) (hw : WrS x) : CC Tryz.prog 34 [.sl t1 3 (x.map wrC), .sl t2 3 (y.map wrC)] H V (Pu (.v (.bool (decide (x = y)))) H V) := by
  refine CC.of_swp Tryz.func34 rfl (by kernel_rfl) (by rw [Tryz.ntmps34]; exact len_le _ _ rfl) fun hok hokH => ?_
  clear hok
  refine SWp.seq (Wp.s ?_)
  simp -implicitDefEqProofs [go_sem, args0]
  refine SWp.seq (SWp.seq (Wp.s ?_))
  by_cases hlen : x.length = y.length
  case neg =>
    have hlen' : ¬ (x.length : Int) = (y.length : Int) := by omega
    simp -implicitDefEqProofs [go_sem, hlen']
    refine Wp.s ?_
    simp -implicitDefEqProofs [go_sem, hlen, hlen']
    exact Fin.bool (by simp [show x ≠ y from fun e => hlen (by rw [e])]) hokH (by simp) (by simp)
  simp -implicitDefEqProofs [go_sem, hlen]
  refine Wp.s ?_
  simp -implicitDefEqProofs [go_sem, hlen]
  refine SWp.join (α := Unit) (fun _ => ([], H, V)) (fun _ => x = y) ?_ ?_
  · refine SWp.seq (Wp.s ?_)
    simp -implicitDefEqProofs [go_sem]
    refine SWp.block ?_
    refine SWp.loop (α := Nat) (fun i => ([(0, .sl t1 3 (x.map wrC)), (1, .sl t2 3 (y.map wrC)), (5, ci i)], H, V)) (fun i => i ≤ x.length ∧ x.take i = y.take i) (fun i => x.length - i) 0 ⟨Nat.zero_le _, rfl⟩ (Sh.forget (by simp [go_sem]) rfl rfl) ?_
    rintro i ⟨hi, hp⟩
    dsimp only
    refine SWp.seq (SWp.seq (Wp.s ?_))
    simp -implicitDefEqProofs [go_sem]
    refine Wp.s ?_
    simp -implicitDefEqProofs [go_sem]
    refine ⟨fun h => ?_, fun h => ⟨eq_of_take hlen h hp, Sh.forget (by simp [go_sem]) rfl rfl⟩⟩
    have h2 : i < y.length := by omega
    have hwx := hw _ (List.getElem_mem h)
    refine SWp.seq (SWp.block (SWp.seq (SWp.drawnT [] [] (.s 0 .pl <| .s 1 .pl <| .s 2 .pl <| .s 3 .pl <| .s 4 .pl <| .s 5 .pl <| .s 6 .pl <| .s 7 .pl <| .s 8 .pl <| .s 9 .pl <| .s 10 .pl <| .s 11 .pl <| .s 12 .pl <| .s 13 .pl <| .s 14 .pl <| .s 15 .pl <| .s 16 .pl <| .s 17 .pl <| .s 18 .pl <| .s 19 .pl <| .s 20 .pl <| .s 21 .pl <| .s 22 .pl <| .s 23 .pl <| .s 24 .pl <| .s 25 .pl <| .s 26 .pl <| .s 27 .pl <| .s 28 .pl <| .s 29 .pl <| .s 30 .pl <| .s 31 .pl <| .s 32 .pl <| .s 33 .pl <| .s 34 .pl <| .s 35 .pl <| .s 36 .pl <| .s 37 .pl <| .n) (by kernel_rfl) (by kernel_rfl) ?_)))
    by_cases e1 : x[i].volume = y[i].volume
    case neg =>
      simp -implicitDefEqProofs [go_sem, h, h2, e1]
      refine Wp.s ?_
      simp -implicitDefEqProofs [go_sem]
      exact Fin.bool (by simp [ne_at h h2 (fun e => e1 (by rw [e]))]) hokH (by simp) (by simp)
    by_cases e2 : x[i].start = y[i].start
    case neg =>
      simp -implicitDefEqProofs [go_sem, h, h2, e1, e2]
      refine Wp.s ?_
      simp -implicitDefEqProofs [go_sem]
      exact Fin.bool (by simp [ne_at h h2 (fun e => e2 (by rw [e]))]) hokH (by simp) (by simp)
    simp -implicitDefEqProofs [go_sem, h, h2, e1, e2]
    refine CC.mono (SameSecs_cc _ _ _ _ x[i].data y[i].data (by omega)) ?_
    rintro _ _ _ ⟨rfl, rfl, rfl⟩
    by_cases e3 : x[i].data = y[i].data
    · simp -implicitDefEqProofs [go_sem, h, h2, e1, e2, e3]
      refine Wp.s ?_
      simp -implicitDefEqProofs [go_sem]
      refine Wp.s ?_
      simp -implicitDefEqProofs [go_sem]
      refine ⟨i + 1, ⟨by omega, take_eq_succ h h2 hp (wr_ext e1 e2 e3)⟩, by omega, Sh.forget ?_ rfl rfl⟩
      simp [go_sem, wrap_succ (show i ≤ 1000000000 by omega)]
    · simp -implicitDefEqProofs [go_sem, h, h2, e1, e2, e3]
      refine Wp.s ?_
      simp -implicitDefEqProofs [go_sem]
      exact Fin.bool (by simp [ne_at h h2 (fun e => e3 (by rw [e]))]) hokH (by simp) (by simp)
  · rintro _ he
    dsimp only
    refine Wp.s ?_
    simp -implicitDefEqProofs [go_sem]
    exact Fin.bool (by simp [he]) hokH (by simp) (by simp)
end Go.Proofs.YtfbjhkpdlihgeaaGreat
namespace Go.Proofs.YtfbjhkpdlihgeaaGreat
open Go.Proofs
deriving instance DecidableEq for Cyc
theorem cyc_ext {a b : Cyc} (h1 : a.base = b.base) (h2 : a.number = b.number) (h3 : a.time = b.time) (h4 : a.poss = b.poss) (h5 : a.wrs = b.wrs) : a = b := by
  obtain ⟨p, q, r, s, t⟩ := a
  obtain ⟨p', q', r', s', t'⟩ := b
  simp_all
theorem SameCyc_cc (H : Hp) (V : List Nat) (a b : Cyc) (hp : a.poss.length ≤ 1000000000) (hl : a.wrs.length ≤ 1000000000) (hw : WrS a.wrs) : CC Tryz.prog 13 [.agg (cycC a), .agg (cycC b)] H V (Pu (.v (.bool (decide (a = b)))) H V) := by
  refine CC.of_swp Tryz.func13 rfl (by kernel_rfl) (by rw [Tryz.ntmps13]; exact len_le _ _ rfl) fun hok hokH => ?_
  clear hok
  refine SWp.seq (Wp.s ?_)
  simp -implicitDefEqProofs [go_sem, args0]
  refine SWp.seq (Wp.s ?_)
  by_cases e1 : a.base = b.base
  case neg =>
    simp -implicitDefEqProofs [go_sem, e1]
    refine Wp.s ?_
    simp -implicitDefEqProofs [go_sem]
    exact Fin.bool (by simp [show a ≠ b from fun e => e1 (by rw [e])]) hokH (by simp) (by simp)
  by_cases e2 : a.number = b.number
  case neg =>
    simp -implicitDefEqProofs [go_sem, e1, e2]
    refine Wp.s ?_
    simp -implicitDefEqProofs [go_sem]
    exact Fin.bool (by simp [show a ≠ b from fun e => e2 (by rw [e])]) hokH (by simp) (by simp)
  by_cases e3 : a.time = b.time
  case neg =>
    simp -implicitDefEqProofs [go_sem, e1, e2, e3]
    refine Wp.s ?_
    simp -implicitDefEqProofs [go_sem]
    exact Fin.bool (by simp [show a ≠ b from fun e => e3 (by rw [e])]) hokH (by simp) (by simp)
  simp -implicitDefEqProofs [go_sem, e1, e2, e3]
  refine CC.mono (SameInts_cc _ _ _ _ a.poss b.poss hp) ?_
  rintro _ _ _ ⟨rfl, rfl, rfl⟩
  by_cases e4 : a.poss = b.poss
  case neg =>
    simp -implicitDefEqProofs [go_sem, e4]
    refine Wp.s ?_
    simp -implicitDefEqProofs [go_sem]
    exact Fin.bool (by simp [show a ≠ b from fun e => e4 (by rw [e])]) hokH (by simp) (by simp)
  simp -implicitDefEqProofs [go_sem, e4]
  refine CC.mono (SameWrs_cc _ _ _ _ a.wrs b.wrs hl hw) ?_
  rintro _ _ _ ⟨rfl, rfl, rfl⟩
  by_cases e5 : a.wrs = b.wrs
  · simp -implicitDefEqProofs [go_sem, e5]
    refine Wp.s ?_
    simp -implicitDefEqProofs [go_sem]
    exact Fin.bool (by simp [cyc_ext e1 e2 e3 e4 e5]) hokH (by simp) (by simp)
  · simp -implicitDefEqProofs [go_sem, e5]
    refine Wp.s ?_
    simp -implicitDefEqProofs [go_sem]
    exact Fin.bool (by simp [show a ≠ b from fun e => e5 (by rw [e])]) hokH (by simp) (by simp)
end Go.Proofs.YtfbjhkpdlihgeaaGreat
namespace Go.Proofs.YtfbjhkpdlihgeaaGreat
open Go.Proofs
deriving instance DecidableEq for Asm
theorem asm_ext {a b : Asm} (h1 : a.number = b.number) (h2 : a.parts = b.parts) (h3 : a.sum = b.sum) (h4 : a.pcs = b.pcs) (h5 : a.seen = b.seen) : a = b := by
  obtain ⟨p, q, r, s, t⟩ := a
  obtain ⟨p', q', r', s', t'⟩ := b
  simp_all
end Go.Proofs.YtfbjhkpdlihgeaaGreat
namespace Go.Proofs.YtfbjhkpdlihgeaaGreat
open Go.Proofs
/-- What is sent ahead of a piece. -/
def encHd (h : Hd) : List UInt8 := enc h.number ++ enc h.index ++ enc h.parts ++ enc h.sum
theorem put_cc (H : Hp) (V : List Nat) (h : Hd) : CC Tryz.prog 24 [.agg (hdC h)] H V (Fr 1 (bs (encHd h)) H V) := by
  refine CC.of_swp Tryz.func24 rfl (by kernel_rfl) (by rw [Tryz.ntmps24]; exact len_le _ _ rfl) fun hok hokH => ?_
  clear hok
  refine SWp.seq (Wp.s ?_)
  simp -implicitDefEqProofs [go_sem, args0]
  refine SWp.seq (Wp.s ?_)
  simp -implicitDefEqProofs [go_sem]
  obtain ⟨l4, hl4⟩ : ∃ l4 : List Int, l4 = [h.number, h.index, h.parts, h.sum] := ⟨_, rfl⟩
  have hl4l : l4.length = 4 := by rw [hl4]; rfl
  have el : l4.flatMap enc = encHd h := by rw [hl4, encHd]; simp
  refine SWp.join (α := Nat) (fun v => ([(3, .sl (.own V.length v) 1 (bs (encHd h)))], H, V ++ [v])) (fun _ => True) ?_ ?_
  · refine SWp.seq (Wp.s ?_)
    simp -implicitDefEqProofs [go_sem]
    refine SWp.block ?_
    refine SWp.loop (α := Nat × Nat) (fun x => if x.1 = 4 then ([(18, ci 4), (19, ci 4), (3, .sl (.own V.length x.2) 1 (bs (encHd h)))], H, V ++ [x.2]) else ([(17, .sl .ti 1 (l4.map ic)), (18, ci 4), (19, ci x.1), (3, .sl .sh 1 (bs ((l4.take x.1).flatMap enc)))], H, V)) (fun x => x.1 ≤ 4) (fun x => 4 - x.1) (0, 0) (by simp) (Sh.back (by subst hl4; simp [go_sem]; exact ⟨.refl _, .nil 1 (by decide)⟩) rfl rfl (by simp [go_sem, okE_ints]) hokH (by simp) (by simp)) ?_
    rintro ⟨i, v⟩ hi
    dsimp only at hi ⊢
    by_cases h4 : i = 4
    · subst h4
      simp only [if_true]
      refine SWp.seq (Wp.s ?_)
      simp -implicitDefEqProofs [go_sem]
      refine SWp.seq (Wp.s ?_)
      simp -implicitDefEqProofs [go_sem]
      exact ⟨v, Sh.forget (by simp [go_sem]) rfl rfl⟩
    · simp only [h4, if_false]
      have hlen := flat_len (f := enc) enc_len (l4.take i)
      rw [List.length_take] at hlen
      have h' : i < l4.length := by omega
      refine SWp.seq (Wp.s ?_)
      simp -implicitDefEqProofs [go_sem]
      refine SWp.seq (Wp.s ?_)
      simp -implicitDefEqProofs [go_sem, show (i : Int) < 4 by omega]
      refine SWp.seq (SWp.block (SWp.seq (Wp.s ?_)))
      simp -implicitDefEqProofs [go_sem, h']
      refine Wp.s ?_
      simp -implicitDefEqProofs [go_sem]
      refine CC.mono (PutInt_cc _ _ _ _ _ (by omega)) ?_
      rintro _ _ _ ⟨v, rfl, rfl, rfl⟩
      simp -implicitDefEqProofs [go_sem]
      refine Wp.s ?_
      simp -implicitDefEqProofs [go_sem]
      by_cases h3 : i = 3
      · refine ⟨4, by omega, by omega, v, Sh.forget ?_ rfl rfl⟩
        have e3 : (l4.take 3).flatMap enc ++ enc l4[3] = encHd h := by rw [← el, ← flat_take (f := enc) (show 3 < l4.length by omega), List.take_of_length_le (by omega)]
        subst h3
        simp [go_sem, show IntKind.i64.wrap 4 = 4 from rfl, e3]
      · refine ⟨i + 1, by omega, by omega, v, ?_⟩
        rw [if_neg (by omega)]
        refine Sh.back ?_ rfl rfl (by simp [go_sem, okE_ints]) hokH (by simp) (by simp)
        simp [go_sem, wrap_succ (show i ≤ 1000000000 by omega), flat_take h']
  · rintro v -
    dsimp only
    refine Wp.s ?_
    simp -implicitDefEqProofs [go_sem]
    exact Fin.freshB rfl hokH (by simp)
end Go.Proofs.YtfbjhkpdlihgeaaGreat
namespace Go.Proofs.YtfbjhkpdlihgeaaGreat
open Go.Proofs
def exSec (b : UInt8) : Sec := ⟨b :: List.replicate 7 0, rfl⟩
def exC : Cyc := ⟨0, 1, 0, [1], [⟨0, 1, [exSec 1, exSec 2]⟩]⟩
theorem example_cc (H : Hp) (V : List Nat)  : CC Tryz.prog 16 [] H V (Pu (.agg (cycC exC)) H V) := by
  refine CC.of_swp Tryz.func16 rfl (by kernel_rfl) (by rw [Tryz.ntmps16]; exact len_le _ _ rfl) fun hok hokH => ?_
  clear hok
  refine SWp.seq (Wp.s ?_)
  simp -implicitDefEqProofs [go_sem, args0]
  refine Wp.s ?_
  simp -implicitDefEqProofs [go_sem]
  exact Fin.pu (.agg (.cons (.refl _) (.cons (.refl _) (.cons (.refl _) (.cons (.sle _ _ (.cons (.cons (.refl _) .nil) .nil)) (.cons (.sle _ _ (.cons (.cons (.refl _) (.cons (.refl _) (.cons (.sh ..) .nil))) .nil)) .nil)))))) (by simp [go_sem]) hokH (by simp) (by simp)
end Go.Proofs.YtfbjhkpdlihgeaaGreat
namespace Go.Proofs.YtfbjhkpdlihgeaaGreat
open Go.Proofs
/-- What a law takes from few: few pieces. -/
def FewR (a : Asm) (H : Hp) (V : List Nat) : CV → Hp → List Nat → Prop := fun r H' V' => ∃ b : Bool, r = .v (.bool b) ∧ (b = true → a.pcs.length ≤ 60 ∧ a.seen.length ≤ 60) ∧ H = H' ∧ V = V'
theorem Fin.few {a : Asm} {b : Bool} {H H' : Hp} {V V' : List Nat} (h : b = true → a.pcs.length ≤ 60 ∧ a.seen.length ≤ 60) (hokH : ∀ (b : Nat) cs, H[b]? = some (some cs) → okL H.length V.length cs) (hH : H'.take H.length = H) (hV : V'.take V.length = V) : Fin H.length V.length (FewR a H V) (.v (.bool b)) H' V' :=
  Fin.pure ⟨b, rfl, h, rfl, rfl⟩ hH hV (.refl _) trivial hokH
theorem few_cc (H : Hp) (V : List Nat) (a : Asm) : CC Tryz.prog 10 [.agg (asmC a)] H V (FewR a H V) := by
  refine CC.of_swp Tryz.func10 rfl (by kernel_rfl) (by rw [Tryz.ntmps10]; exact len_le _ _ rfl) fun hok hokH => ?_
  clear hok
  refine SWp.seq (Wp.s ?_)
  simp -implicitDefEqProofs [go_sem, args0]
  refine SWp.seq (Wp.s ?_)
  simp -implicitDefEqProofs [go_sem]
  refine SWp.join (α := Int) (fun n => ([(1, .ptr H.length 0), (3, ci n)], H ++ [some (asmC a)], V)) (fun _ => True) ?_ ?_
  · refine SWp.seq (Wp.s ?_)
    simp -implicitDefEqProofs [go_sem]
    refine SWp.block ?_
    refine SWp.loop (α := Nat × Int) (fun x => ([(1, .ptr H.length 0), (3, ci x.2), (4, ci x.1)], H ++ [some (asmC a)], V)) (fun x => x.1 ≤ 60) (fun x => 60 - x.1) (0, 0) (by omega) (Sh.forget (by simp [go_sem]) rfl rfl) ?_
    rintro ⟨i, n⟩ hi
    dsimp only at hi ⊢
    refine SWp.seq (SWp.seq (Wp.s ?_))
    by_cases h : i < a.pcs.length
    case neg =>
      simp -implicitDefEqProofs [go_sem, h, show ¬ (i : Int) < (a.pcs.length : Int) by omega]
      refine Wp.s ?_
      simp -implicitDefEqProofs [go_sem]
      exact ⟨n, Sh.forget (by simp [go_sem]) rfl rfl⟩
    by_cases h60 : i < 60
    case neg =>
      simp -implicitDefEqProofs [go_sem, h, h60, show ¬ (i : Int) < 60 by omega]
      refine Wp.s ?_
      simp -implicitDefEqProofs [go_sem]
      exact ⟨n, Sh.forget (by simp [go_sem]) rfl rfl⟩
    simp -implicitDefEqProofs [go_sem, h, h60, show (i : Int) < 60 by omega]
    refine Wp.s ?_
    simp -implicitDefEqProofs [go_sem]
    refine SWp.seq (SWp.block (Wp.s ?_))
    simp -implicitDefEqProofs [go_sem, h]
    refine Wp.s ?_
    simp -implicitDefEqProofs [go_sem]
    refine ⟨i + 1, by omega, by omega, IntKind.i64.wrap (n + (a.pcs[i].length : Int)), Sh.forget ?_ rfl rfl⟩
    simp [go_sem, wrap_succ (show i ≤ 1000000000 by omega)]
  · rintro n -
    dsimp only
    refine SWp.seq (Wp.s ?_)
    by_cases c1 : (a.pcs.length : Int) ≤ 60
    · by_cases c2 : (a.seen.length : Int) ≤ 60
      · simp -implicitDefEqProofs [go_sem, c1, c2]
        refine Wp.s ?_
        simp -implicitDefEqProofs [go_sem]
        exact Fin.few (fun _ => ⟨by omega, by omega⟩) hokH (by simp) (by simp)
      · simp -implicitDefEqProofs [go_sem, c1, c2]
        refine Wp.s ?_
        simp -implicitDefEqProofs [go_sem]
        exact Fin.few (fun h => by cases h) hokH (by simp) (by simp)
    · simp -implicitDefEqProofs [go_sem, c1]
      refine Wp.s ?_
      simp -implicitDefEqProofs [go_sem]
      exact Fin.few (fun h => by cases h) hokH (by simp) (by simp)
end Go.Proofs.YtfbjhkpdlihgeaaGreat
namespace Go.Proofs.YtfbjhkpdlihgeaaGreat
open Go.Proofs
/-- A part more. -/
def stA (x : Asm × Bool) (p : List UInt8) : Asm × Bool := if x.2 = true then (match addA x.1 p with | .ok a => (a, true) | .error _ => (zasm, false)) else x
def stB (p : List UInt8) : Asm × Bool := match begA p with | .ok a => (a, true) | .error _ => (zasm, false)
def pickP (l : List (List UInt8)) (o : UInt8) : List UInt8 := l.getD (o.toNat % l.length) []
def gatP (l : List (List UInt8)) (o : List UInt8) : Asm × Bool :=
  if l = [] then (zasm, false) else (o.map (pickP l) ++ l.reverse).foldl stA (stB (match o with | [] => l.getD 0 [] | x :: _ => pickP l x))
theorem begA_pcs {p : List UInt8} {a : Asm} (h : begA p = .ok a) : a.pcs.length ≤ 65536 := by
  unfold begA at h
  rcases hp : prsP p with e | ⟨q, r⟩
  · rw [hp] at h; cases h
  · obtain ⟨o1, o2, o3, o4, o5, o6, o7, o8, o9⟩ := prsP_ok hp
    rw [hp] at h; cases h
    simp only [List.length_set, List.length_replicate]
    omega
theorem addA_pcs {x a : Asm} {p : List UInt8} (h : addA x p = .ok a) : a.pcs.length = x.pcs.length := by
  unfold addA at h
  split at h
  · cases h
  rcases hp : prsP p with e | ⟨q, r⟩
  · rw [hp] at h; cases h
  · rw [hp] at h
    dsimp only at h
    repeat' split at h
    all_goals cases h
    simp
theorem stB_pcs (p : List UInt8) : (stB p).1.pcs.length ≤ 65536 := by
  unfold stB
  split
  · rename_i h; exact begA_pcs h
  · exact Nat.zero_le _
theorem stA_pcs {x : Asm × Bool} (p : List UInt8) (h : x.1.pcs.length ≤ 65536) : (stA x p).1.pcs.length ≤ 65536 := by
  unfold stA
  split
  · split
    · rename_i q; rw [addA_pcs q]; exact h
    · exact Nat.zero_le _
  · exact h
theorem stA_false {x : Asm × Bool} (h : x.2 = false) : ∀ ps : List (List UInt8), ps.foldl stA x = x
  | [] => rfl
  | p :: ps => by
    have : stA x p = x := by unfold stA; rw [if_neg (by simp [h])]
    rw [List.foldl_cons, this, stA_false h ps]
theorem fold_pcs : ∀ (ps : List (List UInt8)) {x : Asm × Bool}, x.1.pcs.length ≤ 65536 → (ps.foldl stA x).1.pcs.length ≤ 65536
  | [], _, h => h
  | p :: ps, x, h => fold_pcs ps (stA_pcs p h)
theorem stA_ok {x : Asm × Bool} {p : List UInt8} {a : Asm} (h : x.2 = true) (ha : addA x.1 p = .ok a) : stA x p = (a, true) := by
  unfold stA; rw [if_pos h, ha]
theorem stA_err {x : Asm × Bool} {p : List UInt8} {e : Nat} (h : x.2 = true) (ha : addA x.1 p = .error e) : stA x p = (zasm, false) := by
  unfold stA; rw [if_pos h, ha]
theorem addA_ne {a : Asm} {p : List UInt8} {e : Nat} (h : addA a p = .error e) : e ≠ 0 := by
  unfold addA at h
  split at h
  · rename_i q; cases h; exact q
  rcases hp : prsP p with e' | ⟨q, r⟩
  · rw [hp] at h; cases h; exact prsP_ne hp
  · rw [hp] at h
    dsimp only at h
    repeat' split at h
    all_goals cases h
    all_goals decide
theorem begA_ne {p : List UInt8} {e : Nat} (h : begA p = .error e) : e ≠ 0 := by
  unfold begA at h
  rcases hp : prsP p with e' | ⟨q, r⟩
  · rw [hp] at h; cases h; exact prsP_ne hp
  · rw [hp] at h; cases h
def firI (l : List (List UInt8)) : List UInt8 → Nat
  | [] => 0
  | x :: _ => x.toNat % l.length
theorem firI_lt {l : List (List UInt8)} (h : 0 < l.length) (o : List UInt8) : firI l o < l.length := by
  cases o
  · exact h
  · exact Nat.mod_lt _ h
theorem rem8 (x : UInt8) (n : Nat) : (IntKind.i64.wrap (x.toNat : Int)).tmod (n : Int) = ((x.toNat % n : Nat) : Int) := by
  have := x.toNat_lt
  rw [IntWalk.i64_in _ ⟨by omega, by omega⟩, Int.tmod_eq_emod_of_nonneg (by omega)]; omega
@[go_sem] theorem asmZ_len : asmZ.length = 5 := rfl
@[go_sem] theorem asmZ_drop5 : asmZ.drop 5 = [] := rfl
@[go_sem, simp] theorem asmC_drop5 (a : Asm) : (asmC a).drop 5 = [] := rfl
/-- The first of the numbers taken. -/
def gatF (l : List (List UInt8)) (o : List UInt8) (x : Asm × Bool) (i : Nat) : Asm × Bool := ((o.take i).map (pickP l)).foldl stA x
theorem gatF_all {l : List (List UInt8)} {o : List UInt8} {x : Asm × Bool} {i : Nat} (h : o.length ≤ i) : (o.map (pickP l)).foldl stA x = gatF l o x i := by
  rw [gatF, List.take_of_length_le h]
theorem gatF_no {l : List (List UInt8)} {o : List UInt8} {x : Asm × Bool} {i : Nat} (h : (gatF l o x i).2 = false) : (o.map (pickP l)).foldl stA x = gatF l o x i := by
  conv => lhs; rw [← List.take_append_drop i o, List.map_append, List.foldl_append]
  exact stA_false h _
theorem gatF_step {l : List (List UInt8)} {o : List UInt8} {x : Asm × Bool} {i : Nat} (h : i < o.length) : gatF l o x (i + 1) = stA (gatF l o x i) (pickP l o[i]) := by
  unfold gatF
  rw [List.take_succ_eq_append_getElem h, List.map_append, List.foldl_append]; rfl
def gatR (l : List (List UInt8)) (y : Asm × Bool) (n : Nat) : Asm × Bool := (l.reverse.take n).foldl stA y
theorem gatR_all {l : List (List UInt8)} {y : Asm × Bool} {n : Nat} (h : l.length ≤ n) : l.reverse.foldl stA y = gatR l y n := by
  rw [gatR, List.take_of_length_le (by simpa using h)]
theorem gatR_no {l : List (List UInt8)} {y : Asm × Bool} {n : Nat} (h : (gatR l y n).2 = false) : l.reverse.foldl stA y = gatR l y n := by
  conv => lhs; rw [← List.take_append_drop n l.reverse, List.foldl_append]
  exact stA_false h _
theorem gatR_step {l : List (List UInt8)} {y : Asm × Bool} {n : Nat} (h : n < l.length) : gatR l y (n + 1) = stA (gatR l y n) l[l.length - 1 - n] := by
  unfold gatR
  rw [List.take_succ_eq_append_getElem (by simpa using h), List.foldl_append, List.getElem_reverse]; rfl
end Go.Proofs.YtfbjhkpdlihgeaaGreat
namespace Go.Proofs.YtfbjhkpdlihgeaaGreat
open Go.Proofs
def gapB (l : List Bool) : Bool := l.contains false
def gapT (l : List Bool) (i : Nat) : Bool := (l.take i).contains false
theorem gapT_step {l : List Bool} {i : Nat} (h : i < l.length) (h1 : gapT l i = false) (h2 : l[i] = true) : gapT l (i + 1) = false := by
  unfold gapT at *
  rw [List.take_succ_eq_append_getElem h, h2, Bool.eq_false_iff]
  rw [Bool.eq_false_iff] at h1
  simpa using h1
theorem gapB_at {l : List Bool} {i : Nat} (h : i < l.length) (h2 : l[i] = false) : gapB l = true := List.contains_iff_mem.2 (h2 ▸ List.getElem_mem h)
theorem gapB_all {l : List Bool} {i : Nat} (h : l.length ≤ i) (h1 : gapT l i = false) : gapB l = false := by
  unfold gapT at h1; rwa [List.take_of_length_le h] at h1
theorem indexBo_cc (H : Hp) (V : List Nat) (tk : Tk) (l : List Bool) (hl : l.length ≤ 1000000000) : CC Tryz.prog 52 [.sl tk 1 (l.map boE), .v (.bool false)] H V (Ix (gapB l) H V) := by
  refine CC.of_swp Tryz.func52 rfl (by kernel_rfl) (by rw [Tryz.ntmps52]; exact len_le _ _ rfl) fun hok hokH => ?_
  clear hok
  refine SWp.seq (Wp.s ?_)
  simp -implicitDefEqProofs [go_sem, args0]
  refine SWp.join (α := Unit) (fun _ => ([], H, V)) (fun _ => gapB l = false) ?_ ?_
  · refine SWp.seq (Wp.s ?_)
    simp -implicitDefEqProofs [go_sem]
    refine SWp.block ?_
    refine SWp.loop (α := Nat) (fun i => ([(0, .sl tk 1 (l.map boE)), (1, .v (.bool false)), (7, ci l.length), (8, ci i)], H, V)) (fun i => i ≤ l.length ∧ gapT l i = false) (fun i => l.length - i) 0 ⟨Nat.zero_le _, rfl⟩
      (Sh.forget (by simp [go_sem]) rfl rfl) ?_
    rintro i ⟨hi, hp⟩
    dsimp only
    refine SWp.seq (Wp.s ?_)
    simp -implicitDefEqProofs [go_sem]
    refine SWp.seq (Wp.s ?_)
    simp -implicitDefEqProofs [go_sem]
    refine ⟨fun h => ?_, fun h => ⟨gapB_all h hp, Sh.forget (by simp [go_sem]) rfl rfl⟩⟩
    · refine SWp.seq (SWp.block (SWp.seq (Wp.s ?_)))
      simp -implicitDefEqProofs [go_sem, h]
      refine SWp.seq (Wp.s ?_)
      cases hq : l[i]
      · simp -implicitDefEqProofs [go_sem, h, hq]
        refine Wp.s ?_
        simp -implicitDefEqProofs [go_sem]
        exact Fin.ix (by rw [decide_eq_true (by omega)]; exact (gapB_at h hq).symm) hokH (by simp) (by simp)
      · simp -implicitDefEqProofs [go_sem, h, hq]
        refine Wp.s ?_
        simp -implicitDefEqProofs [go_sem]
        refine Wp.s ?_
        simp -implicitDefEqProofs [go_sem]
        refine ⟨i + 1, ⟨by omega, gapT_step h hp hq⟩, by omega, Sh.forget ?_ rfl rfl⟩
        simp [go_sem, wrap_big (show i < 9223372036854775807 by omega)]
  · rintro _ hp
    dsimp only
    refine SWp.seq (Wp.s ?_)
    simp -implicitDefEqProofs [go_sem]
    refine Wp.s ?_
    simp -implicitDefEqProofs [go_sem]
    exact Fin.ix (by rw [hp]; rfl) hokH (by simp) (by simp)
theorem containsBo_cc (H : Hp) (V : List Nat) (tk : Tk) (l : List Bool) (hl : l.length ≤ 1000000000) : CC Tryz.prog 29 [.sl tk 1 (l.map boE), .v (.bool false)] H V (Pu (.v (.bool (gapB l))) H V) := by
  refine CC.of_swp Tryz.func29 rfl (by kernel_rfl) (by rw [Tryz.ntmps29]; exact len_le _ _ rfl) fun hok hokH => ?_
  clear hok
  refine SWp.seq (Wp.s ?_)
  simp -implicitDefEqProofs [go_sem, args0]
  refine SWp.seq (Wp.s ?_)
  simp -implicitDefEqProofs [go_sem]
  refine CC.mono (indexBo_cc _ _ _ l hl) ?_
  rintro _ _ _ ⟨k, rfl, hk, rfl, rfl⟩
  simp -implicitDefEqProofs [go_sem]
  refine Wp.s ?_
  simp -implicitDefEqProofs [go_sem]
  exact Fin.bool hk hokH (by simp) (by simp)
theorem zc5 : zcTy Tryz.prog 5 = some [.int .u8 0] := by kernel_rfl
theorem growBy_cc (H : Hp) (V : List Nat) (n : Nat) (hn : n ≤ 1000000000) : CC Tryz.prog 53 [.v (.slice none 0 0), ci n] H V (Fr 1 [] H V) := by
  refine CC.of_swp Tryz.func53 rfl (by kernel_rfl) (by rw [Tryz.ntmps53]; exact len_le _ _ rfl) fun hok hokH => ?_
  clear hok
  refine SWp.seq (Wp.s ?_)
  simp -implicitDefEqProofs [go_sem, args0]
  refine SWp.seq (Wp.s ?_)
  simp -implicitDefEqProofs [go_sem, show ¬ (n : Int) < 0 by omega]
  refine SWp.seq (SWp.seq ?_)
  refine SWp.opx (pre := [_, _]) (post := [_, _, _, _, _]) rfl (by intro c e; cases e) ?_
  simp -implicitDefEqProofs [go_sem]
  refine ⟨_, _, _, capnil (by rfl) (by rw [slTy46]; rfl), ?_⟩
  have w0 : IntKind.i64.wrap 0 = 0 := rfl
  have wn : IntKind.i64.wrap (n : Int) = n := IntWalk.i64_in _ ⟨by omega, by omega⟩
  simp -implicitDefEqProofs [go_sem, w0, wn]
  refine SWp.seq (Wp.s ?_)
  rcases Nat.eq_zero_or_pos n with rfl | h0
  · simp -implicitDefEqProofs [go_sem, w0]
    refine Wp.s ?_
    simp -implicitDefEqProofs [go_sem]
    refine SWp.seq (Wp.s ?_)
    simp -implicitDefEqProofs [go_sem]
    refine Wp.s ?_
    simp -implicitDefEqProofs [go_sem]
    exact Fin.frtok (by decide) (.inl ⟨rfl, rfl⟩) (by simp [go_sem]) hokH (by simp) (by simp)
  · have h0' : (0 : Int) < n := by omega
    simp -implicitDefEqProofs [go_sem, h0]
    refine SWp.condT rfl ?_
    refine SWp.mw (MW.app (mid := [_, _, _, _, _]) (mid2 := [_, _, _, _, _]) ?_)
    refine MW.app (mid := [_, _]) (mid2 := [_, _, _]) (MW.crun ?_)
    simp -implicitDefEqProofs [go_sem]
    refine MW.app (mid := [_]) (mid2 := [_, _]) (MW.opx rfl (by intro c e; cases e) (by simp [dOk]) (capnil (by rfl) (by rw [slTy46]; rfl)) (MW.crun ?_))
    simp -implicitDefEqProofs [go_sem]
    refine MW.app (mid := [_, _, _, _]) (mid2 := [_]) (MW.room (N := n) (k0 := 0) slTy46 (by kernel_rfl) zc5 rfl rfl rfl (by omega) (by omega) (by decide) (by decide) (MW.crun ?_))
    simp -implicitDefEqProofs [go_sem]
    refine SWp.seq (Wp.s ?_)
    simp -implicitDefEqProofs [go_sem]
    refine Wp.s ?_
    simp -implicitDefEqProofs [go_sem]
    exact Fin.fresh rfl (by simp [go_sem]) hokH (by simp)
theorem flt_take {α : Type} {l : List (List α)} {i : Nat} (h : i < l.length) : (l.take (i + 1)).flatten = (l.take i).flatten ++ l[i] := by
  rw [List.take_succ_eq_append_getElem h, List.flatten_append]; simp
theorem flt_le {α : Type} (l : List (List α)) (i : Nat) : (l.take i).flatten.length ≤ l.flatten.length := by
  conv => rhs; rw [← List.take_append_drop i l, List.flatten_append, List.length_append]
  omega
def catP (l : List (List UInt8)) : List UInt8 := l.flatten
def ftk (l : List (List UInt8)) (i : Nat) : List UInt8 := (l.take i).flatten
theorem ftk_len {l : List (List UInt8)} {i : Nat} (h : i < l.length) : (ftk l (i + 1)).length = (ftk l i).length + l[i].length := by
  unfold ftk; rw [flt_take h, List.length_append]
theorem ftk_step {l : List (List UInt8)} {i : Nat} (h : i < l.length) : ftk l i ++ l[i] = ftk l (i + 1) := by
  unfold ftk; rw [flt_take h]
theorem ftk_le (l : List (List UInt8)) (i : Nat) : (ftk l i).length ≤ (catP l).length := flt_le l i
theorem ftk_all {l : List (List UInt8)} {i : Nat} (h : l.length ≤ i) : ftk l i = catP l := by unfold ftk; rw [List.take_of_length_le h]; rfl
theorem concat_cc (H : Hp) (V : List Nat) (tk : Tk) (l : List (List UInt8)) (hl : l.length ≤ 1000000000) (hf : (catP l).length ≤ 1000000000) : CC Tryz.prog 30 [.sl tk 1 (l.map byE)] H V (Fr 1 (bs (catP l)) H V) := by
  refine CC.of_swp Tryz.func30 rfl (by kernel_rfl) (by rw [Tryz.ntmps30]; exact len_le _ _ rfl) fun hok hokH => ?_
  clear hok
  refine SWp.seq (Wp.s ?_)
  simp -implicitDefEqProofs [go_sem, args0]
  refine SWp.seq (Wp.s ?_)
  simp -implicitDefEqProofs [go_sem]
  refine SWp.join (α := Unit) (fun _ => ([(0, .sl tk 1 (l.map byE)), (3, ci (catP l).length)], H, V)) (fun _ => True) ?_ ?_
  · refine SWp.seq (Wp.s ?_)
    simp -implicitDefEqProofs [go_sem]
    refine SWp.block ?_
    refine SWp.loop (α := Nat) (fun i => ([(0, .sl tk 1 (l.map byE)), (9, .sl tk 1 (l.map byE)), (10, ci l.length), (11, ci i), (3, ci (ftk l i).length)], H, V)) (fun i => i ≤ l.length) (fun i => l.length - i) 0 (Nat.zero_le _) (Sh.forget (by simp [go_sem, ftk]) rfl rfl) ?_
    intro i hi
    dsimp only
    refine SWp.seq (Wp.s ?_)
    simp -implicitDefEqProofs [go_sem]
    refine SWp.seq (Wp.s ?_)
    simp -implicitDefEqProofs [go_sem]
    refine ⟨fun h => ?_, fun h => Sh.forget (by simp [go_sem, ftk_all h]) rfl rfl⟩
    have q1 := ftk_len h
    have q2 := ftk_le l (i + 1)
    refine SWp.seq (SWp.block (SWp.seq (Wp.s ?_)))
    simp -implicitDefEqProofs [go_sem, h]
    have w1 : IntKind.i64.wrap (((ftk l i).length : Int) + (l[i].length : Int)) = ((ftk l (i + 1)).length : Int) := by rw [IntWalk.i64_in _ ⟨by omega, by omega⟩]; omega
    refine SWp.seq (Wp.s ?_)
    simp -implicitDefEqProofs [go_sem, w1]
    refine SWp.seq (Wp.s ?_)
    simp -implicitDefEqProofs [go_sem, show ¬ ((ftk l (i + 1)).length : Int) < 0 by omega]
    refine Wp.s ?_
    simp -implicitDefEqProofs [go_sem]
    refine Wp.s ?_
    simp -implicitDefEqProofs [go_sem]
    refine ⟨i + 1, by omega, by omega, Sh.forget ?_ rfl rfl⟩
    simp [go_sem, wrap_big (show i < 9223372036854775807 by omega)]
  · rintro _ -
    dsimp only
    refine SWp.seq (Wp.s ?_)
    simp -implicitDefEqProofs [go_sem]
    refine CC.mono (growBy_cc _ _ _ hf) ?_
    rintro _ _ _ ⟨v, rfl, rfl, rfl⟩
    simp -implicitDefEqProofs [go_sem]
    refine SWp.join (α := Nat) (fun v => ([(6, .sl (.own V.length v) 1 (bs (catP l)))], H, V ++ [v])) (fun _ => True) ?_ ?_
    · refine SWp.seq (Wp.s ?_)
      simp -implicitDefEqProofs [go_sem]
      refine SWp.block ?_
      refine SWp.loop (α := Nat × Nat) (fun x => ([(25, .sl tk 1 (l.map byE)), (26, ci l.length), (27, ci x.1), (6, .sl (.own V.length x.2) 1 (bs (ftk l x.1)))], H, V ++ [x.2])) (fun x => x.1 ≤ l.length) (fun x => l.length - x.1) (0, v) (Nat.zero_le _) (Sh.forget (by simp [go_sem, ftk, bs]) rfl rfl) ?_
      rintro ⟨i, v⟩ hi
      dsimp only at hi ⊢
      refine SWp.seq (Wp.s ?_)
      simp -implicitDefEqProofs [go_sem]
      refine SWp.seq (Wp.s ?_)
      simp -implicitDefEqProofs [go_sem]
      refine ⟨fun h => ?_, fun h => ⟨v, Sh.forget (by simp [go_sem, ftk_all h]) rfl rfl⟩⟩
      have q1 := ftk_len h
      have q2 := ftk_le l (i + 1)
      refine SWp.seq (SWp.block (SWp.seq (Wp.s ?_)))
      simp -implicitDefEqProofs [go_sem, h]
      refine Wp.s ?_
      simp -implicitDefEqProofs [go_sem]
      refine ⟨by omega, ?_⟩
      refine Wp.s ?_
      simp -implicitDefEqProofs [go_sem]
      refine ⟨i + 1, by omega, by omega, v + 1, Sh.forget ?_ rfl (by simp)⟩
      rw [ftk_step h]
      simp [go_sem, wrap_big (show i < 9223372036854775807 by omega)]
    · rintro v -
      dsimp only
      refine SWp.seq (Wp.s ?_)
      simp -implicitDefEqProofs [go_sem]
      refine Wp.s ?_
      simp -implicitDefEqProofs [go_sem]
      exact Fin.fresh rfl (by simp [go_sem]) hokH (by simp)
end Go.Proofs.YtfbjhkpdlihgeaaGreat
namespace Go.Proofs.YtfbjhkpdlihgeaaGreat
open Go.Proofs
theorem cycA_eq (a : Asm) : cycA a = if chkA a ≠ 0 then .error (chkA a) else if gapB a.seen = true then .error 15
  else if 65536 < (catP a.pcs).length then .error 5
  else if rn (crc (catP a.pcs)) ≠ a.sum then .error 9
  else match decC (catP a.pcs) with
  | .error e => .error e
  | .ok c => if c.number ≠ a.number then .error 22 else .ok c := rfl
theorem cat_le : ∀ {ps : List (List UInt8)}, (∀ p ∈ ps, p.length ≤ 4096) → (catP ps).length ≤ 4096 * ps.length
  | [], _ => by simp [catP]
  | p :: ps, h => by
    have h1 := cat_le fun q hq => h q (List.mem_cons_of_mem p hq)
    have h2 := h p (List.mem_cons_self ..)
    unfold catP at *
    rw [List.flatten_cons, List.length_append, List.length_cons]
    omega
theorem chkA_p4 {a : Asm} (h : chkA a = 0) : ∀ p ∈ a.pcs, p.length ≤ 4096 := fun p hp => by
  obtain ⟨i, hi, rfl⟩ := List.getElem_of_mem hp
  obtain ⟨q1, q2, -, -⟩ := chkA_len h
  have hs : i < a.seen.length := by omega
  refine Classical.byContradiction fun hn => ?_
  have := pcsB_bad hi hs (badPc2 (by omega))
  rw [h] at this; cases this
theorem decC_ne {b : List UInt8} {e : Nat} (h : decC b = .error e) : e ≠ 0 := by
  unfold decC at h
  split at h
  · cases h; decide
  · split at h
    · rename_i h1
      cases h
      unfold cycP at h1
      split at h1
      · rename_i h2; cases h1; exact ne0_rep ne0_number _ _ _ h2
      · split at h1
        · rename_i h2; cases h1; exact ne0_list ne0_int _ _ h2
        · split at h1
          · rename_i h2; cases h1; exact ne0_list ne0_wr _ _ h2
          · cases h1
    · split at h
      · cases h; decide
      · split at h
        · rename_i h1; cases h; exact h1
        · cases h
theorem catP_nil0 {a : Asm} (h : chkA a = 0) : (catP a.pcs).length ≤ 400000000 := by
  have := cat_le (chkA_p4 h)
  obtain ⟨q1, q2, q3, q4⟩ := chkA_len h
  omega
theorem Cycle_cc (H : Hp) (V : List Nat) (a : Asm) (hl : a.pcs.length ≤ 1000000000) : CC Tryz.prog 11 [.agg (asmC a)] H V (Pu (dvC (cycA a)) H V) := by
  refine CC.of_swp Tryz.func11 rfl (by kernel_rfl) (by rw [Tryz.ntmps11]; exact len_le _ _ rfl) fun hok hokH => ?_
  clear hok
  have stop : ∀ {e : Nat} {H' : Hp} {V' : List Nat}, cycA a = .error e → H'.take H.length = H → V'.take V.length = V → Fin H.length V.length (Pu (dvC (cycA a)) H V) (.tup [.agg cycZ, er e]) H' V' := fun h1 h2 h3 => by
    rw [h1]; exact Fin.pu (.tup (.cons Le_zc (.cons (.refl _) .nil))) (by simp [go_sem, dvC]) hokH h2 h3
  have e0 := cycA_eq a
  refine SWp.seq (Wp.s ?_)
  simp -implicitDefEqProofs [go_sem, args0]
  refine SWp.seq (SWp.seq (Wp.s ?_))
  simp -implicitDefEqProofs [go_sem]
  refine CC.mono (Check_cc _ _ a hl) ?_
  rintro _ _ _ ⟨rfl, rfl, rfl⟩
  simp -implicitDefEqProofs [go_sem]
  by_cases hc : chkA a = 0
  case neg =>
    rw [if_pos hc] at e0
    refine SWp.seq (Wp.s ?_)
    simp -implicitDefEqProofs [go_sem]
    refine Wp.s ?_
    simp -implicitDefEqProofs [go_sem, hc]
    exact stop e0 (by simp) (by simp)
  obtain ⟨q1, q2, q3, q4⟩ := chkA_len hc
  have hcat := catP_nil0 hc
  rw [if_neg (by simp [hc])] at e0
  refine SWp.seq (Wp.s ?_)
  simp -implicitDefEqProofs [go_sem]
  refine Wp.s ?_
  simp -implicitDefEqProofs [go_sem, hc]
  refine SWp.seq (SWp.seq (Wp.s ?_))
  simp -implicitDefEqProofs [go_sem]
  refine CC.mono (containsBo_cc _ _ .sh a.seen (by omega)) ?_
  rintro _ _ _ ⟨rfl, rfl, rfl⟩
  cases hg : gapB a.seen with
  | true =>
    rw [if_pos hg] at e0
    simp -implicitDefEqProofs [go_sem]
    refine Wp.s ?_
    simp -implicitDefEqProofs [go_sem]
    exact stop e0 (by simp) (by simp)
  | false =>
  rw [if_neg (by rw [hg]; decide)] at e0
  simp -implicitDefEqProofs [go_sem]
  refine Wp.s ?_
  simp -implicitDefEqProofs [go_sem]
  refine SWp.seq (Wp.s ?_)
  simp -implicitDefEqProofs [go_sem]
  refine CC.mono (concat_cc _ _ .sh a.pcs hl (by omega)) ?_
  rintro _ _ _ ⟨v, rfl, rfl, rfl⟩
  simp -implicitDefEqProofs [go_sem]
  refine SWp.seq (SWp.seq (Wp.s ?_))
  by_cases h5 : 65536 < (catP a.pcs).length
  · rw [if_pos h5] at e0
    simp -implicitDefEqProofs [go_sem, show 65536 < ((catP a.pcs).length : Int) by omega]
    refine Wp.s ?_
    simp -implicitDefEqProofs [go_sem]
    exact stop e0 (by simp) (by simp)
  rw [if_neg h5] at e0
  simp -implicitDefEqProofs [go_sem, show ¬ 65536 < ((catP a.pcs).length : Int) by omega]
  refine Wp.s ?_
  simp -implicitDefEqProofs [go_sem]
  refine SWp.seq (SWp.seq (SWp.drawnT [] [] (.s 0 .pl <| .s 3 .pl <| .s 4 .pl <| .s 1 .pl <| .s 2 .pl <| .s 5 .pl <| .n) (by kernel_rfl) (by kernel_rfl) ?_))
  simp -implicitDefEqProofs [go_sem]
  refine CC.mono (Sum_cc _ _ _ (catP a.pcs) (by omega)) ?_
  rintro _ _ _ ⟨rfl, rfl, rfl⟩
  have hw : IntKind.i64.wrap (rn (crc (catP a.pcs))) = rn (crc (catP a.pcs)) := by
    unfold rn
    have := (crc (catP a.pcs)).isLt
    exact IntWalk.i64_in _ ⟨by omega, by omega⟩
  by_cases h9 : rn (crc (catP a.pcs)) = a.sum
  case neg =>
    rw [if_pos h9] at e0
    simp -implicitDefEqProofs [go_sem, hw, h9]
    refine Wp.s ?_
    simp -implicitDefEqProofs [go_sem]
    exact stop e0 (by simp) (by simp)
  rw [if_neg (by simp [h9])] at e0
  rw [h9] at hw
  simp -implicitDefEqProofs [go_sem, h9, hw]
  refine Wp.s ?_
  simp -implicitDefEqProofs [go_sem]
  refine SWp.seq (Wp.s ?_)
  simp -implicitDefEqProofs [go_sem]
  refine CC.mono (Decode_cc _ _ _ (catP a.pcs) (by omega)) ?_
  rintro _ _ _ ⟨rfl, rfl, rfl⟩
  rcases hd : decC (catP a.pcs) with e | c
  · rw [hd] at e0
    dsimp only at e0
    have hne := decC_ne hd
    simp -implicitDefEqProofs [go_sem, dvC]
    refine SWp.seq (SWp.seq (Wp.s ?_))
    simp -implicitDefEqProofs [go_sem, hne]
    refine Wp.s ?_
    simp -implicitDefEqProofs [go_sem]
    refine SWp.seq (SWp.seq (Wp.s ?_))
    simp -implicitDefEqProofs [go_sem, hne]
    refine Wp.s ?_
    simp -implicitDefEqProofs [go_sem, hne]
    exact stop e0 (by simp) (by simp)
  rw [hd] at e0
  dsimp only at e0
  simp -implicitDefEqProofs [go_sem, dvC]
  refine SWp.seq (SWp.seq (Wp.s ?_))
  by_cases hn : c.number = a.number
  case neg =>
    rw [if_pos hn] at e0
    simp -implicitDefEqProofs [go_sem, hn]
    refine Wp.s ?_
    simp -implicitDefEqProofs [go_sem]
    refine SWp.seq (SWp.seq (Wp.s ?_))
    simp -implicitDefEqProofs [go_sem]
    refine Wp.s ?_
    simp -implicitDefEqProofs [go_sem]
    exact stop e0 (by simp) (by simp)
  rw [if_neg (by simp [hn])] at e0
  simp -implicitDefEqProofs [go_sem, hn]
  refine Wp.s ?_
  simp -implicitDefEqProofs [go_sem]
  refine SWp.seq (SWp.seq (Wp.s ?_))
  simp -implicitDefEqProofs [go_sem]
  refine Wp.s ?_
  simp -implicitDefEqProofs [go_sem]
  refine SWp.seq (Wp.s ?_)
  simp -implicitDefEqProofs [go_sem]
  refine Wp.s ?_
  simp -implicitDefEqProofs [go_sem]
  rw [e0]
  exact Fin.pu (.tup (.cons (.refl _) (.cons (.refl _) .nil))) (by simp [go_sem]) hokH (by simp) (by simp)
end Go.Proofs.YtfbjhkpdlihgeaaGreat
namespace Go.Proofs.YtfbjhkpdlihgeaaGreat
open Go.Proofs
/-- How many pieces. -/
def nPc (len n : Nat) : Nat := (len + n - 1) / n
theorem nPc_lt {len n i : Nat} (hn : 1 ≤ n) : i < nPc len n ↔ n * i < len := by
  unfold nPc
  rw [Nat.lt_div_iff_mul_lt (by omega), Nat.mul_comm]
  omega
theorem nPc_le {len n : Nat} (hn : 1 ≤ n) : nPc len n ≤ len := by
  rcases Nat.lt_or_ge len (nPc len n) with h | h
  · have := (nPc_lt (len := len) hn).1 h
    have := Nat.le_mul_of_pos_left len hn
    omega
  · exact h
def pcOf (l : List UInt8) (n i : Nat) : List UInt8 := (l.drop (n * i)).take n
theorem Chunk_cc (H : Hp) (V : List Nat) (tk : Tk) (l : List UInt8) (n : Nat) (hn : 1 ≤ n) (hok : okTk V.length tk) : CC Tryz.prog 46 [.sl tk 1 (bs l), ci n] H V (fun r H' V' => r = .fn 76 [.ptr H.length 0, .ptr (H.length + 1) 0] ∧ H' = H ++ [some [.sl tk 1 (bs l)], some [ci n]] ∧ V = V') := by
  refine CC.of_swp Tryz.func46 rfl (by kernel_rfl) (by rw [Tryz.ntmps46]; exact len_le _ _ rfl) fun hok' hokH => ?_
  refine SWp.seq (Wp.s ?_)
  simp -implicitDefEqProofs [go_sem, args0]
  refine SWp.seq (SWp.seq (Wp.s ?_))
  simp -implicitDefEqProofs [go_sem, show ¬ (n : Int) < 1 by omega]
  refine Wp.s ?_
  simp -implicitDefEqProofs [go_sem]
  refine SWp.seq (Wp.s ?_)
  simp -implicitDefEqProofs [go_sem]
  refine Wp.s ?_
  simp -implicitDefEqProofs [go_sem]
  refine Fin.cut (H.length + 2) V.length ⟨rfl, rfl, rfl⟩ (by omega) (Nat.le_refl _) (List.take_of_length_le (by simp)) (List.take_of_length_le (Nat.le_refl _)) (.refl _) (by simp [go_sem]) ?_
  intro b cs hb
  rw [List.getElem?_append] at hb
  split at hb
  · exact okL_mono (by omega) (Nat.le_refl _) (hokH b cs hb)
  · exact okH_get (i := H.length + 2) (j := V.length) (L := [some [.sl tk 1 (bs l)], some [ci n]]) (by simp [go_sem, okV_slt, hok]) _ _ hb
theorem chunk1_cc (H : Hp) (V : List Nat) (L b2 b3 : Nat) (tk : Tk) (l : List UInt8) (n : Nat) (hn : 1 ≤ n) (hn2 : n ≤ 1000000) (hl : l.length ≤ 1000000000) (I : Nat → Hp → List Nat → Prop) (h0 : I 0 H V)
    (hI : ∀ i H V, I i H V → H[b2]? = some (some [.sl tk 1 (bs l)]) ∧ H[b3]? = some (some [ci n]))
    (hy : ∀ i, i < nPc l.length n → ∀ H V, I i H V → YC Tryz.prog L [.sl .ti 1 (bs (pcOf l n i))] H V (fun r H' V' => r = .v (.bool true) ∧ I (i + 1) H' V')) :
    CC Tryz.prog 76 [.yl L, .ptr b2 0, .ptr b3 0] H V (fun _ H' V' => I (nPc l.length n) H' V') := by
  refine CC.of_swp Tryz.func76 rfl (by kernel_rfl) (by rw [Tryz.ntmps76]; exact len_le _ _ rfl) fun hok hokH => ?_
  clear hok
  refine SWp.seq (Wp.s ?_)
  simp -implicitDefEqProofs [go_sem, args0]
  refine SWp.block ?_
  refine SWp.loop (α := Nat × Hp × List Nat) (fun x => ([(0, .yl L), (1, .ptr b2 0), (2, .ptr b3 0), (4, ci (n * x.1 : Nat))], x.2.1, x.2.2)) (fun x => x.1 ≤ nPc l.length n ∧ I x.1 x.2.1 x.2.2) (fun x => nPc l.length n - x.1) (0, H, V) ⟨by omega, h0⟩ (Sh.forget (by simp [go_sem]) rfl rfl) ?_
  rintro ⟨i, H1, V1⟩ ⟨hi, hi1⟩
  dsimp only at hi hi1 ⊢
  obtain ⟨g2, g3⟩ := hI _ _ _ hi1
  have hlt := nPc_lt (len := l.length) (i := i) hn
  obtain ⟨p, hp⟩ : ∃ p, p = n * i := ⟨_, rfl⟩
  rw [← hp] at hlt ⊢
  refine SWp.seq (SWp.seq (Wp.s ?_))
  simp -implicitDefEqProofs [go_sem, hbx_of g2, hbx_of g3]
  by_cases h : i < nPc l.length n
  case neg =>
    have hpl : ¬ p < l.length := fun q => h (hlt.2 q)
    refine Wp.s ?_
    simp -implicitDefEqProofs [go_sem, hpl]
    obtain rfl : i = nPc l.length n := by omega
    exact Fin.self hi1
  have hpl := hlt.1 h
  refine Wp.s ?_
  simp -implicitDefEqProofs [go_sem, hpl]
  obtain ⟨q, hq⟩ : ∃ q : Nat, q = min n (l.length - p) := ⟨_, rfl⟩
  have hqm : min (n : Int) ((l.length - p : Nat) : Int) = (q : Int) := by omega
  have hqp : p + q ≤ l.length := by omega
  have w1 : IntKind.i64.wrap ((p : Int) + (q : Int)) = ((p + q : Nat) : Int) := by rw [IntWalk.i64_in _ ⟨by omega, by omega⟩]; omega
  have w2 : IntKind.i64.wrap ((p : Int) + (n : Int)) = ((p + n : Nat) : Int) := by rw [IntWalk.i64_in _ ⟨by omega, by omega⟩]; omega
  have hpc : ((l.take ((p : Int) + (q : Int)).toNat).drop p) = pcOf l n i := by
    unfold pcOf
    rw [show ((p : Int) + (q : Int)).toNat = p + q by omega]
    rw [← hp, List.drop_take, Nat.add_sub_cancel_left, hq]
    rcases Nat.le_total n (l.length - p) with h1 | h1
    · rw [Nat.min_eq_left h1]
    · rw [Nat.min_eq_right h1, List.take_of_length_le (by simp), List.take_of_length_le (by simpa using h1)]
  refine SWp.seq (SWp.block (SWp.seq ?_))
  refine SWp.drawnT [] [] (.s 0 .pl <| .s 1 .pl <| .s 2 .pl <| .s 3 .pl <| .s 4 .pl <| .s 5 .pl <| .s 6 .pl <| .n) (by kernel_rfl) (by kernel_rfl) ?_
  simp -implicitDefEqProofs [go_sem, hbx_of g2, hbx_of g3, hqm, show p ≤ l.length by omega]
  refine SWp.seq (Wp.s ?_)
  simp -implicitDefEqProofs [go_sem, hbx_of g2, hbx_of g3, w1, hpc]
  refine ⟨by omega, by omega, by omega, ?_⟩
  refine YC.mono (hy i h _ _ hi1) ?_
  rintro _ H2 V2 ⟨rfl, hi2⟩
  obtain ⟨k2, k3⟩ := hI _ _ _ hi2
  simp -implicitDefEqProofs [go_sem]
  refine Wp.s ?_
  simp -implicitDefEqProofs [go_sem]
  refine Wp.s ?_
  simp -implicitDefEqProofs [go_sem, hbx_of k2, hbx_of k3, w2]
  refine ⟨i + 1, H2, V2, ⟨by omega, hi2⟩, by omega, Sh.forget ?_ rfl rfl⟩
  have e : (n : Int) * ((i : Int) + 1) = (p : Int) + (n : Int) := by rw [Int.mul_add, Int.mul_one]; omega
  simp [go_sem, e]
theorem pieces_cc (H : Hp) (V : List Nat) (tk : Tk) (l : List UInt8) (n : Nat) (hokt : okTk V.length tk) : CC Tryz.prog 23 [.sl tk 1 (bs l), ci n] H V (fun r H' V' => r = .fn 45 [.ptr H.length 0, .ptr (H.length + 1) 0] ∧ H' = H ++ [some [.sl tk 1 (bs l)], some [ci n]] ∧ V = V') := by
  refine CC.of_swp Tryz.func23 rfl (by kernel_rfl) (by rw [Tryz.ntmps23]; exact len_le _ _ rfl) fun hok hokH => ?_
  clear hok
  refine SWp.seq (Wp.s ?_)
  simp -implicitDefEqProofs [go_sem, args0]
  refine SWp.seq (Wp.s ?_)
  simp -implicitDefEqProofs [go_sem]
  refine Wp.s ?_
  simp -implicitDefEqProofs [go_sem]
  refine Fin.cut (H.length + 2) V.length ⟨rfl, rfl, rfl⟩ (by omega) (Nat.le_refl _) (List.take_of_length_le (by simp)) (List.take_of_length_le (Nat.le_refl _)) (.refl _) (by simp [go_sem]) ?_
  intro b cs hb
  rw [List.getElem?_append] at hb
  split at hb
  · exact okL_mono (by omega) (Nat.le_refl _) (hokH b cs hb)
  · exact okH_get (i := H.length + 2) (j := V.length) (L := [some [.sl tk 1 (bs l)], some [ci n]]) (by simp [go_sem, okV_slt, hokt]) _ _ hb
theorem pieces1_cc (H : Hp) (V : List Nat) (L b2 b3 : Nat) (tk : Tk) (l : List UInt8) (n : Nat) (hn : 1 ≤ n) (hn2 : n ≤ 1000000) (hl : l.length ≤ 1000000000) (J : Nat → Hp → List Nat → Prop) (h0 : J 0 H V)
    (hJ : ∀ i G V, J i G V → G.length = H.length ∧ G[b2]? = some (some [.sl tk 1 (bs l)]) ∧ G[b3]? = some (some [ci n]) ∧ okTk V.length tk)
    (hy : ∀ i, i < nPc l.length n → ∀ G W V, J i G V → YC Tryz.prog L [ci i, .sl .ti 1 (bs (pcOf l n i))] (G ++ W) V (fun r H' V' => r = .v (.bool true) ∧ ∃ G' W', J (i + 1) G' V' ∧ H' = G' ++ (W ++ W'))) :
    CC Tryz.prog 45 [.yl L, .ptr b2 0, .ptr b3 0] H V (fun _ H' V' => ∃ G' W', J (nPc l.length n) G' V' ∧ H' = G' ++ W') := by
  refine CC.of_swp0 Tryz.func45 rfl (by kernel_rfl) (by rw [Tryz.ntmps45]; exact len_le _ _ rfl) fun hok hokH => ?_
  obtain ⟨-, j2, j3, j4⟩ := hJ _ _ _ h0
  have lt2 := (List.getElem?_eq_some_iff.1 j2).1
  have lt3 := (List.getElem?_eq_some_iff.1 j3).1
  refine SWp0.seq (SWp.s0 (Wp.s ?_))
  simp -implicitDefEqProofs [go_sem, args0]
  refine SWp0.seq (SWp.s0 (Wp.s ?_))
  simp -implicitDefEqProofs [go_sem]
  refine SWp0.seq (SWp.s0 (Wp.s ?_))
  have a2 : ∀ X : Hp, (H ++ X)[b2]? = some (some [.sl tk 1 (bs l)]) := fun X => by rw [List.getElem?_append_left lt2]; exact j2
  have a3 : ∀ X : Hp, (H ++ X)[b3]? = some (some [ci n]) := fun X => by rw [List.getElem?_append_left lt3]; exact j3
  simp -implicitDefEqProofs [go_sem, hbx_of (a2 _), hbx_of (a3 _)]
  refine CC.mono (Chunk_cc _ _ _ l n hn j4) ?_
  rintro _ _ _ ⟨rfl, rfl, rfl⟩
  simp -implicitDefEqProofs [go_sem]
  simp only [Nat.add_assoc, Nat.reduceAdd]
  refine SWp0.block (SWp0.range [(3, .ptr H.length 0), (4, .ptr (H.length + 1) 0)] rfl (by simp [go_sem]) ?_)
  simp -implicitDefEqProofs [go_sem]
  generalize hbd : Code.block 1 _ = bd
  generalize has : Code.region 3 _ _ = asg
  obtain ⟨lp, hlp⟩ : ∃ lp : LoopState → CV, lp = fun st => lpc 17 #[9] asg bd [(3, .ptr H.length 0), (4, .ptr (H.length + 1) 0)] st none := ⟨_, rfl⟩
  refine CC.mono (chunk1_cc _ V _ _ _ tk l n hn hn2 hl (fun i G V' => ∃ A W, J i A V' ∧ G = A ++ (some [.yl L] :: some [ci i] :: some [.sl tk 1 (bs l)] :: some [ci n] :: some [lp .ready] :: W)) ⟨H, [], h0, by rw [hlp]; rfl⟩ ?_ ?_) ?_
  · rintro i _ V' ⟨A, W, hA, rfl⟩
    obtain ⟨q1, -⟩ := hJ _ _ _ hA
    rw [← q1]
    exact ⟨hget _ _ 2, hget _ _ 3⟩
  · rintro i hi _ V' ⟨A, W, hA, rfl⟩
    obtain ⟨q1, -⟩ := hJ _ _ _ hA
    rw [← q1] at hlp ⊢
    have hi9 : i < 1000000000 := Nat.lt_of_lt_of_le hi (Nat.le_trans (nPc_le hn) hl)
    refine YC.of_round (n := 17) (ps := #[9]) (bd := bd) (T := [(3, .ptr A.length 0), (4, .ptr (A.length + 1) 0)]) ((hget _ _ 4).trans (by rw [hlp]; rfl)) rfl (by decide) ?_
    subst hbd has
    refine Wp.s ?_
    simp -implicitDefEqProofs [go_sem, tps]
    refine ⟨by rw [hlp], ?_⟩
    generalize hlb : lpc 17 #[9] _ _ _ LoopState.busy none = lb
    generalize hqq : RQ 17 #[9] _ _ _ _ _ = QQ
    refine SWp.block (SWp.seq (SWp.seq (Wp.s ?_)))
    simp -implicitDefEqProofs [go_sem]
    refine YC.mono (hy i hi A _ V' hA) ?_
    rintro _ _ V2 ⟨rfl, A2, W2, hA2, rfl⟩
    obtain ⟨q2, -⟩ := hJ _ _ _ hA2
    have q3 : A.length = A2.length := q1.trans q2.symm
    simp -implicitDefEqProofs [go_sem]
    refine Wp.s ?_
    simp -implicitDefEqProofs [go_sem]
    refine Wp.s ?_
    simp -implicitDefEqProofs [go_sem, q3, wrap_succ (show i ≤ 1000000000 by omega)]
    rw [← hqq, q3]
    refine ⟨by rw [← hlb, q3]; exact hget _ _ 4, rfl, A2, hA2, W ++ W2, ?_⟩
    rw [hlp, q3, List.set_append_right _ _ (by omega), Nat.add_sub_cancel_left]
    rfl
  · rintro _ _ V' ⟨A, W, hA, rfl⟩
    obtain ⟨q1, -⟩ := hJ _ _ _ hA
    rw [← q1] at hlp ⊢
    refine .inl ⟨(hget _ _ 4).trans (by rw [hlp]; rfl), ?_⟩
    simp -implicitDefEqProofs [go_sem]
    exact Fin.self ⟨A, hA, _, rfl⟩
end Go.Proofs.YtfbjhkpdlihgeaaGreat
namespace Go.Proofs.YtfbjhkpdlihgeaaGreat
open Go.Proofs
def partB (c : Cyc) (b : List UInt8) (n i : Nat) : List UInt8 := encHd ⟨c.number, nPc b.length n, rn (crc b), i⟩ ++ pcOf b n i
def partsB (c : Cyc) (b : List UInt8) (n : Nat) : List (List UInt8) := (List.range (nPc b.length n)).map (partB c b n)
def splP (c : Cyc) (m : Int) : Except Nat (List (List UInt8)) :=
  if encE c ≠ 0 then .error (encE c) else if m < 1 ∨ 4096 < m then .error 2 else .ok (partsB c (encB c) m.toNat)
def dvS : Except Nat (List (List UInt8)) → CV
  | .ok l => .tup [.sl .sh 1 (l.map byE), er 0]
  | .error e => .tup [.sl .sh 1 [], er e]
/-- Byte strings that may be appended to. -/
def ApB (j : Nat) (l : List (List UInt8)) (cv : CV) (V : List Nat) : Prop := (cv = .v (.slice none 0 0) ∧ l = []) ∨ ∃ k v, cv = .sl (.own k v) 1 (l.map byE) ∧ V[k]? = some v ∧ j ≤ k
theorem ApB.le {j : Nat} {l : List (List UInt8)} {cv : CV} {V : List Nat} (h : ApB j l cv V) : Le cv (.sl .sh 1 (l.map byE)) := by
  rcases h with ⟨rfl, rfl⟩ | ⟨k, v, rfl, _⟩
  · exact .nil 1 (by decide)
  · exact .sh _ _ _
theorem ApB.ok {i j : Nat} {l : List (List UInt8)} {cv : CV} {V : List Nat} (h : ApB j l cv V) : okV i V.length cv := by
  rcases h with ⟨rfl, rfl⟩ | ⟨k, v, rfl, h, _⟩
  · rw [okV]; trivial
  · rw [okV_own, okE_bys]; exact ⟨(List.getElem?_eq_some_iff.1 h).1, trivial⟩
theorem ApB.one {j : Nat} {l : List (List UInt8)} {cv : CV} {V : List Nat} (h : ApB j l cv V) : cv.one = true := by
  rcases h with ⟨rfl, rfl⟩ | ⟨k, v, rfl, _⟩ <;> rfl
theorem splP_enc {c : Cyc} {m : Int} (h : encE c ≠ 0) : splP c m = .error (encE c) := by rw [splP, if_pos h]
theorem splP_rng {c : Cyc} {m : Int} (h : encE c = 0) (hm : m < 1 ∨ 4096 < m) : splP c m = .error 2 := by rw [splP, if_neg (by simp [h]), if_pos hm]
theorem splP_ok {c : Cyc} {m : Int} (h : encE c = 0) (hm : ¬ (m < 1 ∨ 4096 < m)) : splP c m = .ok (partsB c (encB c) m.toNat) := by rw [splP, if_neg (by simp [h]), if_neg hm]
theorem encB_len (c : Cyc) : (encB c).length ≤ 65536 := by
  unfold encB
  split
  · rename_i h
    unfold encE at h
    split at h
    · rename_i h1; exact absurd h h1
    · split at h
      · cases h
      · omega
  · exact Nat.zero_le _
theorem quo_nPc {len n : Nat} (hn : 1 ≤ n) : ((len : Int) + (n : Int) - 1).tdiv (n : Int) = (nPc len n : Int) := by
  unfold nPc
  rw [Int.tdiv_eq_ediv_of_nonneg (by omega), show (len : Int) + (n : Int) - 1 = ((len + n - 1 : Nat) : Int) by omega]
  rfl
theorem LeE.rfl' : ∀ xs : List (List CV), LeE xs xs
  | [] => .nil
  | x :: xs => .cons (.refl _) (LeE.rfl' xs)
theorem LeE.snoc : ∀ (xs : List (List CV)) {x y : List CV}, LeL x y → LeE (xs ++ [x]) (xs ++ [y])
  | [], _, _, h => .cons h .nil
  | x :: xs, _, _, h => .cons (.refl _) (LeE.snoc xs h)
theorem encHd_len (h : Hd) : (encHd h).length ≤ 1000000 := by
  unfold encHd
  simp only [List.length_append]
  have h1 := enc_len h.number
  have h2 := enc_len h.index
  have h3 := enc_len h.parts
  have h4 := enc_len h.sum
  omega
theorem Split_cc (H : Hp) (V : List Nat) (c : Cyc) (m : Int) (hl : c.wrs.length ≤ 800000000) (hw : WrS c.wrs) (h3 : c.poss.length ≤ 1000000) (h4 : (encWrs c.wrs).length ≤ 800000000) : CC Tryz.prog 7 [.agg (cycC c), ci m] H V (Pu (dvS (splP c m)) H V) := by
  refine CC.of_swp0 Tryz.func7 rfl (by kernel_rfl) (by rw [Tryz.ntmps7]; exact len_le _ _ rfl) fun hok hokH => ?_
  refine SWp0.seq (SWp.s0 (Wp.s ?_))
  simp -implicitDefEqProofs [go_sem, args0]
  refine SWp0.seq (SWp.s0 (Wp.s ?_))
  simp -implicitDefEqProofs [go_sem]
  refine CC.mono (Encode_cc _ _ c hl hw h3 h4) ?_
  rintro _ _ _ ⟨rfl, rfl, rfl⟩
  simp -implicitDefEqProofs [go_sem]
  refine SWp0.seq (SWp.s0 (SWp.seq (Wp.s ?_)))
  by_cases he : encE c = 0
  case neg =>
    simp -implicitDefEqProofs [go_sem, he]
    refine Wp.s ?_
    simp -implicitDefEqProofs [go_sem]
    rw [splP_enc he, dvS]
    exact Fin.pu (.tup (.cons (.nil 1 (by decide)) (.cons (.refl _) .nil))) (by simp [go_sem]) hokH (by simp) (by simp)
  simp -implicitDefEqProofs [go_sem, he]
  refine Wp.s ?_
  simp -implicitDefEqProofs [go_sem]
  refine SWp0.seq (SWp.s0 (SWp.seq (Wp.s ?_)))
  by_cases m1 : m < 1
  · simp -implicitDefEqProofs [go_sem, m1]
    refine Wp.s ?_
    simp -implicitDefEqProofs [go_sem]
    rw [splP_rng he (.inl m1), dvS]
    exact Fin.pu (.tup (.cons (.nil 1 (by decide)) (.cons (.refl _) .nil))) (by simp [go_sem]) hokH (by simp) (by simp)
  by_cases m2 : 4096 < m
  · simp -implicitDefEqProofs [go_sem, m1, m2]
    refine Wp.s ?_
    simp -implicitDefEqProofs [go_sem]
    rw [splP_rng he (.inr m2), dvS]
    exact Fin.pu (.tup (.cons (.nil 1 (by decide)) (.cons (.refl _) .nil))) (by simp [go_sem]) hokH (by simp) (by simp)
  have esp := splP_ok he (m := m) (by omega)
  simp -implicitDefEqProofs [go_sem, m1, m2]
  refine Wp.s ?_
  simp -implicitDefEqProofs [go_sem]
  obtain ⟨n, rfl⟩ : ∃ n : Nat, m = n := ⟨m.toNat, by omega⟩
  rw [show (n : Int).toNat = n from rfl] at esp
  have hn1 : 1 ≤ n := by omega
  have hn2 : n ≤ 4096 := by omega
  obtain ⟨b, hb⟩ : ∃ b, b = encB c := ⟨_, rfl⟩
  have hbl : b.length ≤ 65536 := hb ▸ encB_len c
  rw [← hb] at esp ⊢
  have w1 : IntKind.i64.wrap ((b.length : Int) + (n : Int)) = (b.length : Int) + (n : Int) := IntWalk.i64_in _ ⟨by omega, by omega⟩
  have w2 : IntKind.i64.wrap ((b.length : Int) + (n : Int) - 1) = (b.length : Int) + (n : Int) - 1 := IntWalk.i64_in _ ⟨by omega, by omega⟩
  have w3 : IntKind.i64.wrap ((nPc b.length n : Nat) : Int) = ((nPc b.length n : Nat) : Int) := by
    have := nPc_le (len := b.length) hn1
    exact IntWalk.i64_in _ ⟨by omega, by omega⟩
  have w4 : IntKind.i64.wrap (rn (crc b)) = rn (crc b) := by
    unfold rn
    have := (crc b).isLt
    exact IntWalk.i64_in _ ⟨by omega, by omega⟩
  refine SWp0.seq (SWp.s0 (SWp.drawnT [] [14] (.s 0 .pl <| .s 1 .pl <| .s 2 .pl <| .s 3 .pl <| .s 4 .pl <| .s 5 .pl <| .s 6 .pl <| .s 7 .pl <| .s 8 .pl <| .s 9 .pl <| .c 10 <| .s 11 .pl <| .s 12 .pl <| .s 13 .pl <| .s 14 .st <| .n) (by kernel_rfl) (by kernel_rfl) ?_))
  simp -implicitDefEqProofs [go_sem, w1, w2, quo_nPc hn1, w3]
  refine ⟨by omega, _, fun H V => Sum_cc H V _ b (by omega), ?_⟩
  simp -implicitDefEqProofs [go_sem, w4]
  refine SWp0.seq (SWp.s0 (Wp.s ?_))
  simp -implicitDefEqProofs [go_sem]
  obtain ⟨idc, hid⟩ : ∃ idc : List CV, idc = [ci c.number, ci (nPc b.length n), .v (.int .i64 (rn (crc b)))] := ⟨_, rfl⟩
  refine SWp0.join (α := CV × List Nat) (fun x => ([(9, .ptr (H.length + 2) 0)], H ++ [some (cycC c), some idc, some [x.1]], x.2)) (fun x => ApB V.length (partsB c b n) x.1 x.2 ∧ V.length ≤ x.2.length ∧ x.2.take V.length = V) ?_ ?_
  · refine SWp0.seq (SWp.s0 (Wp.s ?_))
    simp -implicitDefEqProofs [go_sem]
    refine CC.mono (pieces_cc _ _ .sh b n trivial) ?_
    rintro _ _ _ ⟨rfl, rfl, rfl⟩
    simp -implicitDefEqProofs [go_sem]
    simp only [Nat.add_assoc, Nat.reduceAdd]
    refine SWp0.block (SWp0.range [(8, .ptr (H.length + 1) 0), (9, .ptr (H.length + 2) 0)] rfl (by simp [go_sem]) ?_)
    simp -implicitDefEqProofs [go_sem]
    generalize hbd : Code.block 1 _ = bd
    generalize has : Code.seq _ _ = asg
    obtain ⟨lp, hlp⟩ : ∃ lp : LoopState → CV, lp = fun st => lpc 54 #[42, 43] asg bd [(8, .ptr (H.length + 1) 0), (9, .ptr (H.length + 2) 0)] st none := ⟨_, rfl⟩
    refine CC.mono (pieces1_cc _ V _ _ _ .sh b n hn1 (by omega) (by omega) (fun i G V' => ∃ cv, ApB V.length ((List.range i).map (partB c b n)) cv V' ∧ V.length ≤ V'.length ∧ V'.take V.length = V ∧
      G = H ++ [some (cycC c), some idc, some [cv], some [.sl .sh 1 (bs b)], some [ci n], some [lp .ready]]) ⟨.v (.slice none 0 0), .inl ⟨rfl, rfl⟩, Nat.le_refl _, by simp, by rw [hlp, hid]⟩ ?_ ?_) ?_
    · rintro i _ V' ⟨cv, ha, v1, v2, rfl⟩
      exact ⟨by simp, hget _ _ 3, hget _ _ 4, trivial⟩
    · rintro i hi _ W V' ⟨cv, ha, v1, v2, rfl⟩
      rw [List.append_assoc]
      refine YC.of_round (n := 54) (ps := #[42, 43]) (bd := bd) (T := [(8, .ptr (H.length + 1) 0), (9, .ptr (H.length + 2) 0)]) ((hget _ _ 5).trans (by rw [hlp]; rfl)) rfl (by decide) ?_
      subst hbd has
      refine SWp.seq (Wp.s ?_)
      simp -implicitDefEqProofs [go_sem, tps]
      refine Wp.s ?_
      simp -implicitDefEqProofs [go_sem]
      refine ⟨by rw [hlp], ?_⟩
      generalize hlb : lpc 54 #[42, 43] _ _ _ LoopState.busy none = lb
      generalize hqq : RQ 54 #[42, 43] _ _ _ _ _ = QQ
      refine SWp.after (α := CV × List Nat) (fun x => ([], H ++ (some (cycC c) :: some idc :: some [x.1] :: some [.sl .sh 1 (bs b)] :: some [ci n] :: some [lb] :: W), x.2)) (fun x => ApB V.length ((List.range (i + 1)).map (partB c b n)) x.1 x.2 ∧ V.length ≤ x.2.length ∧ x.2.take V.length = V) (SWp.block ?_) ?_
      · refine SWp.drawnT [] [9] (.s 0 .pl <| .s 1 .pl <| .s 2 .pl <| .s 3 .pl <| .s 5 .pl <| .s 4 .pl <| .s 6 .pl <| .s 7 .pl <| .s 8 .pl <| .s 9 .st <| .n) (by kernel_rfl) (by kernel_rfl) ?_
        simp -implicitDefEqProofs [go_sem, hid]
        refine CC.mono (put_cc _ _ ⟨c.number, nPc b.length n, rn (crc b), i⟩) ?_
        rintro _ _ _ ⟨v, rfl, rfl, rfl⟩
        have hpl : (pcOf b n i).length ≤ 1000000 := by unfold pcOf; rw [List.length_take]; omega
        have hel : (encHd ⟨c.number, nPc b.length n, rn (crc b), i⟩).length ≤ 1000000 := encHd_len _
        rcases ha with ⟨rfl, he0⟩ | ⟨k, v0, rfl, hv, hk⟩
        · simp -implicitDefEqProofs [go_sem]
          refine ⟨by omega, .sl (.own (V'.length + 1) 0) 1 [byE (partB c b n i)], V' ++ [v + 1, 0], ⟨.inr ⟨V'.length + 1, 0, by rw [he0]; rfl, by simp, by omega⟩, by simp; omega, by rw [List.take_append_of_le_length v1]; exact v2⟩, ?_⟩
          refine Sh.weakG (b := H.length + 2) (hget _ _ 2) (Ge.slk (.cons (.cons (.sh _ _ _) .nil) .nil)) rfl ?_
          exact Sh.forget (by simp [go_sem]) (by simp [partB, byE]) rfl
        · have hkl := (List.getElem?_eq_some_iff.1 hv).1
          have hnb := nPc_le (len := b.length) hn1
          simp -implicitDefEqProofs [go_sem]
          refine ⟨by omega, by rw [List.getElem?_append_left hkl]; exact hv, by omega, .sl (.own k (v0 + 1)) 1 (((List.range i).map (partB c b n) ++ [partB c b n i]).map byE), V'.set k (v0 + 1) ++ [v + 1], ⟨.inr ⟨k, v0 + 1, rfl, by rw [List.getElem?_append_left (by simpa using hkl), List.getElem?_set_self hkl], hk⟩, by simp; omega, ?_⟩, ?_⟩
          · rw [List.take_append_of_le_length (by simpa using v1), List.take_set_of_le hk]; exact v2
          refine Sh.weakG (b := H.length + 2) (hget _ _ 2) (Ge.slk (LeE.snoc _ (.cons (.sh _ _ _) .nil))) rfl ?_
          refine Sh.forget (by simp [go_sem]) (by simp [partB, byE]) ?_
          rw [List.set_append_left _ _ hkl]
      · rintro ⟨cv2, V2⟩ ⟨a1, a2, a3⟩
        dsimp only
        rw [← hqq]
        refine ⟨by rw [← hlb]; exact hget _ _ 5, rfl, _, ⟨cv2, by rw [List.range_succ, List.map_append] at a1; exact a1, a2, a3, rfl⟩, [], ?_⟩
        rw [List.set_append_right _ _ (by omega), Nat.add_sub_cancel_left, hlp]
        simp
    · rintro _ _ V' ⟨G', W', ⟨cv, ha, v1, v2, rfl⟩, rfl⟩
      refine .inl ⟨?_, cv, V', ⟨ha, v1, v2⟩, ?_⟩
      · rw [List.append_assoc]; exact (hget _ _ 5).trans (by rw [hlp]; rfl)
      · rw [List.append_assoc, List.set_append_right _ _ (by omega), Nat.add_sub_cancel_left]
        refine Sh.trim (L := [some (cycC c), some idc, some [cv]]) (by simp [go_sem]) (by simp [go_sem]) hokH ?_ v1 ?_ (List.take_of_length_le (Nat.le_refl _))
        · rw [okH_some, okH_some, okH_some, hid]
          exact ⟨by simp [go_sem], by simp [go_sem], by rw [okL, okL]; exact ⟨ha.ok, trivial⟩, trivial⟩
        · simp
  · rintro ⟨cv, V'⟩ ⟨q1, q2, q3⟩
    dsimp only
    refine SWp0.seq (SWp.s0 (Wp.s ?_))
    simp -implicitDefEqProofs [go_sem]
    refine SWp.s0 (Wp.s ?_)
    simp -implicitDefEqProofs [go_sem]
    rw [esp, dvS]
    exact Fin.pu (.tup (.cons q1.le (.cons (.refl _) .nil))) (by simp [go_sem]) hokH (by simp) q3
end Go.Proofs.YtfbjhkpdlihgeaaGreat
namespace Go.Proofs.YtfbjhkpdlihgeaaGreat
theorem chkW_all {f : Wr → Nat} : ∀ (p : Option Wr) (l : List Wr), chkW f p l = 0 → ∀ w ∈ l, f w = 0
  | _, [], _, w, hw => by cases hw
  | none, x :: l, h, w, hw => by
    rw [chkW] at h
    split at h
    · rename_i q; exact absurd h q
    · rename_i q
      rcases List.mem_cons.1 hw with rfl | hw
      · exact Classical.not_not.1 q
      · exact chkW_all _ l h w hw
  | some y, x :: l, h, w, hw => by
    rw [chkW] at h
    split at h
    · rename_i q; exact absurd h q
    · rename_i q
      split at h
      · cases h
      · rcases List.mem_cons.1 hw with rfl | hw
        · exact Classical.not_not.1 q
        · exact chkW_all _ l h w hw
theorem fitsS_most {w : Wr} (h : fitsS mostS w = 0) : 0 ≤ w.volume ∧ w.volume < 8 ∧ 0 ≤ w.start ∧ w.start ≤ 4096 ∧ w.data.length ≤ 4096 ∧ 1 ≤ w.data.length := by
  have hl : (mostS.length : Int) = 8 := by kernel_rfl
  unfold fitsS at h
  split at h
  · cases h
  · rename_i h1
    split at h
    · cases h
    · rename_i h2
      split at h
      · cases h
      · rename_i h3
        rw [hl] at h1
        have hk : w.volume.toNat < 8 := by omega
        have : mostS.getD w.volume.toNat 0 = 4096 := by
          unfold mostS
          rw [List.getD_eq_getElem?_getD, List.getElem?_replicate, if_pos hk]; rfl
        rw [this] at h3
        omega
theorem norm_nn {n : Int} (h0 : 0 ≤ n) (h1 : n ≤ 9007199254740991) : ((norm n : Nat) : Int) = n := by
  unfold norm; rw [if_neg (by omega)]; omega
theorem rep_num : ∀ (l : List Int) (r : List UInt8), repP number l.length (l.flatMap enc ++ r) = .ok (l.map norm, r)
  | [], r => by rw [List.length_nil, repP]; rfl
  | a :: l, r => by
    rw [List.length_cons, repP, List.flatMap_cons, List.append_assoc, number_enc]
    dsimp only
    rw [rep_num l r]; rfl
structure OkC (c : Cyc) : Prop where
  b0 : 0 ≤ c.base
  b1 : c.base < c.number
  n1 : c.number ≤ 1073741824
  t0 : 0 ≤ c.time
  t1 : c.time ≤ 1073741824
  pl : c.poss.length ≤ 8
  ps : ∀ n ∈ c.poss, 0 ≤ n ∧ n ≤ 1073741824
  ws : ∀ w ∈ c.wrs, fitsS mostS w = 0
theorem chkC_ok {c : Cyc} (h : chkC c mostS = 0) : OkC c := by
  unfold chkC at h
  rw [if_neg (by rw [mostS_ok]; decide)] at h
  split at h
  · cases h
  · rename_i h1
    split at h
    · cases h
    · rename_i h2
      split at h
      · rename_i h3; exact absurd h h3
      · rename_i h3
        have h3 := Classical.not_not.1 h3
        have hi : inB c.time 0 1073741824 = true := by simpa using h2
        simp only [inB, Bool.and_eq_true, decide_eq_true_eq] at hi
        unfold posE at h3
        split at h3
        · cases h3
        · rename_i h4
          have h4 : inB c.poss.length 0 8 = true := by simpa using h4
          simp only [inB, Bool.and_eq_true, decide_eq_true_eq] at h4
          split at h3
          · cases h3
          · rename_i h5
            refine ⟨by omega, by omega, by omega, hi.1, hi.2, by omega, fun n hn => ?_, ?_⟩
            · have : ¬ badPos n = true := fun hb => h5 (List.any_eq_true.2 ⟨n, hn, hb⟩)
              simp only [badPos, inB, Bool.not_eq_true', Bool.not_eq_false', Bool.not_eq_eq_eq_not, Bool.not_true, Bool.not_eq_false, Bool.and_eq_true, decide_eq_true_eq] at this
              omega
            · unfold wsE at h
              rw [if_neg (by rw [mostS_ok]; decide)] at h
              exact chkW_all _ _ h
theorem len_flat {α : Type} {e : α → List UInt8} (he : ∀ a, 1 ≤ (e a).length) : ∀ l : List α, l.length ≤ (l.flatMap e).length
  | [] => Nat.le_refl _
  | a :: l => by
    rw [List.flatMap_cons, List.length_append, List.length_cons]
    have := he a
    have := len_flat he l
    omega
theorem enc_pos (n : Int) : 1 ≤ (enc n).length := encN_pos _
theorem encE_0 {c : Cyc} (h : encE c = 0) : chkC c mostS = 0 ∧ (encCyc c).length ≤ 65536 ∧ encB c = encCyc c := by
  refine ⟨?_, ?_, by rw [encB, if_pos h]⟩
  · unfold encE at h
    split at h
    · rename_i q; exact absurd h q
    · rename_i q; exact Classical.not_not.1 q
  · unfold encE at h
    split at h
    · rename_i q; exact absurd h q
    · split at h
      · cases h
      · omega
theorem map_self {α : Type} {f : α → α} : ∀ {l : List α}, (∀ a ∈ l, f a = a) → l.map f = l
  | [], _ => rfl
  | a :: l, h => by rw [List.map_cons, h a (by simp), map_self fun b hb => h b (List.mem_cons_of_mem _ hb)]
/-- What is encoded is decoded. -/
theorem decC_enc {c : Cyc} (h : encE c = 0) : decC (encB c) = .ok c := by
  obtain ⟨h1, h2, h3⟩ := encE_0 h
  have ok := chkC_ok h1
  have hw : c.wrs.length ≤ 65536 := by
    have := len_flat (e := encWr) (fun a => by unfold encWr; simp only [List.length_append]; have := enc_pos a.volume; omega) c.wrs
    have h4 : (encWrs c.wrs).length ≤ 65536 := by unfold encCyc at h2; simp only [List.length_append] at h2; omega
    unfold encWrs at h4
    rw [List.length_append] at h4
    omega
  rw [h3]
  unfold decC
  rw [if_neg (by omega)]
  have e1 : cycP (encCyc c) = .ok (c, []) := by
    unfold cycP
    have r3 := rep_num [c.base, c.number, c.time] (encInts c.poss ++ encWrs c.wrs)
    have e3 : [c.base, c.number, c.time].flatMap enc ++ (encInts c.poss ++ encWrs c.wrs) = encCyc c := by unfold encCyc; simp
    rw [e3] at r3
    rw [show repP number 3 (encCyc c) = _ from r3]
    dsimp only
    have rp := list_rt int_rt c.poss (encWrs c.wrs) ⟨by have := ok.pl; omega, fun _ _ => trivial⟩
    rw [show encInts c.poss = enc c.poss.length ++ c.poss.flatMap enc from rfl, rp]
    dsimp only
    have rw' := list_rt wr_rt c.wrs [] ⟨hw, fun w hw => by have := (fitsS_most (ok.ws w hw)).2.2.2.2.1; omega⟩
    rw [List.append_nil] at rw'
    rw [show encWrs c.wrs = enc c.wrs.length ++ c.wrs.flatMap encWr from rfl, rw']
    dsimp only
    have m1 : c.poss.map (fun n => ((norm n : Nat) : Int)) = c.poss := map_self fun n hn => by have := ok.ps n hn; exact norm_nn (by omega) (by omega)
    have m2 : c.wrs.map (fun x => (⟨norm x.volume, norm x.start, x.data⟩ : Wr)) = c.wrs := map_self fun w hw => by
      have := fitsS_most (ok.ws w hw)
      rw [norm_nn (by omega) (by omega), norm_nn (by omega) (by omega)]
    rw [m1, m2]
    have a0 := ok.b0; have a1 := ok.b1; have a2 := ok.n1; have a3 := ok.t0; have a4 := ok.t1
    have n0 : at3 [norm c.base, norm c.number, norm c.time] 0 = c.base := norm_nn (by omega) (by omega)
    have n1 : at3 [norm c.base, norm c.number, norm c.time] 1 = c.number := norm_nn (by omega) (by omega)
    have n2 : at3 [norm c.base, norm c.number, norm c.time] 2 = c.time := norm_nn (by omega) (by omega)
    rw [show [c.base, c.number, c.time].map norm = [norm c.base, norm c.number, norm c.time] from rfl, n0, n1, n2]
  rw [e1]
  dsimp only
  rw [if_neg (by decide), if_neg (by rw [h1]; decide)]
theorem encB_pos {c : Cyc} (h : encE c = 0) : 1 ≤ (encB c).length := by
  rw [(encE_0 h).2.2]
  unfold encCyc
  simp only [List.length_append]
  have := enc_pos c.base
  omega
/-- A header and what is behind it. -/
theorem prsP_put {h : Hd} {r : List UInt8} (h1 : 1 ≤ h.number) (h2 : h.number ≤ 1073741824) (h3 : 0 ≤ h.index) (h4 : h.index < h.parts) (h5 : h.parts ≤ 65536) (h6 : 0 ≤ h.sum) (h7 : h.sum ≤ 4294967295) (r1 : 1 ≤ r.length) (r2 : r.length ≤ 4096) :
    prsP (encHd h ++ r) = .ok (h, r) := by
  unfold prsP
  have r3 := rep_num [h.number, h.index, h.parts, h.sum] r
  have e3 : [h.number, h.index, h.parts, h.sum].flatMap enc ++ r = encHd h ++ r := by unfold encHd; simp
  rw [e3] at r3
  rw [show repP number 4 (encHd h ++ r) = _ from r3]
  dsimp only
  have n0 : at3 [norm h.number, norm h.index, norm h.parts, norm h.sum] 0 = h.number := norm_nn (by omega) (by omega)
  have n1 : at3 [norm h.number, norm h.index, norm h.parts, norm h.sum] 1 = h.index := norm_nn (by omega) (by omega)
  have n2 : at3 [norm h.number, norm h.index, norm h.parts, norm h.sum] 2 = h.parts := norm_nn (by omega) (by omega)
  have n3 : at3 [norm h.number, norm h.index, norm h.parts, norm h.sum] 3 = h.sum := norm_nn (by omega) (by omega)
  have eh : hd4 ([h.number, h.index, h.parts, h.sum].map norm) = h := by
    show hd4 [norm h.number, norm h.index, norm h.parts, norm h.sum] = h
    unfold hd4
    rw [n0, n1, n2, n3]
  rw [eh, if_neg]
  have hc : corrB h = true := by
    unfold corrB
    simp only [Bool.and_eq_true, decide_eq_true_eq]
    omega
  rw [hc]
  rintro (q | q | q)
  · cases q
  · omega
  · omega
end Go.Proofs.YtfbjhkpdlihgeaaGreat
namespace Go.Proofs.YtfbjhkpdlihgeaaGreat
open Go.Proofs
def awP (i : Nat) : List UInt8 := partB exC (encB exC) 10 i
def okA (x : Except Nat Asm) : Asm := match x with | .ok a => a | .error _ => zasm
def awA1 : Asm := okA (begA (awP 2))
def awA2 : Asm := okA (addA awA1 (awP 0))
def awA3 : Asm := okA (addA awA2 (awP 1))
theorem aw_enc : encE exC = 0 := by kernel_rfl
theorem aw_len : (encB exC).length = 25 := by kernel_rfl
theorem aw_spl : splP exC 10 = .ok [awP 0, awP 1, awP 2] := by kernel_rfl
theorem aw_beg : begA (awP 2) = .ok awA1 := by kernel_rfl
theorem aw_add1 : addA awA1 (awP 0) = .ok awA2 := by kernel_rfl
theorem aw_add2 : addA awA2 (awP 1) = .ok awA3 := by kernel_rfl
theorem aw_cyc1 : cycA awA2 = .error 15 := by kernel_rfl
theorem aw_cyc2 : cycA awA3 = .ok exC := by kernel_rfl
theorem aw_mis : missA awA2 = [1] := by kernel_rfl
def awH : Hd × List UInt8 := match prsP (awP 1) with | .ok x => x | .error _ => (zhd, [])
theorem aw_prs : prsP (awP 1) = .ok (awH.1, awH.2) := by kernel_rfl
theorem aw_h0 : awH.1.number = 1 := by kernel_rfl
theorem aw_h1 : awH.1.index = 1 := by kernel_rfl
theorem aw_h2 : awH.1.parts = 3 := by kernel_rfl
theorem aw_l0 : (awP 0).length ≤ 100 := Nat.le_of_ble_eq_true (by kernel_rfl)
theorem aw_l1 : (awP 1).length ≤ 100 := Nat.le_of_ble_eq_true (by kernel_rfl)
theorem aw_l2 : (awP 2).length ≤ 100 := Nat.le_of_ble_eq_true (by kernel_rfl)
theorem aw_a1 : awA1.pcs.length = 3 := by kernel_rfl
theorem aw_a2 : awA2.pcs.length = 3 := by kernel_rfl
theorem aw_a3 : awA3.pcs.length = 3 := by kernel_rfl
theorem ex_w : WrS exC.wrs := by
  intro w hw
  obtain rfl : w = ⟨0, 1, [exSec 1, exSec 2]⟩ := by simpa [exC] using hw
  decide
theorem ex_l : (encWrs exC.wrs).length ≤ 800000000 := Nat.le_of_ble_eq_true (by kernel_rfl)
set_option maxRecDepth 8000 in
theorem awake_cc (H : Hp) (V : List Nat)  : CC Tryz.prog 6 [] H V (Pu (cb true) H V) := by
  refine CC.of_swp Tryz.func6 rfl (by kernel_rfl) (by rw [Tryz.ntmps6]; exact len_le _ _ rfl) fun hok hokH => ?_
  clear hok
  refine SWp.seq (Wp.s ?_)
  simp -implicitDefEqProofs [go_sem, args0]
  refine SWp.seq (Wp.s ?_)
  simp -implicitDefEqProofs [go_sem]
  refine CC.mono (example_cc _ _) ?_
  rintro _ _ _ ⟨rfl, rfl, rfl⟩
  simp -implicitDefEqProofs [go_sem]
  refine CC.mono (Encode_cc _ _ exC (by decide) ex_w (by decide) ex_l) ?_
  rintro _ _ _ ⟨rfl, rfl, rfl⟩
  simp -implicitDefEqProofs [go_sem, aw_enc]
  refine SWp.seq (Wp.s ?_)
  simp -implicitDefEqProofs [go_sem]
  refine CC.mono (example_cc _ _) ?_
  rintro _ _ _ ⟨rfl, rfl, rfl⟩
  simp -implicitDefEqProofs [go_sem]
  refine CC.mono (Split_cc _ _ exC 10 (by decide) ex_w (by decide) ex_l) ?_
  rintro _ _ _ ⟨rfl, rfl, rfl⟩
  rw [aw_spl]
  simp -implicitDefEqProofs [go_sem, dvS]
  refine SWp.seq (SWp.seq (Wp.s ?_))
  simp -implicitDefEqProofs [go_sem, aw_len]
  refine Wp.s ?_
  simp -implicitDefEqProofs [go_sem]
  refine SWp.seq (Wp.s ?_)
  simp -implicitDefEqProofs [go_sem]
  refine CC.mono (Begin_cc _ _ .sh (awP 2) (by have := aw_l2; omega)) ?_
  rintro _ _ _ ⟨rfl, rfl, rfl⟩
  rw [aw_beg]
  simp -implicitDefEqProofs [go_sem, dvA]
  refine SWp.seq (SWp.drawnT [] [8] (.s 0 .pl <| .s 1 .pl <| .s 2 .pl <| .s 3 .pl <| .s 4 .pl <| .s 5 .pl <| .s 6 .pl <| .s 7 .pl <| .s 8 .st <| .s 9 .pl <| .n) (by kernel_rfl) (by kernel_rfl) ?_)
  simp -implicitDefEqProofs [go_sem]
  refine CC.mono (Add_cc _ _ .sh awA1 (awP 0) (by rw [aw_a1]; decide) (by have := aw_l0; omega)) ?_
  rintro _ _ _ ⟨rfl, rfl, rfl⟩
  rw [aw_add1]
  simp -implicitDefEqProofs [go_sem, dvA]
  refine SWp.seq (Wp.s ?_)
  simp -implicitDefEqProofs [go_sem]
  refine CC.mono (Cycle_cc _ _ awA2 (by rw [aw_a2]; decide)) ?_
  rintro _ _ _ ⟨rfl, rfl, rfl⟩
  rw [aw_cyc1]
  simp -implicitDefEqProofs [go_sem, dvC]
  refine SWp.seq (SWp.drawnT [] [9] (.s 0 .pl <| .s 1 .pl <| .s 2 .pl <| .s 3 .pl <| .c 4 <| .s 5 .pl <| .s 6 .pl <| .s 7 .pl <| .s 8 .pl <| .s 9 .st <| .s 10 .pl <| .n) (by kernel_rfl) (by kernel_rfl) ?_)
  simp -implicitDefEqProofs [go_sem]
  refine ⟨_, fun H V => Add_cc H V .sh awA2 (awP 1) (by rw [aw_a2]; decide) (by have := aw_l1; omega), ?_⟩
  rw [aw_add2]
  simp -implicitDefEqProofs [go_sem, dvA]
  refine SWp.seq (Wp.s ?_)
  simp -implicitDefEqProofs [go_sem]
  refine CC.mono (Cycle_cc _ _ awA3 (by rw [aw_a3]; decide)) ?_
  rintro _ _ _ ⟨rfl, rfl, rfl⟩
  rw [aw_cyc2]
  simp -implicitDefEqProofs [go_sem, dvC]
  refine SWp.seq (Wp.s ?_)
  simp -implicitDefEqProofs [go_sem]
  refine CC.mono (Header_cc _ _ .sh (awP 1) (by have := aw_l1; omega)) ?_
  rintro _ _ _ ⟨rfl, rfl, rfl⟩
  rw [aw_prs]
  simp -implicitDefEqProofs [go_sem, dvHdr, aw_h0, aw_h1, aw_h2]
  refine SWp.seq (SWp.drawnT [] [] (.s 0 .pl <| .s 1 .pl <| .s 2 .pl <| .s 3 .pl <| .s 4 .pl <| .s 5 .pl <| .s 6 .pl <| .s 7 .pl <| .s 8 .pl <| .s 9 .pl <| .s 10 .pl <| .s 11 .pl <| .s 12 .pl <| .s 13 .pl <| .s 14 .pl <| .s 15 .pl <| .s 16 .pl <| .s 17 .pl <| .s 18 .pl <| .s 19 .pl <| .s 20 .pl <| .s 21 .pl <| .s 22 .pl <| .s 23 .pl <| .s 24 .pl <| .s 25 .pl <| .s 26 .pl <| .s 27 .pl <| .s 28 .pl <| .s 29 .pl <| .s 30 .pl <| .s 31 .pl <| .s 32 .pl <| .s 33 .pl <| .s 34 .pl <| .s 35 .pl <| .s 37 .pl <| .s 36 .pl <| .s 38 .pl <| .s 39 .pl <| .s 40 .pl <| .s 41 .pl <| .s 42 .pl <| .s 43 .pl <| .s 44 .pl <| .s 45 .pl <| .n) (by kernel_rfl) (by kernel_rfl) ?_)
  simp -implicitDefEqProofs [go_sem]
  refine CC.mono (Missing_cc _ _ awA2 (by rw [aw_a2]; decide)) ?_
  rintro _ _ _ ⟨rfl, rfl, rfl⟩
  rw [aw_mis]
  simp -implicitDefEqProofs [go_sem]
  refine CC.mono (show CC Tryz.prog 20 [.sl .sh 1 ([1].map ic), .sl .ti 1 ([1].map ic)] _ _ (Pu (.v (.bool (decide (([1] : List Int) = [1])))) _ _) from SameInts_cc _ _ _ _ [1] [1] (by decide)) ?_
  rintro _ _ _ ⟨rfl, rfl, rfl⟩
  simp -implicitDefEqProofs [go_sem]
  refine CC.mono (example_cc _ _) ?_
  rintro _ _ _ ⟨rfl, rfl, rfl⟩
  simp -implicitDefEqProofs [go_sem]
  refine CC.mono (SameCyc_cc _ _ exC exC (by decide) (by decide) ex_w) ?_
  rintro _ _ _ ⟨rfl, rfl, rfl⟩
  simp -implicitDefEqProofs [go_sem]
  refine Wp.s ?_
  simp -implicitDefEqProofs [go_sem]
  exact Fin.bool rfl hokH (by simp) (by simp)
end Go.Proofs.YtfbjhkpdlihgeaaGreat
namespace Go.Proofs.YtfbjhkpdlihgeaaGreat
open Go.Proofs
def asmOf (x : Except Nat Asm) : Asm := match x with | .ok a => a | .error _ => zasm
def errOf {α : Type} (x : Except Nat α) : Nat := match x with | .ok _ => 0 | .error e => e
theorem dvA_eq (x : Except Nat Asm) : dvA x = .tup [.agg (asmC (asmOf x)), er (errOf x)] := by cases x <;> rfl
theorem begA_of {b : List UInt8} (h : (begA b).isOk = true) : (asmOf (begA b)).pcs.length ≤ 65536 := by
  rcases hb : begA b with e | a
  · rw [hb] at h; cases h
  · exact begA_pcs hb
theorem asmOf_beg (b : List UInt8) : (asmOf (begA b)).pcs.length ≤ 65536 ∧ (asmOf (begA b)).seen.length ≤ 65536 := by
  rcases hb : begA b with e | a
  · exact ⟨Nat.zero_le _, Nat.zero_le _⟩
  · refine ⟨begA_pcs hb, ?_⟩
    unfold begA at hb
    rcases hp : prsP b with e | ⟨q, r⟩
    · rw [hp] at hb; cases hb
    · obtain ⟨o1, o2, o3, o4, o5, o6, o7, o8, o9⟩ := prsP_ok hp
      rw [hp] at hb; cases hb
      simp only [asmOf, List.length_set, List.length_replicate]
      omega
theorem asmOf_add {a : Asm} (b : List UInt8) {n : Nat} (h1 : a.pcs.length ≤ n) (h2 : a.seen.length ≤ n) : (asmOf (addA a b)).pcs.length ≤ n ∧ (asmOf (addA a b)).seen.length ≤ n := by
  rcases hb : addA a b with e | x
  · exact ⟨Nat.zero_le _, Nat.zero_le _⟩
  · refine ⟨by rw [asmOf, addA_pcs hb]; exact h1, ?_⟩
    unfold addA at hb
    split at hb
    · cases hb
    rcases hp : prsP b with e | ⟨q, r⟩
    · rw [hp] at hb; cases hb
    · rw [hp] at hb
      dsimp only at hb
      repeat' split at hb
      all_goals cases hb
      simpa [asmOf] using h2
theorem missF_le : ∀ (k : Nat) (l : List Bool), (missF k l).length ≤ l.length
  | _, [] => Nat.le_refl _
  | k, b :: l => by
    rw [missF]
    have := missF_le (k + 1) l
    split
    · rw [List.length_cons]; omega
    · rw [List.length_cons, List.length_cons]; omega
theorem missA_len (a : Asm) (h : a.seen.length ≤ 60) : (missA a).length ≤ 1000000000 := by
  unfold missA
  split
  · exact Nat.zero_le _
  · have := missF_le 0 a.seen
    omega
end Go.Proofs.YtfbjhkpdlihgeaaGreat
namespace Go.Proofs.YtfbjhkpdlihgeaaGreat
theorem pcOf_len {b : List UInt8} {n i : Nat} (hn : 1 ≤ n) (h : i < nPc b.length n) : 1 ≤ (pcOf b n i).length ∧ (pcOf b n i).length ≤ n := by
  have := (nPc_lt hn).1 h
  unfold pcOf
  rw [List.length_take, List.length_drop]
  omega
theorem pcOf_full {b : List UInt8} {n i : Nat} (hn : 1 ≤ n) (h : i + 1 < nPc b.length n) : (pcOf b n i).length = n := by
  have := (nPc_lt hn).1 h
  rw [Nat.mul_add, Nat.mul_one] at this
  unfold pcOf
  rw [List.length_take, List.length_drop]
  omega
theorem pcs_take (b : List UInt8) (n : Nat) : ∀ k, ((List.range k).map (pcOf b n)).flatten = b.take (n * k)
  | 0 => by simp
  | k + 1 => by
    rw [List.range_succ, List.map_append, List.flatten_append, pcs_take b n k]
    simp only [List.map_cons, List.map_nil, List.flatten_cons, List.flatten_nil, List.append_nil, pcOf]
    rw [Nat.mul_add, Nat.mul_one, List.take_add]
theorem pcs_all {b : List UInt8} {n : Nat} (hn : 1 ≤ n) : ((List.range (nPc b.length n)).map (pcOf b n)).flatten = b := by
  rw [pcs_take, List.take_of_length_le]
  have := mt (nPc_lt (len := b.length) (i := nPc b.length n) hn).2 (by omega)
  omega
/-- The assembly with some of the parts. -/
def asmS (c : Cyc) (b : List UInt8) (n : Nat) (S : Nat → Bool) : Asm :=
  ⟨c.number, nPc b.length n, rn (crc b), (List.range (nPc b.length n)).map (fun i => if S i = true then pcOf b n i else []), (List.range (nPc b.length n)).map S⟩
theorem asmS_congr {c : Cyc} {b : List UInt8} {n : Nat} {S S' : Nat → Bool} (h : ∀ i, i < nPc b.length n → S i = S' i) : asmS c b n S = asmS c b n S' := by
  unfold asmS
  congr 1
  · exact List.map_congr_left fun i hi => by rw [h i (List.mem_range.1 hi)]
  · exact List.map_congr_left fun i hi => h i (List.mem_range.1 hi)
theorem set_range {α : Type} {f g : Nat → α} {k i : Nat} (h : ∀ j, j < k → j ≠ i → g j = f j) : ((List.range k).map f).set i (g i) = (List.range k).map g := by
  apply List.ext_getElem (by simp)
  intro j h1 h2
  have hj : j < k := by simpa using h2
  rw [List.getElem_set]
  split
  · rename_i q; subst q; simp
  · rename_i q; simp [h j hj (fun e => q e.symm)]
theorem rn_rng (r : Reg) : 0 ≤ rn r ∧ rn r ≤ 4294967295 := by
  unfold rn
  have := r.isLt
  omega
def firB (l : List (List UInt8)) : List UInt8 → List UInt8
  | [] => l.getD 0 []
  | x :: _ => pickP l x
theorem gatP_eq {l : List (List UInt8)} {o : List UInt8} (h : l ≠ []) : gatP l o = (o.map (pickP l) ++ l.reverse).foldl stA (stB (firB l o)) := by
  unfold gatP
  rw [if_neg h]
  cases o <;> rfl
section
variable {c : Cyc} {b : List UInt8} {n : Nat} (hb : b = encB c) (he : encE c = 0) (hn : 1 ≤ n) (hn2 : n ≤ 4096)
include hb he hn hn2
theorem parts_rng : 1 ≤ nPc b.length n ∧ nPc b.length n ≤ 65536 := by
  have h1 : b.length ≤ 65536 := hb ▸ encB_len c
  have h2 : 1 ≤ b.length := hb ▸ encB_pos he
  have h3 := nPc_le (len := b.length) hn
  refine ⟨?_, by omega⟩
  have := (nPc_lt (len := b.length) (i := 0) hn).2 (by omega)
  omega
theorem prs_part {i : Nat} (hi : i < nPc b.length n) {r : List UInt8} (r1 : 1 ≤ r.length) (r2 : r.length ≤ 4096) : prsP (encHd ⟨c.number, nPc b.length n, rn (crc b), i⟩ ++ r) = .ok (⟨c.number, nPc b.length n, rn (crc b), i⟩, r) := by
  have ok := chkC_ok (encE_0 he).1
  have q := parts_rng hb he hn hn2
  have q2 := rn_rng (crc b)
  have b0 := ok.b0; have b1 := ok.b1; have b2 := ok.n1
  exact prsP_put (by show 1 ≤ c.number; omega) (by show c.number ≤ _; omega) (by show (0 : Int) ≤ i; omega) (by show (i : Int) < nPc b.length n; omega) (by show ((nPc b.length n : Nat) : Int) ≤ _; omega) q2.1 q2.2 r1 r2
theorem asmS_chk (S : Nat → Bool) : chkA (asmS c b n S) = 0 := by
  have ok := chkC_ok (encE_0 he).1
  have q := parts_rng hb he hn hn2
  have q2 := rn_rng (crc b)
  have b0 := ok.b0; have b1 := ok.b1; have b2 := ok.n1
  refine chkA_ok ?_ ?_
  · rw [Bool.eq_false_iff, Ne, asmHd_iff]
    simp only [asmS, List.length_map, List.length_range]
    omega
  · rw [List.any_eq_false]
    rintro ⟨p, s⟩ hx
    obtain ⟨j, hj, e⟩ := List.getElem_of_mem hx
    have hj' : j < nPc b.length n := by simpa [asmS] using hj
    rw [List.getElem_zip] at e
    simp only [asmS, List.getElem_map, List.getElem_range, Prod.mk.injEq] at e
    obtain ⟨rfl, rfl⟩ := e
    have l := pcOf_len hn hj'
    dsimp only
    rw [Bool.not_eq_true]
    cases hs : S j
    · exact badPc0 (by simp) (by simp)
    · rw [if_pos rfl]
      exact badPc0 (decide_eq_true (by omega)) (by omega)
theorem beg_part {i : Nat} (hi : i < nPc b.length n) : begA (partB c b n i) = .ok (asmS c b n (fun j => decide (j = i))) := by
  have l := pcOf_len hn hi
  unfold begA partB
  rw [prs_part hb he hn hn2 hi l.1 (by omega)]
  dsimp only
  rw [show ((nPc b.length n : Nat) : Int).toNat = nPc b.length n from rfl, show ((i : Nat) : Int).toNat = i from rfl]
  unfold asmS
  congr 2
  · have := set_range (k := nPc b.length n) (i := i) (f := fun _ => ([] : List UInt8)) (g := fun j => if decide (j = i) = true then pcOf b n j else []) (fun j _ h => by simp [h])
    simp only [decide_true, if_true] at this
    rw [← this, List.map_const', List.length_range]
  · have := set_range (k := nPc b.length n) (i := i) (f := fun _ => false) (g := fun j => decide (j = i)) (fun j _ h => by simp [h])
    simp only [decide_true] at this
    rw [← this, List.map_const', List.length_range]
theorem add_part (S : Nat → Bool) {i : Nat} (hi : i < nPc b.length n) : addA (asmS c b n S) (partB c b n i) = .ok (asmS c b n (fun j => S j || decide (j = i))) := by
  have l := pcOf_len hn hi
  unfold partB
  rw [addA_ok (asmS_chk hb he hn hn2 S) (prs_part hb he hn hn2 hi l.1 (by omega))]
  rw [if_neg (by simp [asmS]), if_neg (by simp [asmS]), show ((i : Nat) : Int).toNat = i from rfl]
  rw [if_neg]
  · unfold asmS
    congr 2
    · have := set_range (k := nPc b.length n) (i := i) (f := fun j => if S j = true then pcOf b n j else []) (g := fun j => if (S j || decide (j = i)) = true then pcOf b n j else []) (fun j _ h => by simp [h])
      simp only [decide_true, Bool.or_true, if_true] at this
      exact this
    · have := set_range (k := nPc b.length n) (i := i) (f := S) (g := fun j => S j || decide (j = i)) (fun j _ h => by simp [h])
      simp only [decide_true, Bool.or_true] at this
      exact this
  · rintro ⟨h1, h2⟩
    apply h2
    rw [List.getD_eq_getElem?_getD] at h1 ⊢
    simp only [asmS, List.getElem?_map, List.getElem?_range hi, Option.map_some, Option.getD_some] at h1 ⊢
    rw [if_pos h1]
theorem fold_parts : ∀ (is : List Nat) (S : Nat → Bool), (∀ i ∈ is, i < nPc b.length n) → (is.map (partB c b n)).foldl stA (asmS c b n S, true) = (asmS c b n (fun j => S j || is.contains j), true)
  | [], S, _ => by simp
  | i :: is, S, h => by
    rw [List.map_cons, List.foldl_cons, stA_ok (x := (asmS c b n S, true)) rfl (add_part hb he hn hn2 S (h i (by simp))), fold_parts is _ fun j hj => h j (List.mem_cons_of_mem _ hj)]
    congr 1
    refine asmS_congr fun j _ => ?_
    rw [Bool.eq_iff_iff]
    simp [or_assoc]
/-- What is gathered of some of the parts. -/
theorem gat_parts (is : List Nat) (h0 : is ≠ []) (h : ∀ i ∈ is, i < nPc b.length n) (o : List UInt8) : gatP (is.map (partB c b n)) o = (asmS c b n (fun j => is.contains j), true) := by
  have hl : 0 < is.length := List.length_pos_iff.2 h0
  have pk : ∀ x : UInt8, pickP (is.map (partB c b n)) x = partB c b n (is[x.toNat % is.length]'(Nat.mod_lt _ hl)) := fun x => by
    unfold pickP
    rw [List.length_map, List.getD_eq_getElem?_getD, List.getElem?_map, List.getElem?_eq_getElem (Nat.mod_lt _ hl)]; rfl
  obtain ⟨k, hk, hfirst⟩ : ∃ k, k ∈ is ∧ firB (is.map (partB c b n)) o = partB c b n k := by
    cases o with
    | nil =>
      refine ⟨is[0], List.getElem_mem _, ?_⟩
      rw [firB, List.getD_eq_getElem?_getD, List.getElem?_map, List.getElem?_eq_getElem hl]; rfl
    | cons x o => exact ⟨_, List.getElem_mem _, pk x⟩
  obtain ⟨js, hjs, hj⟩ : ∃ js : List Nat, (∀ j ∈ js, j ∈ is) ∧ o.map (pickP (is.map (partB c b n))) = js.map (partB c b n) := by
    refine ⟨o.map fun x => is[x.toNat % is.length]'(Nat.mod_lt _ hl), fun j hj => ?_, ?_⟩
    · obtain ⟨x, _, rfl⟩ := List.mem_map.1 hj
      exact List.getElem_mem _
    · rw [List.map_map]
      exact List.map_congr_left fun x _ => pk x
  rw [gatP_eq (by simpa using h0), hfirst, hj, stB, beg_part hb he hn hn2 (h k hk)]
  dsimp only
  rw [← List.map_reverse, ← List.map_append, fold_parts hb he hn hn2 _ _ fun j hj => ?_]
  · congr 1
    refine asmS_congr fun j _ => ?_
    rw [Bool.eq_iff_iff]
    simp only [Bool.or_eq_true, decide_eq_true_eq, List.contains_iff_mem, List.mem_append, List.mem_reverse]
    constructor
    · rintro (rfl | q | q)
      · exact hk
      · exact hjs _ q
      · exact q
    · exact fun q => .inr (.inr q)
  · rcases List.mem_append.1 hj with q | q
    · exact h j (hjs j q)
    · exact h j (List.mem_reverse.1 q)
theorem cyc_all : cycA (asmS c b n (fun _ => true)) = .ok c := by
  have ok := chkC_ok (encE_0 he).1
  have h1 : b.length ≤ 65536 := hb ▸ encB_len c
  have hcat : catP (asmS c b n (fun _ => true)).pcs = b := by
    unfold catP asmS
    simp only [if_true]
    exact pcs_all hn
  rw [cycA_eq, if_neg (by rw [asmS_chk hb he hn hn2]; simp), if_neg, hcat, if_neg (by omega), if_neg (by simp [asmS]), hb, decC_enc he]
  · dsimp only
    rw [if_neg (by simp [asmS])]
  · unfold gapB asmS
    simp
theorem cyc_gap {S : Nat → Bool} {k : Nat} (hk : k < nPc b.length n) (hS : S k = false) : cycA (asmS c b n S) = .error 15 := by
  rw [cycA_eq, if_neg (by rw [asmS_chk hb he hn hn2]; simp), if_pos]
  unfold gapB asmS
  exact List.contains_iff_mem.2 (List.mem_map.2 ⟨k, List.mem_range.2 hk, hS⟩)
end
theorem missF_all : ∀ (k : Nat) (l : List Bool), (∀ x ∈ l, x = true) → missF k l = []
  | _, [], _ => rfl
  | k, x :: l, h => by
    rw [missF, if_pos (h x (by simp)), missF_all (k + 1) l fun y hy => h y (List.mem_cons_of_mem _ hy)]
theorem missF_one : ∀ (m k a : Nat), a ≤ k → k < a + m → missF a ((List.range' a m).map (fun j => decide (j ≠ k))) = [(k : Int)]
  | 0, k, a, h1, h2 => by omega
  | m + 1, k, a, h1, h2 => by
    rw [List.range'_succ, List.map_cons, missF]
    by_cases h : a = k
    · subst h
      rw [if_neg (by simp)]
      congr 1
      refine missF_all _ _ fun x hx => ?_
      obtain ⟨j, hj, rfl⟩ := List.mem_map.1 hx
      have := List.mem_range'_1.1 hj
      exact decide_eq_true (by omega)
    · rw [if_pos (decide_eq_true h)]
      exact missF_one m k (a + 1) (by omega) (by omega)
section
variable {c : Cyc} {b : List UInt8} {n : Nat} (hb : b = encB c) (he : encE c = 0) (hn : 1 ≤ n) (hn2 : n ≤ 4096)
include hb he hn hn2
theorem miss_all : missA (asmS c b n (fun _ => true)) = [] := by
  rw [missA, if_neg (by rw [asmS_chk hb he hn hn2]; simp)]
  exact missF_all _ _ fun x hx => by
    obtain ⟨j, _, rfl⟩ := List.mem_map.1 hx
    rfl
theorem miss_one {k : Nat} (hk : k < nPc b.length n) : missA (asmS c b n (fun j => decide (j ≠ k))) = [(k : Int)] := by
  rw [missA, if_neg (by rw [asmS_chk hb he hn hn2]; simp)]
  unfold asmS
  rw [List.range_eq_range']
  exact missF_one _ k 0 (by omega) (by omega)
/-- All parts, taken in any order. -/
theorem gat_all (o : List UInt8) : gatP (partsB c b n) o = (asmS c b n (fun _ => true), true) := by
  have q := parts_rng hb he hn hn2
  unfold partsB
  rw [gat_parts hb he hn hn2 _ (by simp; omega) (fun i hi => List.mem_range.1 hi)]
  congr 1
  refine asmS_congr fun i hi => ?_
  exact List.contains_iff_mem.2 (List.mem_range.2 hi)
/-- All parts but one. -/
theorem gat_but {k : Nat} (hk : k < nPc b.length n) (h2 : 2 ≤ nPc b.length n) (o : List UInt8) : gatP ((partsB c b n).take k ++ (partsB c b n).drop (k + 1)) o = (asmS c b n (fun j => decide (j ≠ k)), true) := by
  unfold partsB
  have hm : ∀ j, j ∈ (List.range (nPc b.length n)).take k ++ (List.range (nPc b.length n)).drop (k + 1) ↔ j < nPc b.length n ∧ j ≠ k := fun j => by
    rw [List.mem_append, List.mem_take_iff_getElem, List.mem_drop_iff_getElem]
    simp only [List.getElem_range, List.length_range]
    constructor
    · rintro (⟨i, hi, rfl⟩ | ⟨i, hi, rfl⟩)
      · omega
      · omega
    · rintro ⟨h1, h3⟩
      by_cases h : j < k
      · exact .inl ⟨j, by omega, rfl⟩
      · exact .inr ⟨j - (k + 1), by omega, by omega⟩
  rw [← List.map_take, ← List.map_drop, ← List.map_append, gat_parts hb he hn hn2 _ ?_ (fun i hi => ((hm i).1 hi).1)]
  · congr 1
    refine asmS_congr fun j hj => ?_
    rw [Bool.eq_iff_iff, List.contains_iff_mem, hm, decide_eq_true_eq]
    exact ⟨fun q => q.2, fun q => ⟨hj, q⟩⟩
  · intro e
    have h3 : ∀ j, ¬ (j < nPc b.length n ∧ j ≠ k) := fun j hj => by
      have := (hm j).2 hj
      rw [e] at this; cases this
    by_cases h : k = 0
    · exact h3 1 ⟨by omega, by omega⟩
    · exact h3 0 ⟨by omega, by omega⟩
end
end Go.Proofs.YtfbjhkpdlihgeaaGreat
namespace Go.Proofs.YtfbjhkpdlihgeaaGreat
/-- The last byte is another one. -/
def bumpL (l : List UInt8) : List UInt8 := l.set (l.length - 1) (l.getD (l.length - 1) 0 + 1)
theorem bump_ne {l : List UInt8} (h : 1 ≤ l.length) : l ≠ bumpL l := fun e => by
  have h1 : (l[l.length - 1]?) = (bumpL l)[l.length - 1]? := by rw [← e]
  unfold bumpL at h1
  rw [List.getElem?_set_self (by omega), List.getD_eq_getElem?_getD, List.getElem?_eq_getElem (by omega)] at h1
  have h2 := Option.some.inj h1
  rw [Option.getD_some] at h2
  have h3 := congrArg UInt8.toNat h2
  rw [UInt8.toNat_add] at h3
  have := (l[l.length - 1]).toNat_lt
  have e1 : (1 : UInt8).toNat = 1 := rfl
  rw [e1] at h3
  omega
theorem bump_len (l : List UInt8) : (bumpL l).length = l.length := by rw [bumpL, List.length_set]
theorem bump_app (a : List UInt8) {l : List UInt8} (h : 1 ≤ l.length) : bumpL (a ++ l) = a ++ bumpL l := by
  unfold bumpL
  rw [List.length_append, List.getD_eq_getElem?_getD, List.getElem?_append_right (by omega), List.set_append_right _ _ (by omega), show a.length + l.length - 1 - a.length = l.length - 1 by omega, List.getD_eq_getElem?_getD]
section
variable {c : Cyc} {b : List UInt8} {n : Nat} (hb : b = encB c) (he : encE c = 0) (hn : 1 ≤ n) (hn2 : n ≤ 4096)
include hb he hn hn2
theorem add_other {d : Cyc} {b' : List UInt8} (hb' : b' = encB d) (he' : encE d = 0) (hne : c.number ≠ d.number) (S : Nat → Bool) {i : Nat} (hi : i < nPc b'.length n) : addA (asmS c b n S) (partB d b' n i) = .error 7 := by
  have l := pcOf_len hn hi
  unfold partB
  rw [addA_ok (asmS_chk hb he hn hn2 S) (prs_part hb' he' hn hn2 hi l.1 (by omega)), if_pos (fun e => hne e.symm)]
theorem add_bump (S : Nat → Bool) {i : Nat} (hi : i < nPc b.length n) (hS : S i = true) : addA (asmS c b n S) (bumpL (partB c b n i)) = .error 22 := by
  have l := pcOf_len hn hi
  unfold partB
  rw [bump_app _ l.1]
  rw [addA_ok (asmS_chk hb he hn hn2 S) (prs_part hb he hn hn2 hi (by rw [bump_len]; exact l.1) (by rw [bump_len]; omega))]
  rw [if_neg (by simp [asmS]), if_neg (by simp [asmS]), show ((i : Nat) : Int).toNat = i from rfl, if_pos]
  rw [List.getD_eq_getElem?_getD, List.getD_eq_getElem?_getD]
  simp only [asmS, List.getElem?_map, List.getElem?_range hi, Option.map_some, Option.getD_some]
  exact ⟨hS, by rw [if_pos hS]; exact bump_ne l.1⟩
end
end Go.Proofs.YtfbjhkpdlihgeaaGreat
namespace Go.Proofs.YtfbjhkpdlihgeaaGreat
open Go.Proofs
structure FewC (c : Cyc) : Prop where
  wl : c.wrs.length ≤ 40
  ws : ∀ w ∈ c.wrs, w.data.length ≤ 24
  pl : c.poss.length ≤ 40
theorem few23_ok {c : Cyc} (h : few23 c = true) : FewC c := by
  unfold few23 few22 at h
  simp only [Bool.and_eq_true, decide_eq_true_eq, List.all_eq_true] at h
  refine ⟨h.2.2, fun w hw => ?_, h.1⟩
  have := h.2.1 w
  rw [List.take_of_length_le (by omega)] at this
  exact this hw
theorem flat_le2 {α : Type} {f : α → List UInt8} {k : Nat} : ∀ {l : List α}, (∀ a ∈ l, (f a).length ≤ k) → (l.flatMap f).length ≤ k * l.length
  | [], _ => Nat.zero_le _
  | a :: l, h => by
    rw [List.flatMap_cons, List.length_append, List.length_cons, Nat.mul_add, Nat.mul_one]
    have := h a (by simp)
    have := flat_le2 fun b hb => h b (List.mem_cons_of_mem a hb)
    omega
theorem FewC.wrS {c : Cyc} (h : FewC c) : WrS c.wrs := fun w hw => by have := h.ws w hw; omega
theorem FewC.enc {c : Cyc} (h : FewC c) : (encWrs c.wrs).length ≤ 800000000 := by
  have h1 := flat_le2 (f := encWr) (k := 216) (l := c.wrs) fun w hw => by
    have := h.ws w hw
    have a1 := enc_len w.volume
    have a2 := enc_len w.start
    have a3 := enc_len w.data.length
    unfold encWr
    rw [List.length_append, List.length_append, encSecs_len]
    omega
  have h2 := enc_len c.wrs.length
  have h3 := h.wl
  unfold encWrs
  rw [List.length_append]
  omega
theorem parts_len {c : Cyc} {b : List UInt8} {n : Nat} (hn : 1 ≤ n) (hn2 : n ≤ 4096) : ∀ p ∈ partsB c b n, p.length ≤ 800000000 := fun p hp => by
  obtain ⟨i, hi, rfl⟩ := List.mem_map.1 hp
  have h1 := pcOf_len (b := b) hn (List.mem_range.1 hi)
  have h2 := encHd_len ⟨c.number, nPc b.length n, rn (crc b), i⟩
  unfold partB
  rw [List.length_append]
  omega
theorem asmS_pl (c : Cyc) (b : List UInt8) (n : Nat) (S : Nat → Bool) : (asmS c b n S).pcs.length = nPc b.length n := by simp [asmS]
end Go.Proofs.YtfbjhkpdlihgeaaGreat
namespace Go.Proofs.YtfbjhkpdlihgeaaGreat
open Go.Proofs
end Go.Proofs.YtfbjhkpdlihgeaaGreat
namespace Go.Proofs.YtfbjhkpdlihgeaaGreat
open Go.Proofs
end Go.Proofs.YtfbjhkpdlihgeaaGreat
namespace Go.Proofs.YtfbjhkpdlihgeaaGreat
open Go.Proofs
/-- Bytes, one cell each. -/
def fbB (l : List UInt8) : List CV := l.map fun b => CV.v (.int .u8 (b.toNat : Int))
theorem fbB_flat : ∀ l : List UInt8, (bs l).flatten = fbB l
  | [] => rfl
  | b :: l => by rw [bs, List.map_cons, List.flatten_cons]; exact congrArg (_ :: ·) (fbB_flat l)
@[go_sem, simp] theorem fbB_len (l : List UInt8) : (fbB l).length = l.length := by rw [fbB, List.length_map]
@[go_sem] theorem fbB_get (l : List UInt8) (i : Nat) (h : i < (fbB l).length) : (fbB l)[i] = CV.v (.int .u8 ((l[i]'(by simpa using h)).toNat : Int)) := by simp [fbB]
theorem fbB_set (l : List UInt8) (i : Nat) (c : UInt8) (h : i < l.length) : (fbB l).take i ++ CV.v (.int .u8 (c.toNat : Int)) :: (fbB l).drop (i + 1) = fbB (l.set i c) := by
  rw [List.set_eq_take_append_cons_drop, if_pos h]
  simp [fbB]
theorem fbB_chunks : ∀ l : List UInt8, chunks 1 l.length (fbB l) = bs l
  | [] => rfl
  | b :: l => by
    rw [List.length_cons, chunks]
    exact congrArg (_ :: ·) (fbB_chunks l)
@[go_sem] theorem okL_fbB (i j : Nat) (l : List UInt8) : okL i j (fbB l) = True := eq_true (okL_iff.2 fun c hc => by
  obtain ⟨b, -, rfl⟩ := List.mem_map.1 hc
  rw [okV]; trivial)
theorem wrap_u8s (x : UInt8) : IntKind.u8.wrap ((x.toNat : Int) + 1) = (((x + 1 : UInt8).toNat : Nat) : Int) := by
  rw [IntKind.wrap_u8, UInt8.toNat_add]
  have := x.toNat_lt
  have e1 : (1 : UInt8).toNat = 1 := rfl
  rw [e1]; omega
end Go.Proofs.YtfbjhkpdlihgeaaGreat
