import Derived.Test.YtmgoflhjblombaaGreatDoorD5
import Derived.Test.YtmgoflhjblombaaGreatDoorD4
import Derived.ChangeKeysEq
import Derived.WalkSmall
set_option linter.unusedSimpArgs false
set_option linter.unusedVariables false
set_option linter.unusedSectionVars false
namespace Go.Proofs.YtmgoflhjblombaaGreatDoor
open Go.Proofs
@[go_sem] theorem hbx_at1 (H : Hp) (a : Option (List CV)) (cs : List CV) (L : Hp) (K : List CV → Prop) : hbx (H ++ a :: some cs :: L) (H.length + 1) K = K cs := by
  rw [show H ++ a :: some cs :: L = (H ++ [a]) ++ some cs :: L by simp]; exact hbx_at (by simp)
@[go_sem] theorem set_at1 (H : Hp) (a c d : Option (List CV)) (L : Hp) : (H ++ a :: c :: L).set (H.length + 1) d = H ++ a :: d :: L := by
  rw [show H ++ a :: c :: L = (H ++ [a]) ++ c :: L by simp, set_at (by simp)]; simp
def tabC : List CV := (List.range 256).map fun j => c32 (tabE j)
theorem tabC_len : tabC.length = 256 := by rw [tabC, List.length_map, List.length_range]
theorem tabC_get (i : Nat) (h : i < tabC.length) : tabC[i] = c32 (tabE i) := by
  simp only [tabC, List.getElem_map, List.getElem_range]
theorem tabC_all : allOne tabC = true := by
  simp only [allOne, tabC, List.all_map, List.all_eq_true]; intros; rfl
theorem okL_tabC (i j : Nat) : okL i j tabC = True := eq_true (by
  rw [okL_iff]; intro c hc
  simp only [tabC, List.mem_map] at hc
  obtain ⟨b, _, rfl⟩ := hc
  trivial)
theorem tabC_take : tabC.take 256 = tabC := List.take_of_length_le (by rw [tabC_len]; exact Nat.le_refl _)
theorem fill_tab {α : Type} {cs : List α} {f : Nat → α} {i : Nat} (hc : i < cs.length) (ht : cs.take i = (List.range i).map f) : (cs.take i ++ f i :: cs.drop (i + 1)).take (i + 1) = (List.range (i + 1)).map f := by
  have h : (cs.take i).length = i := by rw [List.length_take]; omega
  rw [List.take_append, List.take_of_length_le (by omega), h, show i + 1 - i = 1 by omega, List.take_succ_cons, List.take_zero, ht, List.range_succ, List.map_append]; rfl
set_option maxRecDepth 20000 in
theorem registers_cc (H : Hp) (V : List Nat) : CC Tryz.prog 116 [] H V (Pu (.agg tabC) H V) := by
  refine CC.of_swp Tryz.func116 rfl (by kernel_rfl) (by rw [Tryz.ntmps116]; exact len_le _ _ rfl) fun hok hokH => ?_
  refine SWp.seq (Wp.s ?_)
  simp -implicitDefEqProofs [go_sem, args0]
  refine SWp.seq (Wp.s ?_)
  simp -implicitDefEqProofs [go_sem]
  obtain ⟨zs, hzs⟩ : ∃ zs, z256.map CV.v = zs := ⟨_, rfl⟩
  have hzl : zs.length = 256 := by rw [← hzs, List.length_map, z256, List.length_replicate]
  rw [hzs]
  refine SWp.join (α := Unit) (fun _ => ([(1, .ptr (H.length + 1) 0), (0, .ptr H.length 0)], H ++ [some zs, some tabC], V)) (fun _ => True) ?_ ?_
  · refine SWp.seq (Wp.s ?_)
    simp -implicitDefEqProofs [go_sem]
    refine SWp.block ?_
    refine SWp.loop (α := Nat × List CV) (fun x => ([(5, ci x.1), (1, .ptr (H.length + 1) 0), (0, .ptr H.length 0)], H ++ [some zs, some x.2], V)) (fun x => x.1 ≤ 256 ∧ x.2.length = 256 ∧ x.2.take x.1 = (List.range x.1).map fun j => c32 (tabE j)) (fun x => 256 - x.1) (0, zs) ⟨Nat.zero_le _, hzl, rfl⟩ (Sh.forget (by simp -implicitDefEqProofs [go_sem]) rfl rfl) ?_
    rintro ⟨i, cs⟩ ⟨hi, hc, ht⟩
    dsimp only at hi hc ht ⊢
    refine SWp.seq (Wp.s ?_)
    simp -implicitDefEqProofs [go_sem]
    refine SWp.seq (Wp.s ?_)
    by_cases h : i < 256
    · simp -implicitDefEqProofs [go_sem, show (i : Int) < 256 by omega]
      refine SWp.seq (SWp.block ?_)
      refine SWp.seq (Wp.s ?_)
      simp -implicitDefEqProofs [go_sem]
      refine SWp.seq (Wp.s ?_)
      have hwi := ofNatR (show i < 4294967296 by omega)
      simp -implicitDefEqProofs [go_sem, hwi]
      refine SWp.join (α := Unit) (fun _ => ([(3, c32 (tabE i)), (2, ci i), (5, ci i), (1, .ptr (H.length + 1) 0), (0, .ptr H.length 0)], H ++ [some zs, some cs], V)) (fun _ => True) ?_ ?_
      · refine SWp.seq (Wp.s ?_)
        simp -implicitDefEqProofs [go_sem]
        refine SWp.block ?_
        refine SWp.loop (α := Nat × Reg) (fun x => ([(10, ci x.1), (3, c32 x.2), (2, ci i), (5, ci i), (1, .ptr (H.length + 1) 0), (0, .ptr H.length 0)], H ++ [some zs, some cs], V)) (fun x => x.1 ≤ 8 ∧ bits (8 - x.1) x.2 = tabE i) (fun x => 8 - x.1) (0, BitVec.ofNat 32 i) ⟨Nat.zero_le _, rfl⟩ (Sh.forget (by simp -implicitDefEqProofs [go_sem]) rfl rfl) ?_
        rintro ⟨q, r⟩ ⟨hq, hr⟩
        dsimp only at hq hr ⊢
        refine Wp.s ?_
        by_cases hq8 : q < 8
        · simp -implicitDefEqProofs [go_sem, show (q : Int) < 8 by omega, and1R, shr1R, stepR]
          refine ⟨q + 1, bit1 r, ⟨by omega, ?_⟩, by omega, Sh.forget (by simp -implicitDefEqProofs [go_sem, wrap_succ (show q ≤ 1000000000 by omega)]) rfl rfl⟩
          rw [show 8 - q = (8 - (q + 1)) + 1 by omega, bits] at hr
          exact hr
        · simp -implicitDefEqProofs [go_sem, show ¬ (q : Int) < 8 by omega]
          rw [show 8 - q = 0 by omega, bits] at hr
          subst hr
          exact Sh.forget (by simp -implicitDefEqProofs [go_sem]) rfl rfl
      · rintro _ -
        dsimp only
        refine Wp.s ?_
        simp -implicitDefEqProofs [go_sem, h]
        refine ⟨by omega, by omega, ?_⟩
        refine Wp.s ?_
        simp -implicitDefEqProofs [go_sem]
        exact ⟨i + 1, cs.take i ++ c32 (tabE i) :: cs.drop (i + 1), ⟨by omega, by rw [List.length_append, List.length_cons, List.length_take, List.length_drop]; omega, fill_tab (f := fun j => c32 (tabE j)) (by omega) ht⟩, by omega, Sh.forget (by simp -implicitDefEqProofs [go_sem, wrap_succ (show i ≤ 1000000000 by omega)]) rfl rfl⟩
    · simp -implicitDefEqProofs [go_sem, show ¬ (i : Int) < 256 by omega]
      have e : cs = tabC := by
        have e2 : i = 256 := by omega
        rw [e2, List.take_of_length_le (by omega)] at ht
        exact ht
      rw [e]
      exact Sh.forget (by simp -implicitDefEqProofs [go_sem]) rfl rfl
  · rintro _ -
    dsimp only
    refine Wp.s ?_
    simp -implicitDefEqProofs [go_sem, tabC_len, tabC_take, tabC_all, hzl]
    exact Fin.pu (.refl _) (by simp -implicitDefEqProofs [go_sem, okL_tabC]) hokH (by simp) (by simp)
end Go.Proofs.YtmgoflhjblombaaGreatDoor
namespace Go.Proofs.YtmgoflhjblombaaGreatDoor
open Go.Proofs
theorem Update_cc (H : Hp) (V : List Nat) (tk : Tk) (s : Reg) (l : List UInt8) (hl : l.length ≤ 900000000) : CC Tryz.prog 99 [c32 s, .sl tk 1 (bs l)] H V (Pu (c32 (~~~(crcR (~~~s) l))) H V) := by
  refine CC.of_swp Tryz.func99 rfl (by kernel_rfl) (by rw [Tryz.ntmps99]; exact len_le _ _ rfl) fun hok hokH => ?_
  clear hok
  refine SWp.seq (Wp.s ?_)
  simp -implicitDefEqProofs [go_sem, args0]
  refine SWp.seq (Wp.s ?_)
  simp -implicitDefEqProofs [go_sem]
  refine CC.mono (registers_cc _ _) ?_
  rintro _ _ _ ⟨rfl, rfl, rfl⟩
  have hzl : (z256.map CV.v).length = 256 := by rw [List.length_map, z256, List.length_replicate]
  have hzl' : z256.length = 256 := by rw [z256, List.length_replicate]
  simp -implicitDefEqProofs [go_sem, tabC_len, tabC_all, hzl', List.drop_eq_nil_of_le]
  refine SWp.seq (Wp.s ?_)
  simp -implicitDefEqProofs [go_sem, maxU32, notR]
  refine SWp.join (α := Unit) (fun _ => ([(6, c32 (crcR (~~~s) l))], H ++ [some tabC], V)) (fun _ => True) ?_ ?_
  · refine SWp.seq (Wp.s ?_)
    simp -implicitDefEqProofs [go_sem]
    refine SWp.block ?_
    refine SWp.loop (α := Nat × Reg) (fun x => ([(14, ci x.1), (6, c32 x.2), (5, .ptr H.length 0), (12, .sl tk 1 (bs l)), (13, ci l.length)], H ++ [some tabC], V)) (fun x => x.1 ≤ l.length ∧ crcR x.2 (l.drop x.1) = crcR (~~~s) l) (fun x => l.length - x.1) (0, ~~~s) ⟨Nat.zero_le _, rfl⟩ (Sh.forget (by simp -implicitDefEqProofs [go_sem]) rfl rfl) ?_
    rintro ⟨i, r⟩ ⟨hi, hr⟩
    dsimp only at hi hr ⊢
    refine Wp.s ?_
    by_cases h : i < l.length
    · rw [List.drop_eq_getElem_cons h] at hr
      have hr : crcR (regB r l[i]) (l.drop (i + 1)) = crcR (~~~s) l := hr
      rw [reg_table] at hr
      have hx : (r ^^^ BitVec.ofNat 32 l[i].toNat).toNat % 256 < 256 := Nat.mod_lt _ (by omega)
      have hx8 := xor8 r l[i]
      generalize (r ^^^ BitVec.ofNat 32 l[i].toNat).toNat % 256 = j at hr hx hx8
      simp -implicitDefEqProofs [go_sem, h, shr8R, hx8, hx, tabC_len, tabC_get, xorR]
      exact ⟨by omega, i + 1, r >>> 8 ^^^ tabE j, ⟨by omega, hr⟩, by omega, Sh.forget (by simp -implicitDefEqProofs [go_sem, wrap_succ (show i ≤ 1000000000 by omega)]) rfl rfl⟩
    · simp -implicitDefEqProofs [go_sem, h]
      rw [List.drop_eq_nil_of_le (by omega)] at hr
      have hr : r = crcR (~~~s) l := hr
      rw [← hr]
      exact Sh.forget (by simp -implicitDefEqProofs [go_sem]) rfl rfl
  · rintro _ -
    dsimp only
    refine Wp.s ?_
    simp -implicitDefEqProofs [go_sem, maxU32, notR]
    exact Fin.pu (.refl _) (by simp -implicitDefEqProofs [go_sem]) hokH (by simp) (by simp)
theorem Sum_cc (H : Hp) (V : List Nat) (tk : Tk) (l : List UInt8) (hl : l.length ≤ 900000000) : CC Tryz.prog 75 [.sl tk 1 (bs l)] H V (Pu (c32 (crc l)) H V) := by
  refine CC.of_swp Tryz.func75 rfl (by kernel_rfl) (by rw [Tryz.ntmps75]; exact len_le _ _ rfl) fun hok hokH => Wp.s ?_
  simp -implicitDefEqProofs [go_sem, args0]
  refine CC.mono (Update_cc H V tk 0#32 l hl) ?_
  rintro _ _ _ ⟨rfl, rfl, rfl⟩
  simp -implicitDefEqProofs [go_sem]
  exact Fin.pu (.refl _) (by simp -implicitDefEqProofs [go_sem]) hokH (by simp) (by simp)
end Go.Proofs.YtmgoflhjblombaaGreatDoor
namespace Go.Proofs.YtmgoflhjblombaaGreatDoor
section
variable {P : Program}
end
end Go.Proofs.YtmgoflhjblombaaGreatDoor
namespace Go.Proofs.YtmgoflhjblombaaGreatDoor
open Go.Proofs
end Go.Proofs.YtmgoflhjblombaaGreatDoor
namespace Go.Proofs.YtmgoflhjblombaaGreatDoor
open Go.Proofs
abbrev iv (n : Int) : CV := .v (.int .i64 n)
theorem validJ_iff (s c : Int) : validJ s c = true ↔ (0 ≤ s ∧ 20 ≤ c ∧ s ≤ 4096 ∧ c ≤ 4096 - s) := by simp only [validJ, Bool.and_eq_true, decide_eq_true_eq, and_assoc]
theorem validJ_f (s c : Int) : validJ s c = false ↔ ¬ (0 ≤ s ∧ 20 ≤ c ∧ s ≤ 4096 ∧ c ≤ 4096 - s) := by rw [← validJ_iff, Bool.not_eq_true]
theorem valid_cc (H : Hp) (V : List Nat) (s c : Int) : CC Tryz.prog 27 [.agg [iv s, iv c]] H V (Pu (cb (validJ s c)) H V) := by
  refine CC.of_swp Tryz.func27 rfl (by kernel_rfl) (by rw [Tryz.ntmps27]; exact len_le _ _ rfl) fun hok hokH => ?_
  clear hok
  refine SWp.seq (Wp.s ?_)
  simp -implicitDefEqProofs [go_sem, args0]
  by_cases c1 : 0 ≤ s
  case neg =>
    refine Wp.s ?_
    simp -implicitDefEqProofs [go_sem, c1]
    exact Fin.bool (((validJ_f s c).2 (by omega)).symm) hokH (by simp) (by simp)
  by_cases c2 : 20 ≤ c
  case neg =>
    refine Wp.s ?_
    simp -implicitDefEqProofs [go_sem, c1, c2]
    exact Fin.bool (((validJ_f s c).2 (by omega)).symm) hokH (by simp) (by simp)
  by_cases c3 : s ≤ 4096
  case neg =>
    refine Wp.s ?_
    simp -implicitDefEqProofs [go_sem, c1, c2, c3]
    exact Fin.bool (((validJ_f s c).2 (by omega)).symm) hokH (by simp) (by simp)
  have w1 : IntKind.i64.wrap (4096 - s) = 4096 - s := IntWalk.i64_in _ ⟨by omega, by omega⟩
  refine Wp.s ?_
  simp -implicitDefEqProofs [go_sem, c1, c2, c3, w1]
  refine Fin.bool ?_ hokH (by simp) (by simp)
  simp [validJ, c1, c2, c3]
theorem length_cc (H : Hp) (V : List Nat) (s c : Int) (h : validJ s c = true) : CC Tryz.prog 31 [.agg [iv s, iv c]] H V (Pu (iv (c - 16)) H V) := by
  refine CC.of_swp Tryz.func31 rfl (by kernel_rfl) (by rw [Tryz.ntmps31]; exact len_le _ _ rfl) fun hok hokH => ?_
  clear hok
  have hv := (validJ_iff s c).1 h
  refine SWp.seq (Wp.s ?_)
  simp -implicitDefEqProofs [go_sem, args0]
  refine Wp.s ?_
  simp -implicitDefEqProofs [go_sem, IntWalk.i64_in (c - 16) ⟨by omega, by omega⟩]
  exact Fin.int rfl hokH (by simp) (by simp)
theorem sector_cc (H : Hp) (V : List Nat) (s c p : Int) (h : validJ s c = true) (h1 : 0 ≤ p) (h2 : p ≤ 1000000) : CC Tryz.prog 30 [.agg [iv s, iv c], iv p] H V (Pu (iv (s + 16 + p)) H V) := by
  refine CC.of_swp Tryz.func30 rfl (by kernel_rfl) (by rw [Tryz.ntmps30]; exact len_le _ _ rfl) fun hok hokH => ?_
  clear hok
  have hv := (validJ_iff s c).1 h
  refine SWp.seq (Wp.s ?_)
  simp -implicitDefEqProofs [go_sem, args0]
  refine Wp.s ?_
  simp -implicitDefEqProofs [go_sem, IntWalk.i64_in (s + 16) ⟨by omega, by omega⟩, IntWalk.i64_in (s + 16 + p) ⟨by omega, by omega⟩]
  exact Fin.int rfl hokH (by simp) (by simp)
theorem RSize_cc (H : Hp) (V : List Nat) (n : Int) : CC Tryz.prog 34 [iv n] H V (Pu (iv (szR n)) H V) := by
  refine CC.of_swp Tryz.func34 rfl (by kernel_rfl) (by rw [Tryz.ntmps34]; exact len_le _ _ rfl) fun hok hokH => ?_
  clear hok
  refine SWp.seq (Wp.s ?_)
  simp -implicitDefEqProofs [go_sem, args0]
  refine SWp.seq (SWp.seq (Wp.s ?_))
  by_cases c1 : n < 0
  · simp -implicitDefEqProofs [go_sem, c1]
    refine Wp.s ?_
    simp -implicitDefEqProofs [go_sem]
    exact Fin.int (by rw [szR, if_pos (.inl c1)]) hokH (by simp) (by simp)
  by_cases c2 : 4096 < n
  · simp -implicitDefEqProofs [go_sem, c1, c2]
    refine Wp.s ?_
    simp -implicitDefEqProofs [go_sem]
    exact Fin.int (by rw [szR, if_pos (.inr c2)]) hokH (by simp) (by simp)
  have w1 : IntKind.i64.wrap (3 + n) = 3 + n := IntWalk.i64_in _ ⟨by omega, by omega⟩
  have w2 : IntKind.i64.wrap (3 + n + 4) = 3 + n + 4 := IntWalk.i64_in _ ⟨by omega, by omega⟩
  have w3 : IntKind.i64.wrap (3 + n + 4 + 4) = 3 + n + 4 + 4 := IntWalk.i64_in _ ⟨by omega, by omega⟩
  have w4 : IntKind.i64.wrap (3 + n + 4 + 4 - 1) = n + 10 := (IntWalk.i64_in _ ⟨by omega, by omega⟩).trans (by omega)
  have w5 : IntKind.i64.wrap ((n + 10).tdiv 4) = (n + 10) / 4 := by rw [Int.tdiv_eq_ediv_of_nonneg (by omega)]; exact IntWalk.i64_in _ ⟨by omega, by omega⟩
  simp -implicitDefEqProofs [go_sem, c1, c2]
  refine Wp.s ?_
  simp -implicitDefEqProofs [go_sem]
  refine Wp.s ?_
  simp -implicitDefEqProofs [go_sem, w1, w2, w3, w4, w5]
  exact Fin.int (by rw [szR, if_neg (by omega)]) hokH (by simp) (by simp)
def stJ (j : Jrn) (u : Int) : List CV := [iv j.start, iv j.count] ++ jrC j ++ [iv u]
@[go_sem, simp] theorem stJ_len (j : Jrn) (u : Int) : (stJ j u).length = 9 := by rw [stJ, jrC]; rfl
@[go_sem, simp] theorem stJ_take (j : Jrn) (u : Int) : (stJ j u).take 9 = stJ j u := rfl
@[go_sem, simp] theorem stJ_drop (j : Jrn) (u : Int) : (stJ j u).drop 9 = [] := rfl
@[go_sem, simp] theorem stJ_take2 (j : Jrn) (u : Int) : (stJ j u).take 2 = [iv j.start, iv j.count] := rfl
@[go_sem, simp] theorem stJ_mid (j : Jrn) (u : Int) : ((stJ j u).drop 2).take 6 = jrC j := rfl
@[go_sem, simp] theorem stJ_mid2 (j : Jrn) (u : Int) : ((stJ j u).take 8).drop 2 = jrC j := rfl
@[go_sem, simp] theorem stJ_all (j : Jrn) (u : Int) : allOne (stJ j u) = true := rfl
@[go_sem, simp] theorem stJ_1 (j : Jrn) (u : Int) (h : 1 < (stJ j u).length) : (stJ j u)[1] = iv j.count := rfl
@[go_sem, simp] theorem stJ_5 (j : Jrn) (u : Int) (h : 5 < (stJ j u).length) : (stJ j u)[5] = iv j.tail := rfl
@[go_sem, simp] theorem stJ_6 (j : Jrn) (u : Int) (h : 6 < (stJ j u).length) : (stJ j u)[6] = iv j.first := rfl
@[go_sem, simp] theorem stJ_7 (j : Jrn) (u : Int) (h : 7 < (stJ j u).length) : (stJ j u)[7] = .sl .sh 1 (j.sizes.map ic) := rfl
@[go_sem, simp] theorem stJ_8 (j : Jrn) (u : Int) (h : 8 < (stJ j u).length) : (stJ j u)[8] = iv u := rfl
@[go_sem] theorem okL_stJ (a b : Nat) (j : Jrn) (u : Int) : okL a b (stJ j u) = True := by simp [stJ, jrC, go_sem, okL, okV, okE_ints]
theorem next_cc (H : Hp) (V : List Nat) (j : Jrn) (u : Int) (h1 : 1 ≤ j.first) (h2 : j.first + j.sizes.length ≤ 1073741824) : CC Tryz.prog 50 [.agg (stJ j u)] H V (Pu (iv (nextJ j)) H V) := by
  refine CC.of_swp Tryz.func50 rfl (by kernel_rfl) (by rw [Tryz.ntmps50]; exact len_le _ _ rfl) fun hok hokH => ?_
  clear hok
  refine SWp.seq (Wp.s ?_)
  simp -implicitDefEqProofs [go_sem, args0]
  refine Wp.s ?_
  simp -implicitDefEqProofs [go_sem, IntWalk.i64_in (j.first + (j.sizes.length : Int)) ⟨by omega, by omega⟩]
  exact Fin.int rfl hokH (by simp) (by simp)
theorem free_cc (H : Hp) (V : List Nat) (j : Jrn) (u : Int) (h : validJ j.start j.count = true) (h1 : 0 ≤ u) (h2 : u ≤ 100000) : CC Tryz.prog 51 [.agg (stJ j u)] H V (Pu (iv (j.count - 16 - u)) H V) := by
  refine CC.of_swp Tryz.func51 rfl (by kernel_rfl) (by rw [Tryz.ntmps51]; exact len_le _ _ rfl) fun hok hokH => ?_
  clear hok
  have hv := (validJ_iff _ _).1 h
  refine SWp.seq (Wp.s ?_)
  simp -implicitDefEqProofs [go_sem, args0]
  refine SWp.seq (SWp.drawnT [] [] (.s 0 .pl <| .s 1 .pl <| .c 2 <| .s 3 .pl <| .s 4 .pl <| .s 5 .pl <| .s 6 .pl <| .n) (by kernel_rfl) (by kernel_rfl) ?_)
  simp -implicitDefEqProofs [go_sem]
  refine ⟨_, fun H V => length_cc H V j.start j.count h, ?_⟩
  simp -implicitDefEqProofs [go_sem]
  refine Wp.s ?_
  simp -implicitDefEqProofs [go_sem, IntWalk.i64_in (j.count - 16 - u) ⟨by omega, by omega⟩]
  exact Fin.int rfl hokH (by simp) (by simp)
end Go.Proofs.YtmgoflhjblombaaGreatDoor
namespace Go.Proofs.YtmgoflhjblombaaGreatDoor
open Go.Proofs
def dvP (n i : Nat) : Nat := n / 256 ^ i
theorem dvP_0 (n : Nat) : dvP n 0 = n := Nat.div_one n
theorem dvP_succ (n i : Nat) : dvP n (i + 1) = dvP n i / 256 := by unfold dvP; rw [Nat.pow_succ, Nat.div_div_eq_div_mul]
def leN (n : Nat) : Nat → List UInt8
  | 0 => []
  | k + 1 => leN n k ++ [byt (dvP n k : Nat)]
@[simp] theorem leN_len (n : Nat) : ∀ k, (leN n k).length = k
  | 0 => rfl
  | k + 1 => by rw [leN, List.length_append, leN_len n k]; rfl
theorem leN_4 (n : Nat) : leN n 4 = le4 n := by
  have e : ∀ m : Nat, byt (m : Int) = UInt8.ofNat (m % 256) := fun m => by
    apply UInt8.toNat_inj.1
    have := byt_toNat (m : Int)
    rw [UInt8.toNat_ofNat']; omega
  simp only [leN, e, List.nil_append, List.cons_append, le4, dvP]
  rw [show (256 : Nat) ^ 0 = 1 from rfl, Nat.div_one]
theorem shr8 (n i : Nat) : shr .i64 ((dvP n i : Nat) : Int) 8 = ((dvP n (i + 1) : Nat) : Int) := by
  rw [dvP_succ]
  unfold shr
  rw [show ((dvP n i : Nat) : Int).fdiv (2 ^ (min (8 : Int).toNat IntKind.i64.bits)) = ((dvP n i / 256 : Nat) : Int) by rw [Int.fdiv_eq_ediv_of_nonneg _ (by decide)]; show ((dvP n i : Nat) : Int) / 256 = _; omega]
theorem little_cc (H : Hp) (V : List Nat) (n k : Nat) (hk : k ≤ 8) : CC Tryz.prog 74 [ci n, ci k] H V (Fr 1 (bs (leN n k)) H V) := by
  refine CC.of_swp Tryz.func74 rfl (by kernel_rfl) (by rw [Tryz.ntmps74]; exact len_le _ _ rfl) fun hok hokH => ?_
  clear hok
  refine SWp.seq (Wp.s ?_)
  simp -implicitDefEqProofs [go_sem, args0]
  refine SWp.seq (Wp.s ?_)
  simp -implicitDefEqProofs [go_sem]
  refine SWp.join (α := Nat) (fun v => ([(5, .sl (.own V.length v) 1 (bs (leN n k)))], H, V ++ [v])) (fun _ => True) ?_ ?_
  · refine SWp.seq (Wp.s ?_)
    simp -implicitDefEqProofs [go_sem]
    refine SWp.block ?_
    refine SWp.loop (α := Nat × Nat) (fun x => ([(0, ci (dvP n x.1 : Nat)), (5, .sl (.own V.length x.2) 1 (bs (leN n x.1))), (6, ci k), (7, ci x.1)], H, V ++ [x.2])) (fun x => x.1 ≤ k) (fun x => k - x.1) (0, 0) (Nat.zero_le _) (Sh.tokT (by simp [go_sem, leN, dvP_0]) rfl rfl) ?_
    rintro ⟨i, v⟩ hi
    dsimp only at hi ⊢
    refine Wp.s ?_
    simp -implicitDefEqProofs [go_sem, shr8]
    refine ⟨fun h => ⟨by omega, i + 1, by omega, by omega, v + 1, Sh.forget ?_ rfl rfl⟩, fun h => ⟨v, Sh.forget ?_ rfl rfl⟩⟩
    · simp [go_sem, wrap_succ (show i ≤ 1000000000 by omega), leN]
    · obtain rfl : i = k := by omega
      simp [go_sem]
  · rintro v -
    refine Wp.s ?_
    simp -implicitDefEqProofs [go_sem]
    exact Fin.fresh rfl (okBs _ _ _) hokH (by simp)
end Go.Proofs.YtmgoflhjblombaaGreatDoor
namespace Go.Proofs.YtmgoflhjblombaaGreatDoor
open Go.Proofs
theorem sumI_snoc (l : List Int) (x : Int) : sumI (l ++ [x]) = sumI l + x := by rw [sumI, List.foldl_append]; rfl
theorem sumI_take (l : List Int) (i : Nat) (h : i < l.length) : sumI (l.take (i + 1)) = sumI (l.take i) + l[i] := by rw [List.take_succ_eq_append_getElem h, sumI_snoc]
theorem sumI_cons (x : Int) (l : List Int) : sumI (x :: l) = x + sumI l := by
  have : ∀ (l : List Int) (a : Int), l.foldl (· + ·) a = a + l.foldl (· + ·) 0 := fun l => by
    induction l with
    | nil => intro a; simp
    | cons y l ih => intro a; rw [List.foldl_cons, List.foldl_cons, ih (a + y), ih (0 + y)]; omega
  rw [sumI, List.foldl_cons, this]; simp [sumI]
theorem okSz_iff (n : Int) : okSz n = true ↔ 2 ≤ n ∧ n ≤ 1026 := by simp [okSz]
theorem sumI_app (a b : List Int) : sumI (a ++ b) = sumI a + sumI b := by
  induction a with
  | nil => simp [sumI]
  | cons x a ih => rw [List.cons_append, sumI_cons, sumI_cons, ih]; omega
theorem sumI_ge : ∀ l : List Int, l.all okSz = true → 2 * (l.length : Int) ≤ sumI l
  | [], _ => by decide
  | x :: l, h => by
    rw [List.all_cons, Bool.and_eq_true, okSz_iff] at h
    have := sumI_ge l h.2
    rw [sumI_cons, List.length_cons]; omega
theorem sumI_mono (l : List Int) (i : Nat) (h : l.all okSz = true) : sumI (l.take i) ≤ sumI l := by
  have e := sumI_app (l.take i) (l.drop i)
  rw [List.take_append_drop] at e
  have h2 : (l.drop i).all okSz = true := by
    rw [List.all_eq_true] at h ⊢; exact fun x hx => h x (List.mem_of_mem_drop hx)
  have := sumI_ge _ h2
  omega
def preJ (j : Jrn) : Bool := decide (0 ≤ j.head) && decide (j.head < j.count - 16) && decide (1 ≤ j.first) && decide (j.first ≤ 1073741824) && decide ((j.sizes.length : Int) ≤ 1073741824 - j.first)
theorem preJ_iff (j : Jrn) : preJ j = true ↔ 0 ≤ j.head ∧ j.head < j.count - 16 ∧ 1 ≤ j.first ∧ j.first ≤ 1073741824 ∧ (j.sizes.length : Int) ≤ 1073741824 - j.first := by simp only [preJ, Bool.and_eq_true, decide_eq_true_eq, and_assoc]
theorem chkJ_iff (j : Jrn) : chkJ j = true ↔ validJ j.start j.count = true ∧ preJ j = true ∧ j.sizes.all okSz = true ∧ sumI j.sizes ≤ j.count - 16 ∧ j.tail = (j.head + sumI j.sizes) % (j.count - 16) := by
  rw [preJ_iff, chkJ]
  simp only [Bool.and_eq_true, decide_eq_true_eq, and_assoc]
  constructor
  · rintro ⟨h1, h2, h3, h4, h5, h6, h7, h8, h9⟩; exact ⟨h1, h2, h3, h4, h5, by omega, h6, h7, h8⟩
  · rintro ⟨h1, h2, h3, h4, h5, h6, h7, h8, h9⟩; exact ⟨h1, h2, h3, h4, h5, h7, h8, h9, by omega⟩
theorem chkJ_f {j : Jrn} (h : ¬ (validJ j.start j.count = true ∧ preJ j = true ∧ j.sizes.all okSz = true ∧ sumI j.sizes ≤ j.count - 16 ∧ j.tail = (j.head + sumI j.sizes) % (j.count - 16))) : chkJ j = false := by
  rw [← Bool.not_eq_true, chkJ_iff]; exact h
end Go.Proofs.YtmgoflhjblombaaGreatDoor
namespace Go.Proofs.YtmgoflhjblombaaGreatDoor
open Go.Proofs
theorem stJ_raw (j : Jrn) : iv j.start :: iv j.count :: (jrC j ++ iv 0 :: List.drop 7 (jrC j ++ [iv 0])) = stJ j 0 := rfl
@[go_sem, simp] theorem stJ_drop9 (j : Jrn) (u : Int) (k : Nat) : (stJ j u).drop (9 + k) = [] := List.drop_eq_nil_of_le (by simp)
@[go_sem] theorem inA_v (S : List Nat) (u : Value) : inA S (.v u) = True := rfl
abbrev zst : List CV := [iv 0, iv 0, iv 0, iv 0, iv 0, iv 0, iv 0, .v (.slice none 0 0), iv 0]
theorem stJ_upd (j : Jrn) (u w : Int) : List.take 8 (stJ j u) ++ [iv w] = stJ j w := rfl
@[go_sem] theorem Kp_mid (H : Hp) (a x y c : Option (List CV)) : Kp [H.length, H.length + 2] (H ++ [a, x, c]) (H ++ [a, y, c]) = True := by
  refine eq_true (Kp.keep fun b hb => ?_)
  rcases List.mem_cons.1 hb with rfl | hb
  · simp
  · obtain rfl : b = H.length + 2 := by simpa using hb
    rw [hget, hget]; rfl
def XamP (j : Jrn) (H : Hp) (V : List Nat) : CV → Hp → List Nat → Prop := fun r H' V' => ∃ u, r = .tup [.agg (stJ j u), cb (chkJ j)] ∧ H = H' ∧ V = V' ∧ (chkJ j = true → u = sumI j.sizes)
def XL (j : Jrn) (i : Nat) : Prop := i ≤ j.sizes.length ∧ (j.sizes.take i).all okSz = true ∧ sumI (j.sizes.take i) ≤ j.count - 16
def bJ (j : Jrn) : Bool := preJ j && j.sizes.all okSz && decide (sumI j.sizes ≤ j.count - 16)
def XE (j : Jrn) (u : Int) : Prop := 0 ≤ u ∧ u ≤ j.count - 16 ∧ (bJ j = true → u = sumI j.sizes)
theorem XE.all {j : Jrn} {i : Nat} (h : XL j i) (hi : j.sizes.length ≤ i) : XE j (sumI (j.sizes.take i)) ∧ bJ j = preJ j := by
  obtain ⟨_, h2, h3⟩ := h
  have g := sumI_ge _ h2
  refine ⟨⟨by omega, h3, fun _ => by rw [List.take_of_length_le hi]⟩, ?_⟩
  rw [List.take_of_length_le hi] at h2 h3
  simp only [bJ, h2, h3, decide_true, Bool.and_true]
theorem XE.bad {j : Jrn} {i : Nat} (h : XL j i) (hi : i < j.sizes.length) (hb : ¬ (2 ≤ j.sizes[i] ∧ j.sizes[i] ≤ 1026 ∧ sumI (j.sizes.take i) + j.sizes[i] ≤ j.count - 16)) : XE j (sumI (j.sizes.take i)) ∧ bJ j = false := by
  obtain ⟨_, h2, h3⟩ := h
  have g := sumI_ge _ h2
  have hf : bJ j = false := by
    unfold bJ
    by_cases h : j.sizes.all okSz = true
    case neg =>
      have : j.sizes.all okSz = false := by simpa using h
      simp only [this, Bool.and_false, Bool.false_and]
    have g3 := (okSz_iff _).1 (List.all_eq_true.1 h _ (List.getElem_mem hi))
    have g4 := sumI_mono j.sizes (i + 1) h
    rw [sumI_take _ _ hi] at g4
    have : ¬ sumI j.sizes ≤ j.count - 16 := by omega
    simp only [this, decide_false, Bool.and_false]
  exact ⟨⟨by omega, h3, fun h => by rw [hf] at h; cases h⟩, hf⟩
theorem chkJ_bJ (j : Jrn) (h : validJ j.start j.count = true) : chkJ j = (bJ j && decide (j.tail = (j.head + sumI j.sizes) % (j.count - 16))) := by
  rw [Bool.eq_iff_iff, chkJ_iff]
  simp [bJ, h, and_assoc]
theorem XL.succ {j : Jrn} {i : Nat} (h : XL j i) (hi : i < j.sizes.length) (h1 : 2 ≤ j.sizes[i]) (h2 : j.sizes[i] ≤ 1026) (hb : sumI (j.sizes.take i) + j.sizes[i] ≤ j.count - 16) : XL j (i + 1) := by
  refine ⟨hi, ?_, by rw [sumI_take _ _ hi]; exact hb⟩
  rw [List.take_succ_eq_append_getElem hi, List.all_append, h.2.1]
  simp [okSz, h1, h2]
set_option maxRecDepth 8000 in
theorem examine_cc (H : Hp) (V : List Nat) (j : Jrn) (hl : j.sizes.length ≤ 1000000000) : CC Tryz.prog 35 [.agg (jrC j)] H V (XamP j H V) := by
  refine CC.of_swp Tryz.func35 rfl (by kernel_rfl) (by rw [Tryz.ntmps35]; exact len_le _ _ rfl) fun hok hokH => ?_
  clear hok
  refine SWp.seq (Wp.s ?_)
  simp -implicitDefEqProofs [go_sem, args0]
  refine SWp.scope ?_
  refine SWp.seq (Wp.s ?_)
  simp -implicitDefEqProofs [go_sem, stJ_raw]
  have fin : ∀ (L : Hp) (u : Int) (b : Bool), b = chkJ j → (chkJ j = true → u = sumI j.sizes) → Fin H.length V.length (XamP j H V) (.tup [.agg (stJ j u), cb b]) (H ++ L) V := fun L u b hb hu => by
    subst hb
    refine Fin.pure ⟨u, rfl, rfl, rfl, hu⟩ (by simp) (by simp) (.refl _) ?_ hokH
    rw [okV]
    simp [go_sem, okL, okV]
  refine SWp.join (α := Unit) (fun _ => ([(1, .ptr H.length 0), (2, .ptr (H.length + 1) 0), (4, .ptr (H.length + 2) 0)], H ++ [some (jrC j), some zst, some (stJ j 0)], V)) (fun _ => validJ j.start j.count = true) ?_ ?_
  · refine SWp.seq (Wp.s ?_)
    simp -implicitDefEqProofs [go_sem]
    refine CC.mono (valid_cc _ _ _ _) ?_
    rintro _ _ _ ⟨rfl, rfl, rfl⟩
    by_cases hv : validJ j.start j.count = true
    case neg =>
      simp -implicitDefEqProofs [go_sem, hv]
      refine Wp.s ?_
      simp -implicitDefEqProofs [go_sem]
      exact fin _ 0 false (chkJ_f (fun h => hv h.1)).symm fun h => absurd ((chkJ_iff j).1 h).1 hv
    simp -implicitDefEqProofs [go_sem, hv]
    refine Wp.s ?_
    simp -implicitDefEqProofs [go_sem]
    exact Sh.forget (by simp [go_sem]) rfl rfl
  rintro _ hv
  dsimp only
  have hvi := (validJ_iff _ _).1 hv
  have nf : ∀ b, (0 ≤ j.head ∧ j.head < j.count - 16 ∧ 1 ≤ j.first ∧ j.first ≤ 1073741824 ∧ (j.sizes.length : Int) ≤ 1073741824 - j.first ↔ b = true) → b = preJ j := fun b h => by
    rw [Bool.eq_iff_iff, preJ_iff, h]
  refine SWp.join (α := Unit) (fun _ => ([(1, .ptr H.length 0), (2, .ptr (H.length + 1) 0), (4, .ptr (H.length + 2) 0), (5, cb (preJ j))], H ++ [some (jrC j), some zst, some (stJ j 0)], V)) (fun _ => True) ?_ ?_
  · refine SWp.drawnT [] [] (.s 0 .pl <| .s 1 .pl <| .s 2 .pl <| .s 3 .pl <| .s 4 .pl <| .s 5 .pl <| .s 6 .pl <| .s 7 .pl <| .s 8 .pl <| .s 9 .pl <| .s 10 .pl <| .s 11 .pl <| .s 12 .pl <| .s 13 .pl <| .s 14 .pl <| .s 15 .pl <| .s 16 .pl <| .s 17 .pl <| .s 18 .pl <| .s 19 .pl <| .s 20 .pl <| .s 21 .pl <| .s 22 .pl <| .s 23 .pl <| .s 24 .pl <| .s 25 .pl <| .s 26 .pl <| .s 27 .pl <| .s 28 .pl <| .s 29 .pl <| .s 30 .pl <| .n) (by kernel_rfl) (by kernel_rfl) ?_
    by_cases c1 : 0 ≤ j.head
    case neg =>
      simp -implicitDefEqProofs [go_sem, c1]
      exact Sh.forget (by simp [go_sem, ← nf false (by simp; omega)]) rfl rfl
    simp -implicitDefEqProofs [go_sem, c1]
    refine CC.mono (length_cc _ _ _ _ hv) ?_
    rintro _ _ _ ⟨rfl, rfl, rfl⟩
    by_cases c2 : j.head < j.count - 16
    case neg =>
      simp -implicitDefEqProofs [go_sem, c1, c2]
      exact Sh.forget (by simp [go_sem, ← nf false (by simp; omega)]) rfl rfl
    by_cases c3 : 1 ≤ j.first
    case neg =>
      simp -implicitDefEqProofs [go_sem, c1, c2, c3]
      exact Sh.forget (by simp [go_sem, ← nf false (by simp; omega)]) rfl rfl
    by_cases c4 : j.first ≤ 1073741824
    case neg =>
      simp -implicitDefEqProofs [go_sem, c1, c2, c3, c4]
      exact Sh.forget (by simp [go_sem, ← nf false (by simp; omega)]) rfl rfl
    have w0 : IntKind.i64.wrap (1073741824 - j.first) = 1073741824 - j.first := IntWalk.i64_in _ ⟨by omega, by omega⟩
    by_cases c5 : (j.sizes.length : Int) ≤ 1073741824 - j.first
    case neg =>
      simp -implicitDefEqProofs [go_sem, c1, c2, c3, c4, c5, w0]
      exact Sh.forget (by simp [go_sem, ← nf false (by simp; omega)]) rfl rfl
    simp -implicitDefEqProofs [go_sem, c1, c2, c3, c4, c5, w0]
    exact Sh.forget (by simp [go_sem, ← nf true (by simp; omega)]) rfl rfl
  rintro _ -
  dsimp only
  refine SWp.seq (Wp.s ?_)
  simp -implicitDefEqProofs [go_sem]
  refine CC.mono (RSize_cc _ _ _) ?_
  rintro _ _ _ ⟨rfl, rfl, rfl⟩
  simp -implicitDefEqProofs [go_sem, show szR 4096 = 1026 from rfl]
  refine SWp.seq (Wp.s ?_)
  simp -implicitDefEqProofs [go_sem]
  refine SWp.join (α := Int) (fun u => ([(1, .ptr H.length 0), (2, .ptr (H.length + 1) 0), (4, .ptr (H.length + 2) 0), (5, cb (bJ j))], H ++ [some (jrC j), some zst, some (stJ j u)], V))
    (fun u => XE j u) ?_ ?_
  · refine SWp.seq (Wp.s ?_)
    simp -implicitDefEqProofs [go_sem]
    refine SWp.block ?_
    refine SWp.loop (α := Nat) (fun i => ([(1, .ptr H.length 0), (2, .ptr (H.length + 1) 0), (4, .ptr (H.length + 2) 0), (5, cb (preJ j)), (6, iv 1026), (51, .sl .sh 1 (j.sizes.map ic)), (52, ci j.sizes.length), (53, ci i)], H ++ [some (jrC j), some zst, some (stJ j (sumI (j.sizes.take i)))], V)) (fun i => XL j i) (fun i => j.sizes.length - i) 0 ⟨Nat.zero_le _, rfl, by show (0 : Int) ≤ _; omega⟩ (Sh.forget (by simp [go_sem, sumI]) rfl rfl) ?_
    rintro i hx
    dsimp only at hx ⊢
    have hi := hx.1
    have hs := hx.2.2
    have g1 := sumI_ge _ hx.2.1
    refine SWp.seq (Wp.s ?_)
    simp -implicitDefEqProofs [go_sem]
    refine SWp.seq (Wp.s ?_)
    simp -implicitDefEqProofs [go_sem]
    refine ⟨fun h => ?_, fun h => ⟨_, (XE.all hx h).1, Sh.forget (by simp [go_sem, (XE.all hx h).2]) rfl rfl⟩⟩
    refine SWp.seq (SWp.block (SWp.seq (Wp.s ?_)))
    simp -implicitDefEqProofs [go_sem, h]
    refine SWp.seq (SWp.seq (SWp.drawnT [] [] (.s 0 .pl <| .s 1 .pl <| .s 2 .pl <| .s 3 .pl <| .s 4 .pl <| .s 5 .pl <| .s 6 .pl <| .s 7 .pl <| .s 8 .pl <| .s 9 .pl <| .s 10 .pl <| .s 11 .pl <| .s 12 .pl <| .s 13 .pl <| .s 14 .pl <| .s 15 .pl <| .s 16 .pl <| .n) (by kernel_rfl) (by kernel_rfl) ?_))
    by_cases c1 : j.sizes[i] < 2
    · simp -implicitDefEqProofs [go_sem, c1]
      refine Wp.s ?_
      simp -implicitDefEqProofs [go_sem]
      exact ⟨_, (XE.bad hx h (by omega)).1, Sh.forget (by simp [go_sem, (XE.bad hx h (by omega)).2]) rfl rfl⟩
    by_cases c2 : 1026 < j.sizes[i]
    · simp -implicitDefEqProofs [go_sem, c1, c2]
      refine Wp.s ?_
      simp -implicitDefEqProofs [go_sem]
      exact ⟨_, (XE.bad hx h (by omega)).1, Sh.forget (by simp [go_sem, (XE.bad hx h (by omega)).2]) rfl rfl⟩
    have w1 : IntKind.i64.wrap (sumI (j.sizes.take i) + j.sizes[i]) = sumI (j.sizes.take i) + j.sizes[i] := IntWalk.i64_in _ ⟨by omega, by omega⟩
    simp -implicitDefEqProofs [go_sem, c1, c2, w1]
    refine CC.mono (length_cc _ _ _ _ hv) ?_
    rintro _ _ _ ⟨rfl, rfl, rfl⟩
    by_cases c3 : j.count - 16 < sumI (j.sizes.take i) + j.sizes[i]
    · simp -implicitDefEqProofs [go_sem, c3]
      refine Wp.s ?_
      simp -implicitDefEqProofs [go_sem]
      exact ⟨_, (XE.bad hx h (by omega)).1, Sh.forget (by simp [go_sem, (XE.bad hx h (by omega)).2]) rfl rfl⟩
    simp -implicitDefEqProofs [go_sem, c3]
    refine Wp.s ?_
    simp -implicitDefEqProofs [go_sem]
    refine Wp.s ?_
    simp -implicitDefEqProofs [go_sem, w1, stJ_upd]
    refine Wp.s ?_
    simp -implicitDefEqProofs [go_sem]
    refine ⟨i + 1, XL.succ hx h (by omega) (by omega) (by omega), by omega, Sh.forget ?_ ?_ rfl⟩
    · simp [go_sem, wrap_succ (show i ≤ 1000000000 by omega)]
    · rw [sumI_take _ _ h]
  rintro u hx
  dsimp only at hx ⊢
  obtain ⟨hu1, hu2, hu⟩ := hx
  refine SWp.seq (SWp.drawnT [H.length, H.length + 2] [16] (.s 0 .pl <| .s 1 .pl <| .s 2 .pl <| .s 3 .pl <| .s 4 .ld <| .s 5 .pl <| .s 6 .ld <| .s 7 .pl <| .s 8 .ld <| .s 9 .pl <| .s 10 .pl <| .s 11 .ld <| .s 12 .pl <| .s 13 .pl <| .s 14 .pl <| .s 15 .pl <| .s 16 .st <| .s 17 .pl <| .n) (by kernel_rfl) (by kernel_rfl) ?_)
  cases hb : bJ j with
  | false =>
    simp -implicitDefEqProofs [go_sem, hb]
    refine Wp.s ?_
    simp -implicitDefEqProofs [go_sem]
    exact fin _ u false (by rw [chkJ_bJ j hv, hb]; rfl) fun h => by rw [chkJ_bJ j hv, hb] at h; cases h
  | true =>
    have hpre : preJ j = true := by
      rw [bJ, Bool.and_eq_true, Bool.and_eq_true] at hb; exact hb.1.1
    have hp := (preJ_iff j).1 hpre
    have w1 : IntKind.i64.wrap (j.head + u) = j.head + u := IntWalk.i64_in _ ⟨by omega, by omega⟩
    have w2 : IntKind.i64.wrap ((j.head + u).tmod (j.count - 16)) = (j.head + u) % (j.count - 16) := by
      rw [Int.tmod_eq_emod_of_nonneg (by omega)]
      have := Int.emod_nonneg (j.head + u) (show j.count - 16 ≠ 0 by omega)
      have := Int.emod_lt_of_pos (j.head + u) (show 0 < j.count - 16 by omega)
      exact IntWalk.i64_in _ ⟨by omega, by omega⟩
    simp -implicitDefEqProofs [go_sem, hb, w1]
    refine CC.mono (length_cc _ _ _ _ hv) ?_
    rintro _ _ _ ⟨rfl, rfl, rfl⟩
    simp -implicitDefEqProofs [go_sem]
    have t1 := Int.tmod_eq_emod_of_nonneg (b := j.count - 16) (show 0 ≤ j.head + u by omega)
    refine ⟨by omega, Wp.s ?_⟩
    simp -implicitDefEqProofs [go_sem]
    refine fin _ u _ ?_ fun _ => hu hb
    rw [chkJ_bJ j hv, hb, t1, hu hb]; simp
end Go.Proofs.YtmgoflhjblombaaGreatDoor
namespace Go.Proofs.YtmgoflhjblombaaGreatDoor
open Go.Proofs
def nxJ (j : Jrn) : Int := if chkJ j then nextJ j else 0
def frJ (j : Jrn) : Int := if chkJ j then freeJ j else 0
theorem chkJ_next {j : Jrn} (h : chkJ j = true) : 1 ≤ j.first ∧ j.first + j.sizes.length ≤ 1073741824 := by
  have := (preJ_iff j).1 ((chkJ_iff j).1 h).2.1
  omega
theorem chkJ_sum {j : Jrn} (h : chkJ j = true) : 0 ≤ sumI j.sizes ∧ sumI j.sizes ≤ j.count - 16 ∧ 2 * (j.sizes.length : Int) ≤ sumI j.sizes := by
  have h := (chkJ_iff j).1 h
  have := sumI_ge _ h.2.2.1
  omega
theorem chkJ_val {j : Jrn} (h : chkJ j = true) : validJ j.start j.count = true := ((chkJ_iff j).1 h).1
theorem JNext_cc (H : Hp) (V : List Nat) (j : Jrn) (hl : j.sizes.length ≤ 1000000000) : CC Tryz.prog 25 [.agg (jrC j)] H V (Pu (iv (nxJ j)) H V) := by
  refine CC.of_swp Tryz.func25 rfl (by kernel_rfl) (by rw [Tryz.ntmps25]; exact len_le _ _ rfl) fun hok hokH => ?_
  clear hok
  refine SWp.seq (Wp.s ?_)
  simp -implicitDefEqProofs [go_sem, args0]
  refine SWp.seq (Wp.s ?_)
  simp -implicitDefEqProofs [go_sem]
  refine CC.mono (examine_cc _ _ j hl) ?_
  rintro _ _ _ ⟨u, rfl, rfl, rfl, hu⟩
  simp -implicitDefEqProofs [go_sem]
  refine SWp.seq (SWp.seq (Wp.s ?_))
  by_cases h : chkJ j = true
  · simp -implicitDefEqProofs [go_sem, h]
    refine Wp.s ?_
    simp -implicitDefEqProofs [go_sem]
    refine Wp.s ?_
    simp -implicitDefEqProofs [go_sem]
    refine CC.mono (next_cc _ _ j u (chkJ_next h).1 (chkJ_next h).2) ?_
    rintro _ _ _ ⟨rfl, rfl, rfl⟩
    simp -implicitDefEqProofs [go_sem]
    exact Fin.int (by rw [nxJ, if_pos h]) hokH (by simp) (by simp)
  · simp -implicitDefEqProofs [go_sem, h]
    refine Wp.s ?_
    simp -implicitDefEqProofs [go_sem]
    exact Fin.int (by rw [nxJ, if_neg h]) hokH (by simp) (by simp)
theorem JFree_cc (H : Hp) (V : List Nat) (j : Jrn) (hl : j.sizes.length ≤ 1000000000) : CC Tryz.prog 23 [.agg (jrC j)] H V (Pu (iv (frJ j)) H V) := by
  refine CC.of_swp Tryz.func23 rfl (by kernel_rfl) (by rw [Tryz.ntmps23]; exact len_le _ _ rfl) fun hok hokH => ?_
  clear hok
  refine SWp.seq (Wp.s ?_)
  simp -implicitDefEqProofs [go_sem, args0]
  refine SWp.seq (Wp.s ?_)
  simp -implicitDefEqProofs [go_sem]
  refine CC.mono (examine_cc _ _ j hl) ?_
  rintro _ _ _ ⟨u, rfl, rfl, rfl, hu⟩
  simp -implicitDefEqProofs [go_sem]
  refine SWp.seq (SWp.seq (Wp.s ?_))
  by_cases h : chkJ j = true
  · have hs := chkJ_sum h
    have hv := (validJ_iff _ _).1 (chkJ_val h)
    obtain rfl := hu h
    simp -implicitDefEqProofs [go_sem, h]
    refine Wp.s ?_
    simp -implicitDefEqProofs [go_sem]
    refine Wp.s ?_
    simp -implicitDefEqProofs [go_sem]
    refine CC.mono (free_cc _ _ j _ (chkJ_val h) (by omega) (by omega)) ?_
    rintro _ _ _ ⟨rfl, rfl, rfl⟩
    simp -implicitDefEqProofs [go_sem]
    exact Fin.int (by rw [frJ, if_pos h]; rfl) hokH (by simp) (by simp)
  · simp -implicitDefEqProofs [go_sem, h]
    refine Wp.s ?_
    simp -implicitDefEqProofs [go_sem]
    exact Fin.int (by rw [frJ, if_neg h]) hokH (by simp) (by simp)
end Go.Proofs.YtmgoflhjblombaaGreatDoor
namespace Go.Proofs.YtmgoflhjblombaaGreatDoor
open Go.Proofs
theorem XL.ok {j : Jrn} (h : j.sizes.all okSz = true) {i : Nat} (hi : i < j.sizes.length) : 2 ≤ j.sizes[i] ∧ j.sizes[i] ≤ 1026 := (okSz_iff _).1 (List.all_eq_true.1 h _ (List.getElem_mem hi))
end Go.Proofs.YtmgoflhjblombaaGreatDoor
namespace Go.Proofs.YtmgoflhjblombaaGreatDoor
open Go.Proofs
theorem payload_cc (H : Hp) (V : List Nat) (h f : Int) : CC Tryz.prog 73 [iv h, iv f] H V (Pu (.sl .sh 1 (bs (superJ h f))) H V) := by
  refine CC.of_swp Tryz.func73 rfl (by kernel_rfl) (by rw [Tryz.ntmps73]; exact len_le _ _ rfl) fun hok hokH => ?_
  clear hok
  have l1 := enc_len h
  refine SWp.seq (Wp.s ?_)
  simp -implicitDefEqProofs [go_sem, args0]
  refine SWp.seq (Wp.s ?_)
  simp -implicitDefEqProofs [go_sem]
  refine CC.le (ys := [.sl .sh 1 (bs []), iv h]) (.cons (.nil 1 (by decide)) (.cons (.refl _) .nil)) ?_
  refine CC.mono (PutInt_cc _ _ .sh [] h (by simp)) ?_
  rintro _ _ _ ⟨v, rfl, rfl, rfl⟩
  simp -implicitDefEqProofs [go_sem]
  refine CC.mono (PutInt_cc _ _ _ (enc h) f (by omega)) ?_
  rintro _ _ _ ⟨v2, rfl, rfl, rfl⟩
  simp -implicitDefEqProofs [go_sem]
  refine Wp.s ?_
  simp -implicitDefEqProofs [go_sem]
  exact Fin.pu (.sh _ _ _) (by rw [okV]; exact ⟨trivial, okBs _ _ _⟩) hokH (by simp) (by simp)
end Go.Proofs.YtmgoflhjblombaaGreatDoor
namespace Go.Proofs.YtmgoflhjblombaaGreatDoor
open Go.Proofs
def kW (c p : Int) (l : List Sec) : Nat := min l.length (c - 16 - p).toNat
theorem wrapW_1 {s c p : Int} {l : List Sec} (h : kW c p l < l.length) : wrapW s c p l = [opW (s + 16 + p) (l.take (kW c p l)), opW (s + 16) (l.drop (kW c p l))] := by
  show opW _ _ :: (if kW c p l < l.length then _ else _) = _
  rw [if_pos h]; rfl
theorem wrapW_0 {s c p : Int} {l : List Sec} (h : ¬ kW c p l < l.length) : wrapW s c p l = [opW (s + 16 + p) (l.take (kW c p l))] := by
  show opW _ _ :: (if kW c p l < l.length then _ else _) = _
  rw [if_neg h]; rfl
theorem write_cc (H : Hp) (V : List Nat) (s c p : Int) (l : List Sec) (h : validJ s c = true) (h1 : 0 ≤ p) (h2 : p ≤ c - 16) (hl : l.length ≤ 1000000) : CC Tryz.prog 52 [.agg [iv s, iv c], iv p, secsV l] H V (Fr 3 ((wrapW s c p l).map opC) H V) := by
  refine CC.of_swp Tryz.func52 rfl (by kernel_rfl) (by rw [Tryz.ntmps52]; exact len_le _ _ rfl) fun hok hokH => ?_
  clear hok
  have hv := (validJ_iff s c).1 h
  obtain ⟨k, hk⟩ : ∃ k, k = kW c p l := ⟨_, rfl⟩
  have hkm : min (l.length : Int) (c - 16 - p) = (k : Int) := by rw [hk, kW]; omega
  have hkl : k ≤ l.length := by rw [hk, kW]; omega
  have w1 : IntKind.i64.wrap (c - 16 - p) = c - 16 - p := IntWalk.i64_in _ ⟨by omega, by omega⟩
  refine SWp.seq (Wp.s ?_)
  simp -implicitDefEqProofs [go_sem, args0]
  refine SWp.seq (Wp.s ?_)
  simp -implicitDefEqProofs [go_sem]
  refine CC.mono (length_cc _ _ _ _ h) ?_
  rintro _ _ _ ⟨rfl, rfl, rfl⟩
  simp -implicitDefEqProofs [go_sem, w1, hkm]
  refine SWp.seq (SWp.drawnT [] [] (.s 0 .pl <| .s 1 .pl <| .s 3 .pl <| .s 4 .pl <| .s 5 .pl <| .s 6 .pl <| .s 2 .pl <| .s 7 .pl <| .s 8 .pl <| .s 9 .pl <| .n) (by kernel_rfl) (by kernel_rfl) ?_)
  simp -implicitDefEqProofs [go_sem, hkl]
  refine CC.mono (sector_cc _ _ _ _ _ h h1 (by omega)) ?_
  rintro _ _ _ ⟨rfl, rfl, rfl⟩
  simp -implicitDefEqProofs [go_sem]
  by_cases hw : k < l.length
  case neg =>
    have hw' : ¬ (k : Int) < (l.length : Int) := by omega
    refine SWp.seq (SWp.seq (Wp.s ?_))
    simp -implicitDefEqProofs [go_sem, hw]
    refine Wp.s ?_
    simp -implicitDefEqProofs [go_sem]
    refine Wp.s ?_
    simp -implicitDefEqProofs [go_sem]
    rw [wrapW_0 (by rw [← hk]; exact hw), ← hk]
    refine Fin.ge (Ge.slk (ys := [opW (s + 16 + p) (l.take k)].map opC) (.cons (.cons (.refl _) (.cons (.refl _) (.cons (by rw [← List.map_take]; exact .sh _ _ _) .nil))) .nil)) ?_
    exact Fin.frtok (by decide) (.inr rfl) (by simp [go_sem, okE_ops]) hokH (by simp) (by simp)
  refine SWp.seq (SWp.seq (Wp.s ?_))
  simp -implicitDefEqProofs [go_sem, hw]
  refine SWp.condT (by simp [go_sem]) ?_
  refine SWp.drawnT [] [] (.s 0 .pl <| .s 1 .pl <| .s 3 .pl <| .s 4 .pl <| .s 5 .pl <| .s 2 .pl <| .s 6 .pl <| .s 7 .pl <| .s 8 .pl <| .s 9 .pl <| .n) (by kernel_rfl) (by kernel_rfl) ?_
  simp -implicitDefEqProofs [go_sem, hkl]
  refine CC.mono (sector_cc _ _ _ _ _ h (Int.le_refl 0) (by omega)) ?_
  rintro _ _ _ ⟨rfl, rfl, rfl⟩
  simp -implicitDefEqProofs [go_sem]
  refine Wp.s ?_
  simp -implicitDefEqProofs [go_sem]
  rw [wrapW_1 (by rw [← hk]; exact hw), ← hk]
  refine Fin.ge (Ge.slk (ys := [opW (s + 16 + p) (l.take k), opW (s + 16) (l.drop k)].map opC) (.cons (.cons (.refl _) (.cons (.refl _) (.cons (by rw [← List.map_take]; exact .sh _ _ _) .nil))) (.cons (.cons (.refl _) (.cons (.refl _) (.cons (by rw [← List.map_drop]; exact .refl _) .nil))) .nil))) ?_
  exact Fin.fresh rfl (by simp [go_sem, okE_ops]) hokH (by simp)
theorem jrC_take5 (j : Jrn) : List.take 5 (jrC j) = [iv j.start, iv j.count, iv j.head, iv j.tail, iv j.first] := rfl
theorem own_cc (H : Hp) (V : List Nat) (j : Jrn) (u : Int) (hl : j.sizes.length ≤ 1000000000) : CC Tryz.prog 36 [.agg (stJ j u)] H V (fun r H' V' => ∃ v, r = .agg [iv j.start, iv j.count, iv j.head, iv j.tail, iv j.first, .sl (.own V.length v) 1 (j.sizes.map ic)] ∧ H = H' ∧ V ++ [v] = V') := by
  refine CC.of_swp Tryz.func36 rfl (by kernel_rfl) (by rw [Tryz.ntmps36]; exact len_le _ _ rfl) fun hok hokH => ?_
  clear hok
  refine SWp.seq (Wp.s ?_)
  simp -implicitDefEqProofs [go_sem, args0]
  refine SWp.seq (Wp.s ?_)
  simp -implicitDefEqProofs [go_sem]
  refine SWp.seq (Wp.s ?_)
  simp -implicitDefEqProofs [go_sem, jrC_take5]
  refine ⟨by omega, ?_⟩
  refine SWp.seq (Wp.s ?_)
  simp -implicitDefEqProofs [go_sem]
  refine Wp.s ?_
  simp -implicitDefEqProofs [go_sem]
  refine Fin.cut H.length (V.length + 1) ⟨0, rfl, rfl, rfl⟩ (Nat.le_refl _) (by omega) (by simp) (by simp) (.refl _) ?_ fun b cs hb => okL_mono (Nat.le_refl _) (by omega) (hokH b cs hb)
  simp [go_sem, okL, okV, okE_ints]
end Go.Proofs.YtmgoflhjblombaaGreatDoor
namespace Go.Proofs.YtmgoflhjblombaaGreatDoor
open Go.Proofs
def jtV (x : Jrn × List Opn × Nat) : CV := .tup [.agg (jrC x.1), opsV x.2.1, er x.2.2]
theorem formatJ_no {s c : Int} (h : ¬ validJ s c = true) : formatJ s c = (zjr, [], 2) := by rw [formatJ, if_pos (by simpa using h)]
theorem superJ_01 : superJ 0 1 = [0, 1] := by rw [superJ, enc, enc, norm, norm, if_neg (by decide), if_neg (by decide), show (0 : Int).toNat = 0 from rfl, show (1 : Int).toNat = 1 from rfl, encN_lt (by decide), encN_lt (by decide)]; rfl
def fmtOps (s : Int) : List Opn := [opW s (List.replicate 16 sec0), opS, opW s (copyS 1 [0, 1]), opS]
theorem formatS_ok {s c : Int} (h : validJ s c = true) : formatS s (superJ 0 1) = (fmtOps s, 0) := by
  have hv := (validJ_iff s c).1 h
  rw [superJ_01, formatS, if_neg (by omega), if_neg (by decide)]; rfl
theorem formatJ_ok {s c : Int} (h : validJ s c = true) : formatJ s c = (⟨s, c, 0, 0, 1, []⟩, opW (s + 16) (List.replicate (c - 16).toNat sec0) :: opS :: fmtOps s, 0) := by
  rw [formatJ, if_neg (by simp [h]), formatS_ok h, if_neg (by simp)]
theorem fin_jt {H H' : Hp} {V V' : List Nat} {x : Jrn × List Opn × Nat} {a b : CV} {e : Nat} (h1 : Le a (.agg (jrC x.1))) (h2 : Le b (opsV x.2.1)) (h3 : e = x.2.2) (hokH : ∀ (b : Nat) cs, H[b]? = some (some cs) → okL H.length V.length cs) (hH : H'.take H.length = H) (hV : V'.take V.length = V) :
    Fin H.length V.length (Pu (jtV x) H V) (.tup [a, b, er e]) H' V' := by
  subst h3
  refine Fin.pu (.tup (.cons h1 (.cons h2 (.cons (.refl _) .nil)))) ?_ hokH hH hV
  rw [jtV, okV, okL, okL, okL, okL]
  simp [go_sem, okL, okV, okL_jrC, okE_ops]
abbrev zjC : List CV := [iv 0, iv 0, iv 0, iv 0, iv 0, .v (.slice none 0 0)]
theorem zj_le : Le (.agg zjC) (.agg (jrC zjr)) := .agg (.cons (.refl _) (.cons (.refl _) (.cons (.refl _) (.cons (.refl _) (.cons (.refl _) (.cons (.nil 1 (by decide)) .nil))))))
theorem LeE.app {a b : List (List CV)} {c d : List (List CV)} : LeE a b → LeE c d → LeE (a ++ c) (b ++ d)
  | .nil, h => h
  | .cons h t, g => .cons h (LeE.app t g)
theorem LeL.rfl' : ∀ l : List CV, LeL l l
  | [] => .nil
  | c :: l => .cons (.refl c) (LeL.rfl' l)
theorem LeE.rfl' : ∀ l : List (List CV), LeE l l
  | [] => .nil
  | c :: l => .cons (LeL.rfl' c) (LeE.rfl' l)
theorem LeE.sync : LeE [[iv 1, iv 0, .v (.slice none 0 0)]] ([opS].map opC) := .cons (.cons (.refl _) (.cons (.refl _) (.cons (.nil 8 (by decide)) .nil))) .nil
theorem ops_le (A B : List Opn) : LeE (A.map opC ++ [iv 1, iv 0, .v (.slice none 0 0)] :: B.map opC) ((A ++ opS :: B).map opC) := by
  rw [List.map_append, List.map_cons]
  exact LeE.app (LeE.rfl' _) (LeE.app LeE.sync (LeE.rfl' (B.map opC)))
theorem jr0_le (s c : Int) : Le (.agg [iv s, iv c, iv 0, iv 0, iv 1, .v (.slice none 0 0)]) (.agg (jrC ⟨s, c, 0, 0, 1, []⟩)) := .agg (.cons (.refl _) (.cons (.refl _) (.cons (.refl _) (.cons (.refl _) (.cons (.refl _) (.cons (.nil 1 (by decide)) .nil))))))
theorem wrapW_all {s c : Int} (h : validJ s c = true) : wrapW s c 0 (List.replicate (c - 16).toNat sec0) = [opW (s + 16) (List.replicate (c - 16).toNat sec0)] := by
  have hk : kW c 0 (List.replicate (c - 16).toNat sec0) = (c - 16).toNat := by rw [kW, List.length_replicate]; simp
  rw [wrapW_0 (by rw [hk, List.length_replicate]; omega), hk, List.take_of_length_le (by simp), Int.add_zero]
theorem call_zeros {f : FuncId} {H : Hp} {V : List Nat} {R : CV → Hp → List Nat → Prop} {xs : List CV} (b n : Nat) (hb : H[b]? = some (some (secsF (List.replicate n sec0)))) (hc : CC Tryz.prog f (xs ++ [secsV (List.replicate n sec0)]) (H.set b none) V R) : CC Tryz.prog f (xs ++ [.bsl b 0 n 8]) H V R := by
  have hch : chunks 8 n ((secsF (List.replicate n sec0)).drop 0) = (List.replicate n sec0).map secC := by
    have := chunks_secs (List.replicate n sec0)
    rwa [List.length_replicate] at this
  refine CC.let_go _ b _ hb ?_ hc
  have : ∀ xs : List CV, FyL b (secsF (List.replicate n sec0)) (xs ++ [.bsl b 0 n 8]) (xs ++ [secsV (List.replicate n sec0)]) := fun xs => by
    induction xs with
    | nil =>
      refine .cons ?_ .nil
      show Fy _ _ _ (.sl .sh 8 ((List.replicate n sec0).map secC))
      rw [← hch]
      exact .bsl _ _ _ (by simp [Nat.mul_comm])
    | cons x xs ih => exact .cons (.refl _) ih
  exact this xs
theorem Format_cc (H : Hp) (V : List Nat) (s c : Int) : CC Tryz.prog 48 [.agg [iv s, iv c]] H V (Pu (jtV (formatJ s c)) H V) := by
  refine CC.of_swp Tryz.func48 rfl (by kernel_rfl) (by rw [Tryz.ntmps48]; exact len_le _ _ rfl) fun hok hokH => ?_
  clear hok
  refine SWp.seq (Wp.s ?_)
  simp -implicitDefEqProofs [go_sem, args0]
  refine SWp.seq (Wp.s ?_)
  simp -implicitDefEqProofs [go_sem]
  refine SWp.seq (SWp.seq (Wp.s ?_))
  simp -implicitDefEqProofs [go_sem]
  refine CC.mono (valid_cc _ _ _ _) ?_
  rintro _ _ _ ⟨rfl, rfl, rfl⟩
  by_cases h : validJ s c = true
  case neg =>
    simp -implicitDefEqProofs [go_sem, h]
    refine Wp.s ?_
    simp -implicitDefEqProofs [go_sem]
    rw [formatJ_no h]
    exact fin_jt zj_le (.nil 3 (by decide)) rfl hokH (by simp) (by simp)
  have hv := (validJ_iff s c).1 h
  simp -implicitDefEqProofs [go_sem, h]
  refine Wp.s ?_
  simp -implicitDefEqProofs [go_sem]
  refine SWp.seq (SWp.drawnT [H.length + 2] [4] (.s 0 .pl <| .s 1 .ld <| .s 5 .pl <| .s 6 .pl <| .s 2 .pl <| .s 3 .pl <| .s 4 .st <| .s 7 .pl <| .s 8 .pl <| .n) (by kernel_rfl) (by kernel_rfl) ?_)
  simp -implicitDefEqProofs [go_sem]
  refine CC.mono (length_cc _ _ _ _ h) ?_
  rintro _ _ _ ⟨rfl, rfl, rfl⟩
  simp -implicitDefEqProofs [go_sem, -List.reduceReplicate]
  refine ⟨by omega, by omega, ?_⟩
  have hz := zeros_secs (c - 16).toNat
  simp only [List.map_cons, List.map_nil] at hz
  rw [hz]
  refine call_zeros (xs := [.agg [iv s, iv c], iv 0]) (H.length + 3) (c - 16).toNat (by simp) ?_
  refine CC.mono (write_cc _ _ s c 0 (List.replicate (c - 16).toNat sec0) h (Int.le_refl 0) (by omega) (by simp; omega)) ?_
  rintro _ _ _ ⟨v, rfl, rfl, rfl⟩
  rw [wrapW_all h]
  obtain ⟨A, hA⟩ : ∃ A, A = [opW (s + 16) (List.replicate (c - 16).toNat sec0)] := ⟨_, rfl⟩
  rw [← hA]
  simp -implicitDefEqProofs [go_sem]
  refine ⟨Kp.keep fun b hb => ?_, by subst hA; simp, ?_⟩
  · obtain rfl : b = H.length + 2 := by simpa using hb
    simp
  refine SWp.seq (SWp.drawnT [] [] (.s 0 .pl <| .s 1 .pl <| .s 2 .pl <| .s 3 .pl <| .s 4 .pl <| .s 5 .pl <| .s 6 .pl <| .s 7 .pl <| .s 8 .pl <| .n) (by kernel_rfl) (by kernel_rfl) ?_)
  simp -implicitDefEqProofs [go_sem]
  refine CC.mono (payload_cc _ _ _ _) ?_
  rintro _ _ _ ⟨rfl, rfl, rfl⟩
  simp -implicitDefEqProofs [go_sem]
  refine CC.mono (sFormat_cc _ _ s _ _) ?_
  rintro _ _ _ ⟨rfl, rfl, rfl⟩
  rw [formatS_ok h]
  simp -implicitDefEqProofs [go_sem, stV]
  refine SWp.seq (SWp.seq (Wp.s ?_))
  simp -implicitDefEqProofs [go_sem]
  refine Wp.s ?_
  simp -implicitDefEqProofs [go_sem]
  refine SWp.seq (SWp.drawnT [] [5] (.s 0 .pl <| .s 1 .pl <| .s 2 .pl <| .s 3 .pl <| .s 4 .pl <| .s 5 .st <| .s 6 .pl <| .s 7 .pl <| .n) (by kernel_rfl) (by kernel_rfl) ?_)
  simp -implicitDefEqProofs [go_sem]
  refine ⟨by subst hA; simp [fmtOps], ?_⟩
  refine Wp.s ?_
  simp -implicitDefEqProofs [go_sem]
  rw [formatJ_ok h]
  refine fin_jt (jr0_le s c) ?_ rfl hokH (by simp) (by simp)
  subst hA
  exact .sle _ _ (ops_le _ _)
theorem FyL.rfl' (b : Nat) (cs : List CV) : ∀ l : List CV, FyL b cs l l
  | [] => .nil
  | c :: l => .cons (.refl c) (FyL.rfl' b cs l)
theorem FyE.rfl' (b : Nat) (cs : List CV) : ∀ l : List (List CV), FyE b cs l l
  | [] => .nil
  | c :: l => .cons (FyL.rfl' b cs c) (FyE.rfl' b cs l)
theorem Fy.zeros (b n : Nat) : Fy b (secsF (List.replicate n sec0)) (.bsl b 0 n 8) (secsV (List.replicate n sec0)) := by
  have hch : chunks 8 n ((secsF (List.replicate n sec0)).drop 0) = (List.replicate n sec0).map secC := by
    have := chunks_secs (List.replicate n sec0)
    rwa [List.length_replicate] at this
  show Fy _ _ _ (.sl .sh 8 ((List.replicate n sec0).map secC))
  rw [← hch]
  exact .bsl _ _ _ (by simp [Nat.mul_comm])
end Go.Proofs.YtmgoflhjblombaaGreatDoor
namespace Go.Proofs.YtmgoflhjblombaaGreatDoor
open Go.Proofs
def encV : Except Nat (List Sec) → CV
  | .ok l => .tup [secsV l, er 0]
  | .error e => .tup [secsV [], er e]
theorem okV_encV (i j : Nat) (x : Except Nat (List Sec)) : okV i j (encV x) := by
  cases x <;> simp only [encV] <;> rw [okV, okL, okL, okL] <;> exact ⟨okV_secsV _ _ _, okV_er _ _ _, trivial⟩
theorem enc_bad {r : Rcd} (h : r.kind < 1 ∨ 255 < r.kind ∨ r.sq < 1 ∨ 4294967295 < r.sq) : encR r = .error 2 := by rw [encR, if_pos h]
theorem enc_long {r : Rcd} (h : ¬ (r.kind < 1 ∨ 255 < r.kind ∨ r.sq < 1 ∨ 4294967295 < r.sq)) (h2 : 4096 < r.pay.length) : encR r = .error 5 := by rw [encR, if_neg h, if_pos h2]
theorem enc_ok {r : Rcd} (h : ¬ (r.kind < 1 ∨ 255 < r.kind ∨ r.sq < 1 ∨ 4294967295 < r.sq)) (h2 : ¬ 4096 < r.pay.length) : encR r = .ok (secsR r.sq.toNat (strmR r.kind r.pay)) := by rw [encR, if_neg h, if_neg h2]
theorem leN_2 (n : Nat) : leN n 2 = [UInt8.ofNat (n % 256), UInt8.ofNat (n / 256 % 256)] := by
  have e : ∀ m : Nat, byt (m : Int) = UInt8.ofNat (m % 256) := fun m => by
    apply UInt8.toNat_inj.1
    have := byt_toNat (m : Int)
    rw [UInt8.toNat_ofNat']; omega
  simp only [leN, e, List.nil_append, List.cons_append, dvP]
  rw [show (256 : Nat) ^ 0 = 1 from rfl, Nat.div_one]
theorem body_eq (k : Int) (p : List UInt8) : bodyR k p = [byt k] ++ leN p.length 2 ++ p := by rw [leN_2]; rfl
theorem body_len (k : Int) (p : List UInt8) : (bodyR k p).length = p.length + 3 := rfl
theorem strm_len (k : Int) (p : List UInt8) : (strmR k p).length = p.length + 7 := by rw [strmR, List.length_append, body_len, le4_len]
theorem u8s_1 (x : Int) : [[CV.v (.int .u8 (IntKind.u8.wrap x))]] = bs [byt x] := by rw [wrap_u8]; rfl
theorem wrap_rn (r : Reg) : IntKind.i64.wrap (rn r) = ((r.toNat : Nat) : Int) := by
  have := r.isLt
  exact IntWalk.i64_in _ ⟨by unfold rn; omega, by unfold rn; omega⟩
theorem littleI_cc (H : Hp) (V : List Nat) (n : Int) (k : Nat) (hn : 0 ≤ n) (hk : k ≤ 8) : CC Tryz.prog 74 [iv n, ci k] H V (Fr 1 (bs (leN n.toNat k)) H V) := by
  have := little_cc H V n.toNat k hk
  rwa [Int.toNat_of_nonneg hn] at this
theorem ApS.more {j : Nat} {l : List Sec} {cv : CV} {V W : List Nat} (h : ApS j l cv V) : ApS j l cv (V ++ W) := by
  rcases h with h | ⟨k, v, h1, h2, h3⟩
  · exact .inl h
  · exact .inr ⟨k, v, h1, by rw [List.getElem?_append_left (List.getElem?_eq_some_iff.1 h2).1]; exact h2, h3⟩
theorem secR_val (sq : Nat) (st : List UInt8) (i : Nat) : (secR sq st i).val = le4 sq ++ (pcOf st 4 i ++ List.replicate (4 - (pcOf st 4 i).length) 0) := by
  refine mkSec_val ?_
  show (le4 sq ++ (pcOf st 4 i ++ List.replicate (4 - (pcOf st 4 i).length) 0)).length = 8
  have : (pcOf st 4 i).length ≤ 4 := by rw [pcOf, List.length_take]; omega
  rw [List.length_append, List.length_append, List.length_replicate, le4_len]; omega
theorem secR_cells (sq : Nat) (st : List UInt8) (i : Nat) : List.take 4 (fb (le4 sq ++ [0, 0, 0, 0])) ++ ((bs (pcOf st 4 i)).flatten ++ List.drop (4 + (pcOf st 4 i).length) (fb (le4 sq ++ [0, 0, 0, 0]))) = secC (secR sq st i) := by
  have hn : (pcOf st 4 i).length ≤ 4 := by rw [pcOf, List.length_take]; omega
  have e2 : ∀ n, n ≤ 4 → List.drop (4 + n) (fb (le4 sq ++ [0, 0, 0, 0])) = fb (List.replicate (4 - n) 0) := fun n hn => by
    have h : n = 0 ∨ n = 1 ∨ n = 2 ∨ n = 3 ∨ n = 4 := by omega
    rcases h with rfl | rfl | rfl | rfl | rfl <;> rfl
  rw [e2 _ hn, fb_flat, show List.take 4 (fb (le4 sq ++ [0, 0, 0, 0])) = fb (le4 sq) from rfl, fb_app, fb_app]
  show fb _ = fb (secR sq st i).val
  rw [secR_val]
abbrev HE (H : Hp) (r : Rcd) (st : List UInt8) (cv lp : CV) (W : Hp) : Hp :=
  H ++ (some (rcC r) :: some [cv] :: some [.sl .sh 1 (bs st)] :: some [ci 4] :: some [lp] :: W)
@[go_sem] theorem hbx_W5 (H W L : Hp) (a0 a1 a2 a3 a4 : Option (List CV)) (K : List CV → Prop) : hbx (H ++ (a0 :: a1 :: a2 :: a3 :: a4 :: (W ++ L))) (H.length + (W.length + 5)) K = hbx L 0 K := by
  unfold hbx
  have : (H ++ (a0 :: a1 :: a2 :: a3 :: a4 :: (W ++ L)))[H.length + (W.length + 5)]? = L[0]? := by
    rw [hget]
    simp only [List.getElem?_cons_succ]
    exact hget W L 0
  rw [this]
theorem secsR_n (sq : Nat) (st : List UInt8) : (List.range (nPc st.length 4)).map (secR sq st) = secsR sq st := rfl
set_option maxRecDepth 8000 in
theorem REncode_cc (H : Hp) (V : List Nat) (r : Rcd) (hl : r.pay.length ≤ 900000000) : CC Tryz.prog 49 [.agg (rcC r)] H V (Pu (encV (encR r)) H V) := by
  refine CC.of_swp0 Tryz.func49 rfl (by kernel_rfl) (by rw [Tryz.ntmps49]; exact len_le _ _ rfl) fun hok hokH => ?_
  refine SWp0.seq (SWp.s0 (Wp.s ?_))
  simp -implicitDefEqProofs [go_sem, args0]
  have bad : ∀ (e : Nat) {H' : Hp} {V' : List Nat}, encR r = .error e → H'.take H.length = H → V'.take V.length = V → Fin H.length V.length (Pu (encV (encR r)) H V) (.tup [.v (.slice none 0 0), er e]) H' V' := fun e H' V' h1 h2 h3 => by
    rw [h1]
    exact Fin.pu (.tup (.cons (.nil 8 (by decide)) (.cons (.refl _) .nil))) (okV_encV _ _ (.error e)) hokH h2 h3
  refine SWp0.seq (SWp.s0 (SWp.seq (Wp.s ?_)))
  by_cases c1 : r.kind < 1
  · simp -implicitDefEqProofs [go_sem, c1]
    refine Wp.s ?_
    simp -implicitDefEqProofs [go_sem]
    exact bad 2 (enc_bad (.inl c1)) (by simp) (by simp)
  by_cases c2 : 255 < r.kind
  · simp -implicitDefEqProofs [go_sem, c1, c2]
    refine Wp.s ?_
    simp -implicitDefEqProofs [go_sem]
    exact bad 2 (enc_bad (.inr (.inl c2))) (by simp) (by simp)
  by_cases c3 : r.sq < 1
  · simp -implicitDefEqProofs [go_sem, c1, c2, c3]
    refine Wp.s ?_
    simp -implicitDefEqProofs [go_sem]
    exact bad 2 (enc_bad (.inr (.inr (.inl c3)))) (by simp) (by simp)
  by_cases c4 : 4294967295 < r.sq
  · simp -implicitDefEqProofs [go_sem, c1, c2, c3, c4]
    refine Wp.s ?_
    simp -implicitDefEqProofs [go_sem]
    exact bad 2 (enc_bad (.inr (.inr (.inr c4)))) (by simp) (by simp)
  have hb : ¬ (r.kind < 1 ∨ 255 < r.kind ∨ r.sq < 1 ∨ 4294967295 < r.sq) := by omega
  simp -implicitDefEqProofs [go_sem, c1, c2, c3, c4]
  refine Wp.s ?_
  simp -implicitDefEqProofs [go_sem]
  refine SWp0.seq (SWp.s0 (SWp.seq (Wp.s ?_)))
  by_cases c5 : 4096 < r.pay.length
  · have c5' : 4096 < (r.pay.length : Int) := by omega
    simp -implicitDefEqProofs [go_sem, c5']
    refine Wp.s ?_
    simp -implicitDefEqProofs [go_sem]
    exact bad 5 (enc_long hb c5) (by simp) (by simp)
  have c5' : ¬ 4096 < (r.pay.length : Int) := by omega
  simp -implicitDefEqProofs [go_sem, c5']
  refine Wp.s ?_
  simp -implicitDefEqProofs [go_sem]
  have hE := enc_ok hb c5
  have hsl := strm_len r.kind r.pay
  refine SWp0.seq (SWp.s0 (SWp.drawnT [] [] (.s 0 .pl <| .s 1 .pl <| .s 2 .pl <| .s 3 .pl <| .s 4 .pl <| .s 5 .pl <| .s 6 .pl <| .s 7 .pl <| .s 8 .pl <| .s 9 .pl <| .n) (by kernel_rfl) (by kernel_rfl) ?_))
  simp -implicitDefEqProofs [go_sem]
  refine CC.mono (little_cc _ _ r.pay.length 2 (by decide)) ?_
  rintro _ _ _ ⟨v, rfl, rfl, rfl⟩
  simp -implicitDefEqProofs [go_sem, u8s_1]
  refine SWp0.seq (SWp.s0 (Wp.s ?_))
  simp -implicitDefEqProofs [go_sem]
  have eb : byt r.kind :: (leN r.pay.length 2 ++ r.pay) = bodyR r.kind r.pay := (body_eq _ _).symm
  refine ⟨by omega, ?_⟩
  rw [eb]
  refine SWp0.seq (SWp.s0 (Wp.s ?_))
  simp -implicitDefEqProofs [go_sem]
  refine CC.mono (Sum_cc _ _ _ (bodyR r.kind r.pay) (by rw [body_len]; omega)) ?_
  rintro _ _ _ ⟨rfl, rfl, rfl⟩
  simp -implicitDefEqProofs [go_sem, wrap_rn]
  refine CC.mono (little_cc _ _ (crc (bodyR r.kind r.pay)).toNat 4 (by decide)) ?_
  rintro _ _ _ ⟨v2, rfl, rfl, rfl⟩
  simp -implicitDefEqProofs [go_sem]
  refine ⟨by rw [body_len]; omega, ?_⟩
  rw [leN_4, show bodyR r.kind r.pay ++ le4 (crc (bodyR r.kind r.pay)).toNat = strmR r.kind r.pay from rfl]
  generalize hst : strmR r.kind r.pay = st at hE hsl ⊢
  refine SWp0.ghost (Sh.trim (T' := [(1, .ptr H.length 0), (4, .sl .sh 1 (bs st))]) (L := [some (rcC r)]) (V' := V) (by simp [go_sem]) (by simp [go_sem]) hokH (by rw [okH_some, okL_rcC]; exact ⟨trivial, trivial⟩) (Nat.le_refl _) (by simp) (by simp)) ?_
  refine SWp0.seq (SWp.s0 (Wp.s ?_))
  simp -implicitDefEqProofs [go_sem]
  refine SWp0.join (α := CV × List Nat) (fun x => ([(5, .ptr (H.length + 1) 0)], H ++ [some (rcC r), some [x.1]], x.2))
    (fun x => ApS V.length (secsR r.sq.toNat st) x.1 x.2 ∧ V.length ≤ x.2.length ∧ x.2.take V.length = V) ?_ ?_
  · refine SWp0.seq (SWp.s0 (Wp.s ?_))
    simp -implicitDefEqProofs [go_sem]
    refine CC.mono (Chunk_cc _ _ .sh st 4 (by decide) (by trivial)) ?_
    rintro _ _ _ ⟨rfl, rfl, rfl⟩
    simp -implicitDefEqProofs [go_sem]
    refine SWp0.block (SWp0.range [(1, .ptr H.length 0), (5, .ptr (H.length + 1) 0)] rfl (by simp [go_sem]) ?_)
    simp -implicitDefEqProofs [go_sem]
    generalize hbd : Code.block 1 _ = bd
    generalize has : Code.region 10 _ _ = asg
    refine CC.mono (chunk1_cc _ V _ _ _ .sh st 4 (by decide) (by decide) (by omega) (fun i G V' => ∃ cv W, ApS V.length ((List.range i).map (secR r.sq.toNat st)) cv V' ∧ V.length ≤ V'.length ∧ V'.take V.length = V ∧
      G = HE H r st cv (lpc 65 #[51] asg bd [(1, .ptr H.length 0), (5, .ptr (H.length + 1) 0)] .ready none) W)
      ⟨.v (.slice none 0 0), [], .inl ⟨rfl, rfl⟩, Nat.le_refl _, by simp, rfl⟩ ?_ ?_) ?_
    · rintro i _ V' ⟨cv, W, _, _, _, rfl⟩
      exact ⟨hget _ _ 2, hget _ _ 3⟩
    · rintro i hi _ V' ⟨cv, W, ha, hv1, hv2, rfl⟩
      refine YC.of_round (n := 65) (ps := #[51]) (bd := bd) (T := [(1, .ptr H.length 0), (5, .ptr (H.length + 1) 0)]) (hget _ _ 4) rfl (by decide) ?_
      subst hbd has
      refine Wp.s ?_
      simp -implicitDefEqProofs [go_sem, tps]
      refine SWp.block (SWp.seq (Wp.s ?_))
      simp -implicitDefEqProofs [go_sem]
      generalize hlp : lpc 65 #[51] _ _ _ LoopState.busy none = lp
      generalize hqq : RQ 65 #[51] _ _ _ _ _ = QQ
      refine SWp.seq (SWp.drawnT [H.length] [4] (.s 0 .pl <| .s 1 .pl <| .s 2 .ld <| .s 3 .pl <| .s 4 .st <| .n) (by kernel_rfl) (by kernel_rfl) ?_)
      simp -implicitDefEqProofs [go_sem]
      refine CC.mono (littleI_cc _ _ r.sq 4 (by omega) (by decide)) ?_
      rintro _ _ _ ⟨v3, rfl, rfl, rfl⟩
      simp -implicitDefEqProofs [go_sem, leN_4]
      have e1 : (bs (le4 r.sq.toNat)).flatten ++ List.drop (le4 r.sq.toNat).length [CV.v (.int .u8 0), CV.v (.int .u8 0), CV.v (.int .u8 0), CV.v (.int .u8 0), CV.v (.int .u8 0), CV.v (.int .u8 0), CV.v (.int .u8 0), CV.v (.int .u8 0)] = fb (le4 r.sq.toNat ++ [0, 0, 0, 0]) := by
        rw [fb_flat, le4_len]; rfl
      rw [e1]
      refine ⟨by rw [le4_len]; decide, by rw [fb_flat, fb_all], by rw [le4_len]; decide, ?_, ?_⟩
      · exact Kp.keep fun b hb => by
          obtain rfl : b = H.length := by simpa using hb
          simp
      refine SWp.seq (Wp.s ?_)
      simp -implicitDefEqProofs [go_sem]
      rw [secR_cells]
      refine ⟨by rw [pcOf, List.length_take]; omega, by rw [fb_flat, fb_all], by rw [le4_len, pcOf, List.length_take]; omega, ?_⟩
      have ha := ha.more (W := [v3])
      have hv1 : V.length ≤ (V' ++ [v3]).length := by simp; omega
      have hv2 : (V' ++ [v3]).take V.length = V := by rw [List.take_append_of_le_length (by omega)]; exact hv2
      generalize V' ++ [v3] = V2 at ha hv1 hv2 ⊢
      rcases ha with ⟨rfl, he⟩ | ⟨k, v, rfl, hv, hk⟩
      · refine Wp.s ?_
        simp -implicitDefEqProofs [go_sem]
        rw [← hqq, ← hlp]
        refine ⟨hget _ _ 4, rfl, .sl (.own V2.length 0) 8 [secC (secR r.sq.toNat st i)], .inr ⟨V2.length, 0, ?_, by simp, hv1⟩, by simp; omega, ?_, W ++ [some (secC (secR r.sq.toNat st i))], ?_⟩
        · rw [List.map_append, he]; rfl
        · rw [List.take_append_of_le_length hv1]; exact hv2
        · simp
      · refine Wp.s ?_
        simp -implicitDefEqProofs [go_sem, hv]
        rw [← hqq, ← hlp]
        have hkv := (List.getElem?_eq_some_iff.1 hv).1
        have hi2 := nPc_le (len := st.length) (n := 4) (by decide)
        refine ⟨by omega, hget _ _ 4, rfl, .sl (.own k (v + 1)) 8 (List.map (secC ∘ secR r.sq.toNat st) (List.range i) ++ [secC (secR r.sq.toNat st i)]), .inr ⟨k, v + 1, ?_, by rw [List.getElem?_set_self hkv], hk⟩, by simpa using hv1, ?_, W ++ [some (secC (secR r.sq.toNat st i))], ?_⟩
        · rw [List.map_append, List.map_map]; rfl
        · rw [List.take_set_of_le hk]; exact hv2
        · simp
    · rintro _ _ V' ⟨cv, W, ha, hv1, hv2, rfl⟩
      refine .inl ⟨hget _ _ 4, ?_⟩
      rw [secsR_n] at ha
      refine ⟨cv, V', ⟨ha, hv1, hv2⟩, ?_⟩
      refine Sh.trim (L := [some (rcC r), some [cv]]) ?_ ?_ hokH ?_ hv1 ?_ (List.take_of_length_le (Nat.le_refl _))
      · simp [go_sem]
      · simp [go_sem]
      · rw [okH_some, okH_some, okL_rcC, okL, okL]
        exact ⟨trivial, ⟨ha.ok, trivial⟩, trivial⟩
      · simp
  · rintro ⟨cv, V'⟩ ⟨h1, h2, h3⟩
    dsimp only
    refine SWp0.seq (SWp.s0 (Wp.s ?_))
    simp -implicitDefEqProofs [go_sem, h1.one]
    refine SWp.s0 (Wp.s ?_)
    simp -implicitDefEqProofs [go_sem]
    rw [hE]
    exact Fin.pu (.tup (.cons h1.le (.cons (.refl _) .nil))) (okV_encV _ _ (.ok _)) hokH (by simp) h3
end Go.Proofs.YtmgoflhjblombaaGreatDoor
namespace Go.Proofs.YtmgoflhjblombaaGreatDoor
open Go.Proofs
end Go.Proofs.YtmgoflhjblombaaGreatDoor
namespace Go.Proofs.YtmgoflhjblombaaGreatDoor
open Go.Proofs
theorem appJ_bad {j : Jrn} {k : Int} {p : List UInt8} (h : ¬ chkJ j = true) : appJ j k p = (zjr, [], 3) := by rw [appJ, if_pos (by simpa using h)]
theorem appJ_err {j : Jrn} {k : Int} {p : List UInt8} {e : Nat} (h : chkJ j = true) (he : encR ⟨k, nextJ j, p⟩ = .error e) : appJ j k p = (zjr, [], e) := by
  rw [appJ, if_neg (by simp [h]), he]
theorem appJ_many {j : Jrn} {k : Int} {p : List UInt8} {l : List Sec} (h : chkJ j = true) (he : encR ⟨k, nextJ j, p⟩ = .ok l) (h1 : 1073741824 ≤ nextJ j) : appJ j k p = (zjr, [], 6) := by
  rw [appJ, if_neg (by simp [h]), he]; exact if_pos h1
theorem appJ_full {j : Jrn} {k : Int} {p : List UInt8} {l : List Sec} (h : chkJ j = true) (he : encR ⟨k, nextJ j, p⟩ = .ok l) (h1 : ¬ 1073741824 ≤ nextJ j) (h2 : freeJ j < l.length) : appJ j k p = (zjr, [], 11) := by
  rw [appJ, if_neg (by simp [h]), he]; exact (if_neg h1).trans (if_pos h2)
theorem appJ_ok {j : Jrn} {k : Int} {p : List UInt8} {l : List Sec} (h : chkJ j = true) (he : encR ⟨k, nextJ j, p⟩ = .ok l) (h1 : ¬ 1073741824 ≤ nextJ j) (h2 : ¬ freeJ j < l.length) :
    appJ j k p = (⟨j.start, j.count, j.head, (j.tail + l.length) % (j.count - 16), j.first, j.sizes ++ [(l.length : Int)]⟩, wrapW j.start j.count j.tail l ++ [opS], 0) := by
  rw [appJ, if_neg (by simp [h]), he]; exact (if_neg h1).trans (if_neg h2)
theorem enc_le {r : Rcd} {l : List Sec} (h : encR r = .ok l) : l.length ≤ 1100 ∧ 1 ≤ l.length := by
  rw [encR] at h
  split at h
  · cases h
  · split at h
    · cases h
    · cases h
      rw [secsR, List.length_map, List.length_range, strm_len]
      omega
theorem enc_err {r : Rcd} {e : Nat} (h : encR r = .error e) : e = 2 ∨ e = 5 := by
  rw [encR] at h
  split at h
  · cases h; exact .inl rfl
  · split at h
    · cases h; exact .inr rfl
    · cases h
theorem rc_args (k n : Int) (p : List UInt8) : [iv k, iv n, .sl .sh 1 (bs p)] = rcC ⟨k, n, p⟩ := rfl
theorem chkJ_tail {j : Jrn} (h : chkJ j = true) : 0 ≤ j.tail ∧ j.tail < j.count - 16 := by
  have h1 := (chkJ_iff j).1 h
  have hv := (validJ_iff _ _).1 h1.1
  rw [h1.2.2.2.2]
  exact ⟨Int.emod_nonneg _ (by omega), Int.emod_lt_of_pos _ (by omega)⟩
theorem wrapW_len (s c p : Int) (l : List Sec) : (wrapW s c p l).length ≤ 2 := by
  by_cases h : kW c p l < l.length
  · rw [wrapW_1 h]; exact Nat.le_refl _
  · rw [wrapW_0 h]; exact Nat.le_succ _
theorem snoc_ints (l : List Int) (n : Int) : List.map ic l ++ [[iv n]] = (l ++ [n]).map ic := by rw [List.map_append]; rfl
theorem ops_le1 (A : List Opn) : LeE (A.map opC ++ [[iv 1, iv 0, .v (.slice none 0 0)]]) ((A ++ [opS]).map opC) := by
  rw [List.map_append]
  exact LeE.app (LeE.rfl' _) LeE.sync
theorem jr_upd_le (j : Jrn) (n : Int) (tl : Int) (tk : Tk) : Le (.agg [iv j.start, iv j.count, iv j.head, iv tl, iv j.first, .sl tk 1 (List.map ic j.sizes ++ [[iv n]])]) (.agg (jrC ⟨j.start, j.count, j.head, tl, j.first, j.sizes ++ [n]⟩)) := by
  refine .agg (.cons (.refl _) (.cons (.refl _) (.cons (.refl _) (.cons (.refl _) (.cons (.refl _) (.cons ?_ .nil))))))
  rw [snoc_ints]
  exact .sh _ _ _
set_option maxRecDepth 8000 in
theorem Append_cc (H : Hp) (V : List Nat) (j : Jrn) (kind : Int) (p : List UInt8) (hl : j.sizes.length ≤ 1000000000) (hp : p.length ≤ 900000000) : CC Tryz.prog 21 [.agg (jrC j), iv kind, .sl .sh 1 (bs p)] H V (Pu (jtV (appJ j kind p)) H V) := by
  refine CC.of_swp Tryz.func21 rfl (by kernel_rfl) (by rw [Tryz.ntmps21]; exact len_le _ _ rfl) fun hok hokH => ?_
  clear hok
  refine SWp.seq (Wp.s ?_)
  simp -implicitDefEqProofs [go_sem, args0]
  have bad : ∀ (e : Nat) {H' : Hp} {V' : List Nat}, appJ j kind p = (zjr, [], e) → H'.take H.length = H → V'.take V.length = V → Fin H.length V.length (Pu (jtV (appJ j kind p)) H V) (.tup [.agg zjC, .v (.slice none 0 0), er e]) H' V' := fun e H' V' h1 h2 h3 => by
    rw [h1]
    exact fin_jt zj_le (.nil 3 (by decide)) rfl hokH h2 h3
  refine SWp.seq (Wp.s ?_)
  simp -implicitDefEqProofs [go_sem]
  refine CC.mono (examine_cc _ _ j hl) ?_
  rintro _ _ _ ⟨u, rfl, rfl, rfl, hu⟩
  simp -implicitDefEqProofs [go_sem]
  refine SWp.seq (SWp.seq (Wp.s ?_))
  by_cases h : chkJ j = true
  case neg =>
    simp -implicitDefEqProofs [go_sem, h]
    refine Wp.s ?_
    simp -implicitDefEqProofs [go_sem]
    exact bad 3 (appJ_bad h) (by simp) (by simp)
  obtain rfl := hu h
  have hn := chkJ_next h
  have hsu := chkJ_sum h
  have hva := chkJ_val h
  have hv := (validJ_iff _ _).1 hva
  have ht := chkJ_tail h
  simp -implicitDefEqProofs [go_sem, h]
  refine Wp.s ?_
  simp -implicitDefEqProofs [go_sem]
  refine SWp.seq (Wp.s ?_)
  simp -implicitDefEqProofs [go_sem]
  refine CC.mono (next_cc _ _ j _ hn.1 hn.2) ?_
  rintro _ _ _ ⟨rfl, rfl, rfl⟩
  simp -implicitDefEqProofs [go_sem, rc_args]
  refine CC.mono (REncode_cc _ _ ⟨kind, nextJ j, p⟩ hp) ?_
  rintro _ _ _ ⟨rfl, rfl, rfl⟩
  cases he : encR ⟨kind, nextJ j, p⟩ with
  | error e =>
    have hee : ¬ e = 0 := by have := enc_err he; omega
    simp -implicitDefEqProofs [go_sem, encV]
    refine SWp.seq (SWp.block (SWp.seq (Wp.s ?_)))
    simp -implicitDefEqProofs [go_sem, hee]
    refine Wp.s ?_
    simp -implicitDefEqProofs [go_sem]
    exact bad e (appJ_err h he) (by simp) (by simp)
  | ok l =>
    have hle := enc_le he
    simp -implicitDefEqProofs [go_sem, encV]
    refine SWp.seq (SWp.block (SWp.seq (Wp.s ?_)))
    simp -implicitDefEqProofs [go_sem]
    refine SWp.condF (by simp [go_sem]) ?_
    refine SWp.seq (Wp.s ?_)
    simp -implicitDefEqProofs [go_sem]
    refine CC.mono (next_cc _ _ j _ hn.1 hn.2) ?_
    rintro _ _ _ ⟨rfl, rfl, rfl⟩
    by_cases h1 : 1073741824 ≤ nextJ j
    · simp -implicitDefEqProofs [go_sem, h1]
      refine Wp.s ?_
      simp -implicitDefEqProofs [go_sem]
      exact bad 6 (appJ_many h he h1) (by simp) (by simp)
    simp -implicitDefEqProofs [go_sem, h1]
    refine SWp.condF (by simp [go_sem]) ?_
    refine SWp.seq (Wp.s ?_)
    simp -implicitDefEqProofs [go_sem]
    refine CC.mono (free_cc _ _ j _ hva hsu.1 (by omega)) ?_
    rintro _ _ _ ⟨rfl, rfl, rfl⟩
    by_cases h2 : freeJ j < l.length
    · have h2' : j.count - 16 - sumI j.sizes < (l.length : Int) := h2
      simp -implicitDefEqProofs [go_sem, h2']
      refine Wp.s ?_
      simp -implicitDefEqProofs [go_sem]
      exact bad 11 (appJ_full h he h1 h2) (by simp) (by simp)
    have h2' : ¬ j.count - 16 - sumI j.sizes < (l.length : Int) := h2
    simp -implicitDefEqProofs [go_sem, h2']
    refine Wp.s ?_
    simp -implicitDefEqProofs [go_sem]
    refine SWp.seq (Wp.s ?_)
    simp -implicitDefEqProofs [go_sem]
    refine CC.mono (own_cc _ _ j _ hl) ?_
    rintro _ _ _ ⟨v, rfl, rfl, rfl⟩
    simp -implicitDefEqProofs [go_sem]
    refine SWp.seq (Wp.s ?_)
    simp -implicitDefEqProofs [go_sem]
    refine ⟨by omega, ?_⟩
    have w1 : IntKind.i64.wrap (j.tail + (l.length : Int)) = j.tail + (l.length : Int) := IntWalk.i64_in _ ⟨by omega, by omega⟩
    have t1 := Int.tmod_eq_emod_of_nonneg (b := j.count - 16) (show 0 ≤ j.tail + (l.length : Int) by omega)
    have hz : ¬ j.count - 16 = 0 := by omega
    refine SWp.seq (SWp.drawnT [] [10] (.s 0 .pl <| .s 1 .pl <| .s 2 .pl <| .s 3 .pl <| .s 4 .pl <| .s 5 .pl <| .s 6 .pl <| .s 7 .pl <| .s 8 .pl <| .s 9 .pl <| .s 10 .st <| .n) (by kernel_rfl) (by kernel_rfl) ?_)
    simp -implicitDefEqProofs [go_sem, w1]
    refine CC.mono (length_cc _ _ _ _ hva) ?_
    rintro _ _ _ ⟨rfl, rfl, rfl⟩
    simp -implicitDefEqProofs [go_sem, w1, t1, hz]
    refine SWp.seq (SWp.drawnT [H.length + 2] [11] (.s 0 .pl <| .s 1 .pl <| .s 2 .ld <| .s 3 .pl <| .s 4 .pl <| .s 5 .ld <| .s 6 .pl <| .s 8 .pl <| .s 9 .pl <| .s 7 .pl <| .s 10 .pl <| .s 11 .st <| .s 12 .pl <| .s 13 .pl <| .n) (by kernel_rfl) (by kernel_rfl) ?_)
    simp -implicitDefEqProofs [go_sem]
    refine CC.mono (write_cc _ _ j.start j.count j.tail l hva ht.1 (by omega) (by omega)) ?_
    rintro _ _ _ ⟨v2, rfl, rfl, rfl⟩
    have hA := wrapW_len j.start j.count j.tail l
    have hJ := appJ_ok h he h1 h2
    generalize wrapW j.start j.count j.tail l = A at hA hJ ⊢
    simp -implicitDefEqProofs [go_sem]
    refine ⟨by omega, Kp.keep fun b hb => ?_, Wp.s ?_⟩
    · obtain rfl : b = H.length + 2 := by simpa using hb
      rw [hget, hget]; rfl
    simp -implicitDefEqProofs [go_sem]
    rw [hJ]
    exact fin_jt (jr_upd_le j _ _ _) (.sle _ _ (ops_le1 A)) rfl hokH (by simp) (by simp)
end Go.Proofs.YtmgoflhjblombaaGreatDoor
namespace Go.Proofs.YtmgoflhjblombaaGreatDoor
open Go.Proofs
theorem flatReg : FlatEq Tryz.prog 27 [.i64, .i64] := flatEq_pair Tryz.underlying27 rfl rfl rfl rfl (by decide) (by decide) Tryz.underlying3 (by kernel_rfl) (by kernel_rfl)
theorem fits_reg (a b : Int) : fits [.i64, .i64] [iv a, iv b] := fits_rep .i64 [a, b]
set_option maxRecDepth 8000 in
theorem Same_cc (H : Hp) (V : List Nat) (j : Jrn) (hl : j.sizes.length ≤ 1000000000) : CC Tryz.prog 12 [.agg (jrC j), .agg (jrC j)] H V (Pu (cb true) H V) := by
  refine CC.of_swp Tryz.func12 rfl (by kernel_rfl) (by rw [Tryz.ntmps12]; exact len_le _ _ rfl) fun hok hokH => ?_
  clear hok
  refine SWp.seq (Wp.s ?_)
  simp -implicitDefEqProofs [go_sem, args0]
  refine SWp.seq (SWp.seq (Wp.s ?_))
  simp -implicitDefEqProofs [go_sem]
  refine ⟨_, flatReg, fits_reg _ _, ?_⟩
  refine Wp.s ?_
  simp -implicitDefEqProofs [go_sem]
  refine SWp.join (α := Unit) (fun _ => ([], H ++ [some (jrC j), some (jrC j)], V)) (fun _ => True) ?_ ?_
  · refine SWp.seq (Wp.s ?_)
    simp -implicitDefEqProofs [go_sem]
    refine SWp.block ?_
    refine SWp.loop (α := Nat) (fun i => ([(2, .ptr H.length 0), (3, .ptr (H.length + 1) 0), (5, ci i)], H ++ [some (jrC j), some (jrC j)], V)) (fun i => i ≤ j.sizes.length) (fun i => j.sizes.length - i) 0 (Nat.zero_le _) (Sh.forget (by simp [go_sem]) rfl rfl) ?_
    intro i hi
    dsimp only
    refine SWp.seq (SWp.seq (Wp.s ?_))
    by_cases h : i < j.sizes.length
    case neg =>
      simp -implicitDefEqProofs [go_sem, h]
      refine Wp.s ?_
      simp -implicitDefEqProofs [go_sem]
      exact Sh.forget (by simp [go_sem]) rfl rfl
    simp -implicitDefEqProofs [go_sem, h]
    refine Wp.s ?_
    simp -implicitDefEqProofs [go_sem]
    refine SWp.seq (SWp.block (SWp.seq (SWp.drawnT [] [] (.s 0 .pl <| .s 1 .pl <| .s 2 .pl <| .s 3 .pl <| .s 4 .pl <| .s 5 .pl <| .s 6 .pl <| .s 7 .pl <| .s 8 .pl <| .s 9 .pl <| .s 10 .pl <| .n) (by kernel_rfl) (by kernel_rfl) ?_)))
    simp -implicitDefEqProofs [go_sem, h]
    refine Wp.s ?_
    simp -implicitDefEqProofs [go_sem]
    refine Wp.s ?_
    simp -implicitDefEqProofs [go_sem]
    refine ⟨i + 1, by omega, by omega, Sh.forget ?_ rfl rfl⟩
    simp [go_sem, wrap_succ (show i ≤ 1000000000 by omega)]
  rintro _ -
  dsimp only
  refine Wp.s ?_
  simp -implicitDefEqProofs [go_sem]
  exact Fin.bool rfl hokH (by simp) (by simp)
end Go.Proofs.YtmgoflhjblombaaGreatDoor
namespace Go.Proofs.YtmgoflhjblombaaGreatDoor
open Go.Proofs
theorem gi64 (s : Sec) : bitop .or .i64 (bitop .or .i64 (bitop .or .i64 (sb s 0 : Int) (shl .i64 (sb s 1 : Int) 8)) (shl .i64 (sb s 2 : Int) 16)) (shl .i64 (sb s 3 : Int) 24) = (gn s : Int) := by
  have h0 := sb_lt s 0
  have h1 := sb_lt s 1
  have h2 := sb_lt s 2
  have h3 := sb_lt s 3
  have u : ∀ x : Nat, x < 4294967296 → IntKind.i64.wrap (x : Int) = (x : Int) := fun x hx => IntWalk.i64_in _ ⟨by omega, by omega⟩
  have e : ∀ (x k : Nat), x < 256 → k ≤ 24 → shl .i64 (x : Int) (k : Int) = ((x * 2 ^ k : Nat) : Int) := fun x k hx hk => by
    unfold shl
    rw [Int.toNat_natCast, Nat.min_eq_left (by show k ≤ 64; omega)]
    have e2 : (x : Int) * 2 ^ k = ((x * 2 ^ k : Nat) : Int) := by simp
    rw [e2]
    refine u _ ?_
    have := Nat.pow_le_pow_right (show 0 < 2 by decide) hk
    have := Nat.mul_le_mul (show x ≤ 255 by omega) this
    omega
  rw [show (8 : Int) = ((8 : Nat) : Int) from rfl, show (16 : Int) = ((16 : Nat) : Int) from rfl, show (24 : Int) = ((24 : Nat) : Int) from rfl, e _ _ h1 (by omega), e _ _ h2 (by omega), e _ _ h3 (by omega)]
  rw [bitop_or _ _ _ (by show _ < 2 ^ 64; omega) (by show _ < 2 ^ 64; omega), or_add' _ _ _ (by omega), u _ (by omega)]
  rw [bitop_or _ _ _ (by show _ < 2 ^ 64; omega) (by show _ < 2 ^ 64; omega), or_add' _ _ _ (by omega), u _ (by omega)]
  rw [bitop_or _ _ _ (by show _ < 2 ^ 64; omega) (by show _ < 2 ^ 64; omega), or_add' _ _ _ (by omega), u _ (by omega)]
  simp only [gn, gi, Nat.zero_mul, Nat.zero_add, Nat.sub_zero, Nat.sub_self, show 3 - 2 = 1 from rfl, show 3 - 1 = 2 from rfl]
  omega
theorem sb64 (s : Sec) (i : Nat) : IntKind.i64.wrap (sb s i : Int) = (sb s i : Int) := by have := sb_lt s i; exact IntWalk.i64_in _ ⟨by omega, by omega⟩
theorem jnumber_cc (H : Hp) (V : List Nat) (s : Sec) : CC Tryz.prog 63 [.agg (secC s)] H V (Pu (ci (gn s)) H V) := by
  refine CC.of_swp Tryz.func63 rfl (by kernel_rfl) (by rw [Tryz.ntmps63]; exact len_le _ _ rfl) fun hok hokH => ?_
  clear hok
  refine SWp.seq (Wp.s ?_)
  simp -implicitDefEqProofs [go_sem, args0]
  refine Wp.s ?_
  simp -implicitDefEqProofs [go_sem, secC_get, sb64, gi64]
  exact Fin.int rfl hokH (by simp) (by simp)
theorem rnumber_cc (H : Hp) (V : List Nat) (s : Sec) : CC Tryz.prog 103 [.agg (secC s)] H V (Pu (ci (gn s)) H V) := by
  refine CC.of_swp Tryz.func103 rfl (by kernel_rfl) (by rw [Tryz.ntmps103]; exact len_le _ _ rfl) fun hok hokH => ?_
  clear hok
  refine SWp.seq (Wp.s ?_)
  simp -implicitDefEqProofs [go_sem, args0]
  refine Wp.s ?_
  simp -implicitDefEqProofs [go_sem, secC_get, sb64, gi64]
  exact Fin.int rfl hokH (by simp) (by simp)
def headP (c : Int) (p : List UInt8) : Int × Int × Nat :=
  match number p with
  | .error _ => (0, 0, 3)
  | .ok (h, r) =>
    match number r with
    | .error _ => (0, 0, 3)
    | .ok (f, r') => if 0 < r'.length ∨ c - 16 ≤ (h : Int) ∨ (f : Int) < 1 ∨ 1073741824 < (f : Int) then (0, 0, 3) else (h, f, 0)
def headJ (s c : Int) (d : Dk) : Int × Int × Nat :=
  if (loadS d s).2.2 ≠ 0 then (0, 0, (loadS d s).2.2) else headP c (loadS d s).1
def hdV (x : Int × Int × Nat) : CV := .tup [iv x.1, iv x.2.1, er x.2.2]
theorem Fin.hd {H H' : Hp} {V V' : List Nat} {x : Int × Int × Nat} {a b : Int} {e : Nat} (h : (a, b, e) = x) (hokH : ∀ (b : Nat) cs, H[b]? = some (some cs) → okL H.length V.length cs) (hH : H'.take H.length = H) (hV : V'.take V.length = V) : Fin H.length V.length (Pu (hdV x) H V) (.tup [iv a, iv b, Go.Proofs.YtmgoflhjblombaaGreatDoor.er e]) H' V' := by
  subst h
  exact Fin.pu (.refl _) (by rw [hdV, okV, okL, okL, okL, okL]; exact ⟨by rw [okV]; trivial, by rw [okV]; trivial, okV_er _ _ _, trivial⟩) hokH hH hV
theorem load_cc (H : Hp) (V : List Nat) (s c : Int) (d : Dk) (h : validJ s c = true) (hl : DkS d) (hp : (loadS d s).1.length ≤ 100) : CC Tryz.prog 28 [.agg [iv s, iv c], .agg (dkC d)] H V (Pu (hdV (headJ s c d)) H V) := by
  refine CC.of_swp Tryz.func28 rfl (by kernel_rfl) (by rw [Tryz.ntmps28]; exact len_le _ _ rfl) fun hok hokH => ?_
  clear hok
  refine SWp.seq (Wp.s ?_)
  simp -implicitDefEqProofs [go_sem, args0]
  refine SWp.seq (Wp.s ?_)
  simp -implicitDefEqProofs [go_sem]
  refine CC.mono (sLoad_cc _ _ d s hl) ?_
  rintro _ _ _ ⟨rfl, rfl, rfl⟩
  simp -implicitDefEqProofs [go_sem, ldV]
  refine SWp.seq (SWp.seq (Wp.s ?_))
  by_cases h0 : (loadS d s).2.2 = 0
  case neg =>
    simp -implicitDefEqProofs [go_sem, h0]
    refine Wp.s ?_
    simp -implicitDefEqProofs [go_sem]
    exact Fin.hd (by rw [headJ, if_pos h0]) hokH (by simp) (by simp)
  have hJ : headJ s c d = headP c (loadS d s).1 := by rw [headJ, if_neg (by simp [h0])]
  rw [hJ]
  generalize (loadS d s).1 = p at hp ⊢
  simp -implicitDefEqProofs [go_sem, h0]
  refine Wp.s ?_
  simp -implicitDefEqProofs [go_sem]
  refine SWp.seq (Wp.s ?_)
  simp -implicitDefEqProofs [go_sem]
  refine CC.mono (Int_cc _ _ .sh p (by omega)) ?_
  rintro _ _ _ ⟨rfl, rfl, rfl⟩
  cases hn : number p with
  | error e =>
    have he := ne0_number _ _ hn
    simp -implicitDefEqProofs [go_sem, rdv]
    refine SWp.seq (SWp.seq (Wp.s ?_))
    simp -implicitDefEqProofs [go_sem, he]
    refine Wp.s ?_
    simp -implicitDefEqProofs [go_sem]
    exact Fin.hd (by rw [headP, hn]) hokH (by simp) (by simp)
  | ok x =>
    obtain ⟨hd, r⟩ := x
    have hr := number_len _ _ _ _ hn
    simp -implicitDefEqProofs [go_sem, rdv]
    refine SWp.seq (SWp.seq (Wp.s ?_))
    simp -implicitDefEqProofs [go_sem]
    refine Wp.s ?_
    simp -implicitDefEqProofs [go_sem]
    refine SWp.seq (Wp.s ?_)
    simp -implicitDefEqProofs [go_sem]
    refine CC.mono (Int_cc _ _ .sh r (by omega)) ?_
    rintro _ _ _ ⟨rfl, rfl, rfl⟩
    cases hn2 : number r with
    | error e =>
      have he := ne0_number _ _ hn2
      simp -implicitDefEqProofs [go_sem, rdv]
      refine SWp.seq (SWp.seq (Wp.s ?_))
      simp -implicitDefEqProofs [go_sem, he]
      refine Wp.s ?_
      simp -implicitDefEqProofs [go_sem]
      exact Fin.hd (by rw [headP, hn]; simp only; rw [hn2]) hokH (by simp) (by simp)
    | ok x =>
      obtain ⟨f, r'⟩ := x
      have hP : headP c p = if 0 < r'.length ∨ c - 16 ≤ (hd : Int) ∨ (f : Int) < 1 ∨ 1073741824 < (f : Int) then (0, 0, 3) else ((hd : Int), (f : Int), 0) := by
        rw [headP, hn]; simp only; rw [hn2]
      simp -implicitDefEqProofs [go_sem, rdv]
      refine SWp.seq (SWp.seq (Wp.s ?_))
      by_cases c1 : 0 < r'.length
      · have c1' : 0 < (r'.length : Int) := by omega
        simp -implicitDefEqProofs [go_sem, c1, c1']
        refine Wp.s ?_
        simp -implicitDefEqProofs [go_sem]
        exact Fin.hd (by rw [hP, if_pos (.inl c1)]) hokH (by simp) (by simp)
      have c1' : ¬ 0 < (r'.length : Int) := by omega
      simp -implicitDefEqProofs [go_sem, c1, c1']
      refine CC.mono (length_cc _ _ _ _ h) ?_
      rintro _ _ _ ⟨rfl, rfl, rfl⟩
      by_cases c2 : c - 16 ≤ (hd : Int)
      · simp -implicitDefEqProofs [go_sem, c2]
        refine Wp.s ?_
        simp -implicitDefEqProofs [go_sem]
        exact Fin.hd (by rw [hP, if_pos (.inr (.inl c2))]) hokH (by simp) (by simp)
      by_cases c3 : (f : Int) < 1
      · simp -implicitDefEqProofs [go_sem, c2, c3]
        refine Wp.s ?_
        simp -implicitDefEqProofs [go_sem]
        exact Fin.hd (by rw [hP, if_pos (.inr (.inr (.inl c3)))]) hokH (by simp) (by simp)
      by_cases c4 : 1073741824 < (f : Int)
      · simp -implicitDefEqProofs [go_sem, c2, c3, c4]
        refine Wp.s ?_
        simp -implicitDefEqProofs [go_sem]
        exact Fin.hd (by rw [hP, if_pos (.inr (.inr (.inr c4)))]) hokH (by simp) (by simp)
      simp -implicitDefEqProofs [go_sem, c2, c3, c4]
      refine Wp.s ?_
      simp -implicitDefEqProofs [go_sem]
      refine Wp.s ?_
      simp -implicitDefEqProofs [go_sem]
      exact Fin.hd (by rw [hP, if_neg (by omega)]) hokH (by simp) (by simp)
end Go.Proofs.YtmgoflhjblombaaGreatDoor
namespace Go.Proofs.YtmgoflhjblombaaGreatDoor
open Go.Proofs
def leV : List UInt8 → Nat
  | [] => 0
  | b :: l => b.toNat + 256 * leV l
theorem leV_lt : ∀ l : List UInt8, leV l < 256 ^ l.length
  | [] => Nat.one_pos
  | b :: l => by
    have := leV_lt l
    have := b.toNat_lt
    rw [leV, List.length_cons, Nat.pow_succ]; omega
theorem leV_snoc : ∀ (l : List UInt8) (b : UInt8), leV (l ++ [b]) = leV l + b.toNat * 256 ^ l.length
  | [], b => by simp [leV]
  | a :: l, b => by
    rw [List.cons_append, leV, leV_snoc l b, leV, List.length_cons, Nat.pow_succ, Nat.mul_add, Nat.add_assoc]
    congr 1
    congr 1
    rw [Nat.mul_comm 256, Nat.mul_assoc]
theorem or_sh8 {n a i : Nat} (hi : i < 6) (hn : n < 256 ^ i) (ha : a < 256) : bitop .or .i64 (n : Int) (shl .i64 (a : Int) (8 * (i : Int))) = ((n + a * 256 ^ i : Nat) : Int) := by
  have hp : 256 ^ i ≤ 256 ^ 5 := Nat.pow_le_pow_right (by decide) (by omega)
  have hm : a * 256 ^ i ≤ 255 * 256 ^ 5 := Nat.mul_le_mul (by omega) hp
  have e1 : shl .i64 (a : Int) (8 * (i : Int)) = ((a * 256 ^ i : Nat) : Int) := by
    unfold shl
    have e : min (8 * (i : Int)).toNat IntKind.i64.bits = 8 * i := by
      show min (8 * (i : Int)).toNat 64 = 8 * i
      omega
    rw [e, show (2 : Int) ^ (8 * i) = ((256 ^ i : Nat) : Int) by rw [Int.pow_mul]; simp, ← Int.natCast_mul]
    exact IntWalk.i64_in _ ⟨by omega, by omega⟩
  rw [e1, bitop_or _ _ _ (by show _ < 2 ^ 64; omega) (by show _ < 2 ^ 64; omega)]
  have e2 : n ||| a * 256 ^ i = n + a * 256 ^ i := by
    have := or_add' n a (8 * i) (by rw [Nat.pow_mul]; exact hn)
    rw [Nat.pow_mul] at this; exact this
  rw [e2]
  exact IntWalk.i64_in _ ⟨by omega, by omega⟩
def rdB (l : List UInt8) (x y : CV) : List CV := [.sl .sh 1 (bs l), x, y]
theorem take_cc (H : Hp) (V : List Nat) (b n : Nat) (l : List UInt8) (x y : CV) (hb : H[b]? = some (some (rdB l x y))) (hn : n ≤ l.length) (hl : l.length ≤ 1000000) : CC Tryz.prog 105 [.ptr b 0, ci n] H V (fun r H' V' => r = .sl .sh 1 (bs (l.take n)) ∧ H' = H.set b (some (rdB (l.drop n) x y)) ∧ V = V') := by
  refine CC.of_swp Tryz.func105 rfl (by kernel_rfl) (by rw [Tryz.ntmps105]; exact len_le _ _ rfl) fun hok hokH => ?_
  clear hok
  have hbl := lt_of_box hb
  have hn' : (n : Int) ≤ (l.length : Int) := by omega
  unfold rdB at hb ⊢
  refine SWp.seq (Wp.s ?_)
  simp -implicitDefEqProofs [go_sem, args0]
  refine SWp.seq (Wp.s ?_)
  simp -implicitDefEqProofs [go_sem, hbx_of hb, hn]
  refine SWp.seq (Wp.s ?_)
  simp -implicitDefEqProofs [go_sem, hbx_of hb, hn]
  refine SWp.seq (Wp.s ?_)
  simp -implicitDefEqProofs [go_sem]
  refine Wp.s ?_
  simp -implicitDefEqProofs [go_sem]
  exact Fin.self ⟨rfl, rfl, rfl⟩
theorem bnumber_cc (H : Hp) (V : List Nat) (b n : Nat) (l : List UInt8) (x y : CV) (hb : H[b]? = some (some (rdB l x y))) (hn : n ≤ l.length) (hl : l.length ≤ 1000000) (hn6 : n ≤ 6) : CC Tryz.prog 104 [.ptr b 0, ci n] H V (fun r H' V' => r = ci (leV (l.take n)) ∧ H' = H.set b (some (rdB (l.drop n) x y)) ∧ V = V') := by
  refine CC.of_swp Tryz.func104 rfl (by kernel_rfl) (by rw [Tryz.ntmps104]; exact len_le _ _ rfl) fun hok hokH => ?_
  clear hok
  have hbl := lt_of_box hb
  refine SWp.seq (Wp.s ?_)
  simp -implicitDefEqProofs [go_sem, args0]
  refine SWp.seq (Wp.s ?_)
  simp -implicitDefEqProofs [go_sem]
  refine SWp.join (α := Unit) (fun _ => ([(5, ci (leV (l.take n)))], H.set b (some (rdB (l.drop n) x y)), V)) (fun _ => True) ?_ ?_
  · refine SWp.seq (Wp.s ?_)
    simp -implicitDefEqProofs [go_sem]
    refine CC.mono (take_cc _ _ b n l x y hb hn hl) ?_
    rintro _ _ _ ⟨rfl, rfl, rfl⟩
    simp -implicitDefEqProofs [go_sem, show min n l.length = n by omega]
    refine SWp.block ?_
    have hkl : (l.take n).length = n := by rw [List.length_take]; omega
    generalize l.take n = q at hkl ⊢
    refine SWp.loop (α := Nat) (fun i => ([(5, ci (leV (q.take i))), (10, .sl .sh 1 (bs q)), (11, ci n), (12, ci i)], H.set b (some (rdB (l.drop n) x y)), V)) (fun i => i ≤ n) (fun i => n - i) 0 (Nat.zero_le _) (Sh.forget (by simp [go_sem, leV]) rfl rfl) ?_
    intro i hi
    dsimp only
    refine Wp.s ?_
    by_cases h : i < n
    · have hq : i < q.length := by omega
      have h1 := leV_lt (q.take i)
      rw [List.length_take, Nat.min_eq_left (by omega)] at h1
      have e := or_sh8 (n := leV (q.take i)) (a := q[i].toNat) (i := i) (by omega) h1 q[i].toNat_lt
      have e2 : leV (q.take i) + q[i].toNat * 256 ^ i = leV (q.take (i + 1)) := by
        rw [List.take_succ_eq_append_getElem hq, leV_snoc, List.length_take, Nat.min_eq_left (by omega)]
      rw [e2] at e
      have w1 : IntKind.i64.wrap (8 * (i : Int)) = 8 * (i : Int) := IntWalk.i64_in _ ⟨by omega, by omega⟩
      have w2 : IntKind.i64.wrap (q[i].toNat : Int) = (q[i].toNat : Int) := by have := q[i].toNat_lt; exact IntWalk.i64_in _ ⟨by omega, by omega⟩
      simp -implicitDefEqProofs [go_sem, h, hq, w1, w2, e]
      refine ⟨by omega, i + 1, by omega, by omega, Sh.forget ?_ rfl rfl⟩
      simp [go_sem, wrap_succ (show i ≤ 1000000000 by omega)]
    · obtain rfl : i = n := by omega
      simp -implicitDefEqProofs [go_sem, h]
      refine Sh.forget ?_ rfl rfl
      rw [List.take_of_length_le (by omega)]
      simp [go_sem]
  · rintro _ -
    refine Wp.s ?_
    simp -implicitDefEqProofs [go_sem]
    exact Fin.self ⟨rfl, rfl, rfl⟩
theorem nz_cc (H : Hp) (V : List Nat) (c : UInt8) : CC Tryz.prog 107 [.v (.int .u8 (c.toNat : Int))] H V (Pu (cb (c != 0)) H V) := by
  refine CC.of_swp Tryz.func107 rfl (by kernel_rfl) (by rw [Tryz.ntmps107]; exact len_le _ _ rfl) fun hok hokH => ?_
  clear hok
  refine SWp.seq (Wp.s ?_)
  simp -implicitDefEqProofs [go_sem, args0]
  refine Wp.s ?_
  simp -implicitDefEqProofs [go_sem]
  refine Fin.bool ?_ hokH (by simp) (by simp)
  rw [Bool.eq_iff_iff]
  simp [← UInt8.toNat_inj]
def nzB (c : UInt8) : Bool := c != 0
theorem indexB_cc (H : Hp) (V : List Nat) (tk : Tk) (l : List UInt8) (hl : l.length ≤ 900000000) :
    CC Tryz.prog 119 [.sl tk 1 (bs l), .fn 107 []] H V (Ix (l.any nzB) H V) := by
  refine CC.of_swp Tryz.func119 rfl (by kernel_rfl) (by rw [Tryz.ntmps119]; exact len_le _ _ rfl) fun hok hokH => ?_
  clear hok
  refine SWp.seq (Wp.s ?_)
  simp -implicitDefEqProofs [go_sem, args0]
  refine SWp.join (α := Unit) (fun _ => ([], H, V)) (fun _ => l.any nzB = false) ?_ ?_
  · refine SWp.seq (Wp.s ?_)
    simp -implicitDefEqProofs [go_sem]
    refine SWp.block ?_
    refine SWp.loop (α := Nat) (fun i => ([(0, .sl tk 1 (bs l)), (1, .fn 107 []), (7, ci l.length), (8, ci i)], H, V)) (fun i => i ≤ l.length ∧ (l.take i).any nzB = false) (fun i => l.length - i) 0 ⟨Nat.zero_le _, rfl⟩
      (Sh.forget (by simp [go_sem]) rfl rfl) ?_
    rintro i ⟨hi, hp⟩
    dsimp only
    refine Wp.s ?_
    simp -implicitDefEqProofs [go_sem]
    refine ⟨fun h => ⟨h, ?_⟩, fun h => ⟨?_, Sh.forget (by simp [go_sem]) rfl rfl⟩⟩
    · refine CC.mono (nz_cc _ _ l[i]) ?_
      rintro _ _ _ ⟨rfl, rfl, rfl⟩
      rcases hq : nzB l[i] with - | -
      · have hq' : (l[i] != 0) = false := hq
        simp -implicitDefEqProofs [go_sem, hq']
        refine ⟨i + 1, ⟨by omega, by simpa using any_take h hp hq⟩, by omega, Sh.forget ?_ rfl rfl⟩
        simp [go_sem, wrap_succ (show i ≤ 1000000000 by omega)]
      · have hq' : (l[i] != 0) = true := hq
        simp -implicitDefEqProofs [go_sem, hq']
        exact Fin.ix (by rw [any_at h hq]; simp) hokH (by simp) (by simp)
    · rw [List.take_of_length_le h] at hp; simpa using hp
  · rintro _ hp
    dsimp only
    refine Wp.s ?_
    simp -implicitDefEqProofs [go_sem]
    exact Fin.ix (by rw [hp]; rfl) hokH (by simp) (by simp)
theorem containsB_cc (H : Hp) (V : List Nat) (tk : Tk) (l : List UInt8) (hl : l.length ≤ 900000000) :
    CC Tryz.prog 106 [.sl tk 1 (bs l), .fn 107 []] H V (Pu (cb (l.any nzB)) H V) := by
  refine CC.of_swp Tryz.func106 rfl (by kernel_rfl) (by rw [Tryz.ntmps106]; exact len_le _ _ rfl) fun hok hokH => Wp.s ?_
  simp -implicitDefEqProofs [go_sem, args0]
  refine CC.mono (indexB_cc _ _ _ _ hl) ?_
  rintro _ _ _ ⟨k, rfl, hk, rfl, rfl⟩
  simp -implicitDefEqProofs [go_sem]
  exact Fin.bool hk hokH (by simp) (by simp)
def panR (k : Nat) : List PanicEntry := [{ v := .iface 166 (.agg #[.int .i64 (k : Int)]), recovered := false }]
theorem demandR_run (b : Bool) (k : Nat) (w : World) : Calls Tryz.prog 102 #[.bool b, .int .i64 (k : Int)] w fun e w' => w' = w ∧ if b then e = .returned (.tuple #[]) else e = .panicked (panR k) := by
  go_enter Tryz.func102, Tryz.ntmps102
  go_wp2
  · simp_all
  · simp [bodyPost, panR]
  · simp [bodyPost, results, Tryz.results102, go_sem]
  · simp_all
theorem demandR_cx (H : Hp) (V : List Nat) (b : Bool) (k : Nat) : CX Tryz.prog 102 [.v (.bool b), er k] H V (fun r H' V' => b = true ∧ r = .tup [] ∧ H' = H ∧ V' = V) (fun ch H' V' => b = false ∧ ch = panR k ∧ H' = H ∧ V' = V) := by
  refine ⟨⟨_, Tryz.func102, rfl, by kernel_rfl⟩, fun m w us hi hu => ?_⟩
  rw [RelL] at hu
  obtain ⟨u, r, rfl, h1, h2⟩ := hu
  rw [RelL] at h2
  obtain ⟨u2, r2, rfl, h2, h3⟩ := h2
  rw [RelL] at h3
  subst h3
  rw [RelV] at h1 h2
  subst h1 h2
  refine (demandR_run b k w).mono fun e w' ⟨e1, e2⟩ => ?_
  subst e1
  cases b
  · exact .inr ⟨_, m, H, V, e2, ⟨rfl, rfl, rfl, rfl⟩, hi, Ext.refl _ _ _⟩
  · exact .inl ⟨_, m, .tup [], H, V, e2, ⟨rfl, rfl, rfl, rfl⟩, hi, (by rw [RelV]; exact ⟨[], rfl, by rw [RelL]⟩), Ext.refl _ _ _⟩
theorem cx_demR {f : FuncId} {args : List CV} {H : Hp} {V : List Nat} {K : CV → Hp → List Nat → Prop} {E : List PanicEntry → Hp → List Nat → Prop} (b : Bool) (k : Nat) (e : f = 102) (ha : args = [.v (.bool b), er k]) (h0 : b = true → K (.tup []) H V) (h1 : b = false → E (panR k) H V) : CX Tryz.prog f args H V K E := by
  subst e ha
  exact CX.mono (demandR_cx H V b k) (fun r H' V' ⟨a, b, c, d⟩ => by subst b c d; exact h0 a) (fun ch H' V' ⟨a, b, c, d⟩ => by subst b c d; exact h1 a)
end Go.Proofs.YtmgoflhjblombaaGreatDoor
namespace Go.Proofs.YtmgoflhjblombaaGreatDoor
open Go.Proofs
theorem CX.cc {P : Program} {f : FuncId} {args : List CV} {H : Hp} {V : List Nat} {K : CV → Hp → List Nat → Prop} {E : List PanicEntry → Hp → List Nat → Prop} (h : CX P f args H V K E) (hE : ∀ ch H' V', ¬ E ch H' V') : CC P f args H V K :=
  ⟨h.1, fun m w us hi hu => (h.2 m w us hi hu).mono fun _ _ h => h.elim id fun ⟨c, m', H', V', h1, h2, h3⟩ => absurd h2 (hE _ _ _)⟩
def szN (s : Sec) : Nat := (lenR s + 10) / 4
def begE (l : List Sec) : Except Nat Nat :=
  match l with
  | [] => .error 10
  | s :: _ =>
    if gn s = 0 then .error 7 else if 4096 < lenR s then .error 5 else if l.length < szN s then .error 10
    else if (l.take (szN s)).all (fun x => gn x == gn s) = false then .error 10 else .ok (szN s)
def recE (st : List UInt8) (sq : Nat) : Except Nat Rcd :=
  if leV ((st.drop (3 + leV ((st.drop 1).take 2))).take 4) ≠ (crc (st.take (3 + leV ((st.drop 1).take 2)))).toNat then .error 9
  else if (st.drop (7 + leV ((st.drop 1).take 2))).any nzB = true ∨ leV (st.take 1) = 0 then .error 3
  else .ok ⟨(leV (st.take 1) : Int), sq, (st.drop 3).take (leV ((st.drop 1).take 2))⟩
theorem begE_0 : begE [] = .error 10 := rfl
theorem begE_7 {s : Sec} {l : List Sec} (h : gn s = 0) : begE (s :: l) = .error 7 := if_pos h
theorem begE_5 {s : Sec} {l : List Sec} (h : gn s ≠ 0) (h2 : 4096 < lenR s) : begE (s :: l) = .error 5 := (if_neg h).trans (if_pos h2)
theorem begE_10 {s : Sec} {l : List Sec} (h : gn s ≠ 0) (h2 : ¬ 4096 < lenR s) (h3 : (s :: l).length < szN s) : begE (s :: l) = .error 10 := (if_neg h).trans ((if_neg h2).trans (if_pos h3))
theorem begE_torn {s : Sec} {l : List Sec} (h : gn s ≠ 0) (h2 : ¬ 4096 < lenR s) (h3 : ¬ (s :: l).length < szN s) (h4 : ((s :: l).take (szN s)).all (fun x => gn x == gn s) = false) : begE (s :: l) = .error 10 := (if_neg h).trans ((if_neg h2).trans ((if_neg h3).trans (if_pos h4)))
theorem begE_ok {s : Sec} {l : List Sec} (h : gn s ≠ 0) (h2 : ¬ 4096 < lenR s) (h3 : ¬ (s :: l).length < szN s) (h4 : ((s :: l).take (szN s)).all (fun x => gn x == gn s) = true) : begE (s :: l) = .ok (szN s) := (if_neg h).trans ((if_neg h2).trans ((if_neg h3).trans (if_neg (by rw [h4]; decide))))
def rdZ : List CV := [.v (.slice none 0 0), iv 0, iv 0]
def BegK (H : Hp) (V : List Nat) (b : Nat) (l : List Sec) : CV → Hp → List Nat → Prop := fun r H' V' => ∃ s l' n, l = s :: l' ∧ begE l = .ok n ∧ r = .tup [] ∧ H' = H.set b (some (rdB (dataS (l.take n)) (ci (gn s)) (ci n))) ∧ V = V'
def BegX (H : Hp) (V : List Nat) (b : Nat) (l : List Sec) : List PanicEntry → Hp → List Nat → Prop := fun ch H' V' => ∃ e cs L W, begE l = .error e ∧ ch = panR e ∧ H' = H.set b (some cs) ++ L ∧ V' = V ++ W
theorem lenR_or (s : Sec) : bitop .or .i64 (sb s 5 : Int) (shl .i64 (sb s 6 : Int) 8) = (lenR s : Int) := by
  have h0 := sb_lt s 5
  have h1 := sb_lt s 6
  have := or_sh8 (n := sb s 5) (a := sb s 6) (i := 1) (by decide) h0 h1
  rw [show 8 * ((1 : Nat) : Int) = 8 from rfl] at this
  rw [this]
  show ((sb s 5 + sb s 6 * 256 ^ 1 : Nat) : Int) = _
  rw [lenR]
  simp only [sb]
  omega
theorem Fin.weakB {nb nv : Nat} {R : CV → Hp → List Nat → Prop} {r : CV} {H : Hp} {V : List Nat} {b : Nat} {cs ds : List CV} (hb : H[b]? = some (some cs)) (h : LeL cs ds) (hno : ∀ x ∈ cs, x.isObj = false) (hf : Fin nb nv R r (H.set b (some ds)) V) : Fin nb nv R r H V := by
  obtain ⟨r', H', V', g, hR⟩ := hf
  exact ⟨r', H', V', Gst.trans (Gst.weak hb h hno) g, hR⟩
theorem ApB.le8 {j : Nat} {l : List UInt8} {cv : CV} {V : List Nat} (h : ApB j l cv V) : Le cv (.sl .sh 1 (bs l)) := by
  rcases h with ⟨rfl, rfl⟩ | ⟨k, v, rfl, _⟩
  · exact .nil 1 (by decide)
  · exact .sh _ _ _
theorem ApB.noObj {j : Nat} {l : List UInt8} {cv : CV} {V : List Nat} (h : ApB j l cv V) : cv.isObj = false := by
  rcases h with ⟨rfl, rfl⟩ | ⟨k, v, rfl, _⟩ <;> rfl
theorem okH_put {H : Hp} {V : List Nat} {b : Nat} {ds : List CV} (hbl : b < H.length) (hokH : ∀ (b : Nat) cs, H[b]? = some (some cs) → okL H.length V.length cs) (hd : okL H.length V.length ds) : ∀ (b' : Nat) cs, (H.set b (some ds))[b']? = some (some cs) → okL H.length V.length cs := fun b' cs hb' => by
  by_cases e : b = b'
  · subst e
    rw [List.getElem?_set_self hbl] at hb'
    cases hb'; exact hd
  · rw [List.getElem?_set_ne e] at hb'; exact hokH _ _ hb'
theorem demT_cc (H : Hp) (V : List Nat) (k : Nat) : CC Tryz.prog 102 [.v (.bool true), er k] H V (Pu (.tup []) H V) :=
  (CX.cc (demandR_cx H V true k) (by rintro _ _ _ ⟨h, _⟩; cases h)).mono (by rintro r H' V' ⟨_, rfl, rfl, rfl⟩; exact ⟨rfl, rfl, rfl⟩)
set_option maxRecDepth 8000 in
theorem begin_cx (H : Hp) (V : List Nat) (b : Nat) (l : List Sec) (hb : H[b]? = some (some rdZ)) (hl : l.length ≤ 1000000) : CX Tryz.prog 87 [.ptr b 0, secsV l] H V (BegK H V b l) (BegX H V b l) := by
  have hbl := lt_of_box hb
  have hse : H.set b (some rdZ) = H := set_same hb
  refine CX.of_swp Tryz.func87 rfl (by kernel_rfl) (by rw [Tryz.ntmps87]; exact len_le _ _ rfl) fun hok hokH => ?_
  clear hok
  refine SWp.seq (SWp.callx (pre := [_, _, _]) (post := []) ?_)
  simp -implicitDefEqProofs [go_sem, args0]
  cases l with
  | nil =>
    refine cx_demR false 10 rfl (by simp) (fun h => by cases h) (fun _ => ?_)
    exact ⟨10, rdZ, [], [], begE_0, rfl, by rw [hse]; simp, by simp⟩
  | cons s l =>
    refine cx_demR true 10 rfl (by simp) (fun _ => ?_) (fun h => by cases h)
    simp -implicitDefEqProofs [go_sem]
    unfold rdZ at hb
    refine SWp.seq (Wp.s ?_)
    simp -implicitDefEqProofs [go_sem, hbx_of hb]
    refine CC.mono (rnumber_cc _ _ s) ?_
    rintro _ _ _ ⟨rfl, rfl, rfl⟩
    simp -implicitDefEqProofs [go_sem, hbx_of hb]
    obtain ⟨H1, hH1⟩ : ∃ H1, H1 = H.set b (some [.v (.slice none 0 0), ci (gn s), iv 0]) := ⟨_, rfl⟩
    have hb1 : H1[b]? = some (some [.v (.slice none 0 0), ci (gn s), iv 0]) := by rw [hH1, List.getElem?_set_self hbl]
    rw [← hH1]
    refine SWp.seq (SWp.callx (pre := [_, _, _, _, _]) (post := []) ?_)
    simp -implicitDefEqProofs [go_sem, hbx_of hb1]
    by_cases h1 : gn s = 0
    · refine cx_demR false 7 rfl (by simp [h1]) (fun h => by cases h) (fun _ => ?_)
      exact ⟨7, _, [], [], begE_7 h1, rfl, by rw [hH1]; simp; rfl, by simp⟩
    refine cx_demR true 7 rfl (by simp; omega) (fun _ => ?_) (fun h => by cases h)
    simp -implicitDefEqProofs [go_sem]
    refine SWp.seq (SWp.drawnT [] [] (.s 0 .pl <| .s 1 .pl <| .s 2 .pl <| .s 3 .pl <| .s 4 .pl <| .s 5 .pl <| .s 6 .pl <| .s 7 .pl <| .s 8 .pl <| .s 9 .pl <| .s 10 .pl <| .s 11 .pl <| .s 12 .pl <| .n) (by kernel_rfl) (by kernel_rfl) ?_)
    simp -implicitDefEqProofs [go_sem, secC_get, sb64, lenR_or]
    refine SWp.seq (SWp.callx (pre := [_, _]) (post := []) ?_)
    simp -implicitDefEqProofs [go_sem]
    by_cases h2 : 4096 < lenR s
    · refine cx_demR false 5 rfl (by simp; omega) (fun h => by cases h) (fun _ => ?_)
      exact ⟨5, _, [], [], begE_5 h1 h2, rfl, by rw [hH1]; simp; rfl, by simp⟩
    refine cx_demR true 5 rfl (by simp; omega) (fun _ => ?_) (fun h => by cases h)
    simp -implicitDefEqProofs [go_sem]
    have hsz : szR (lenR s : Int) = (szN s : Int) := by rw [szR, if_neg (by omega), szN]; omega
    refine SWp.seq (Wp.s ?_)
    simp -implicitDefEqProofs [go_sem]
    refine CC.mono (RSize_cc _ _ _) ?_
    rintro _ _ _ ⟨rfl, rfl, rfl⟩
    simp -implicitDefEqProofs [go_sem, hsz, hbx_of hb1]
    obtain ⟨H2, hH2⟩ : ∃ H2, H2 = H1.set b (some [.v (.slice none 0 0), ci (gn s), ci (szN s)]) := ⟨_, rfl⟩
    have hb2 : H2[b]? = some (some [.v (.slice none 0 0), ci (gn s), ci (szN s)]) := by rw [hH2, List.getElem?_set_self (by rw [hH1, List.length_set]; exact hbl)]
    have hH2' : H2 = H.set b (some [.v (.slice none 0 0), ci (gn s), ci (szN s)]) := by rw [hH2, hH1, List.set_set]
    rw [← hH2]
    refine SWp.seq (SWp.callx (pre := [_, _, _, _, _, _, _]) (post := []) ?_)
    simp -implicitDefEqProofs [go_sem, hbx_of hb2]
    by_cases h3 : (s :: l).length < szN s
    · refine cx_demR false 10 rfl (by simp at h3 ⊢; omega) (fun h => by cases h) (fun _ => ?_)
      exact ⟨10, _, [], [], begE_10 h1 h2 h3, rfl, by rw [hH2']; simp; rfl, by simp⟩
    refine cx_demR true 10 rfl (by simp at h3 ⊢; omega) (fun _ => ?_) (fun h => by cases h)
    simp -implicitDefEqProofs [go_sem]
    refine SWp.seq (Wp.s ?_)
    simp -implicitDefEqProofs [go_sem, hbx_of hb2]
    have hszl : szN s ≤ l.length + 1 := by simp at h3; omega
    refine ⟨hszl, ?_⟩
    rw [show secC s :: List.map secC l = List.map secC (s :: l) from rfl, ← List.map_take, Nat.min_eq_left hszl, hH2']
    have hq : ((s :: l).take (szN s)).length = szN s := by rw [List.length_take, List.length_cons]; omega
    have hbeg : ((s :: l).take (szN s)).all (fun x => gn x == gn s) = true → begE (s :: l) = .ok (szN s) := begE_ok h1 h2 h3
    have hbad : ((s :: l).take (szN s)).all (fun x => gn x == gn s) = false → begE (s :: l) = .error 10 := begE_torn h1 h2 h3
    have hBK : ∀ r H' V', BegK H V b (s :: l) r H' V' = (∃ s' l' n, s :: l = s' :: l' ∧ begE (s :: l) = .ok n ∧ r = .tup [] ∧ H' = H.set b (some (rdB (dataS ((s :: l).take n)) (ci (gn s')) (ci n))) ∧ V = V') := fun _ _ _ => rfl
    generalize hqq : (s :: l).take (szN s) = q at hq hbeg hbad ⊢
    generalize hn : szN s = n at hq hbeg hbad hszl hqq ⊢
    refine SWp.block ?_
    refine SWp.loop (α := Nat × CV × Hp × List Nat) (fun x => ([(0, .ptr b 0), (57, .sl .sh 8 (q.map secC)), (58, ci n), (59, ci x.1)], H.set b (some [x.2.1, ci (gn s), ci n]) ++ x.2.2.1, x.2.2.2))
      (fun x => x.1 ≤ n ∧ ApB V.length (dataS (q.take x.1)) x.2.1 x.2.2.2 ∧ (∃ W, x.2.2.2 = V ++ W) ∧ (q.take x.1).all (fun x => gn x == gn s) = true) (fun x => n - x.1) (0, .v (.slice none 0 0), [], V) ⟨by omega, .inl ⟨rfl, rfl⟩, ⟨[], by simp⟩, rfl⟩ (Sh.forget (by simp [go_sem]) (by simp) rfl) ?_
    rintro ⟨i, cv, L, V'⟩ ⟨hi, ha, ⟨W, hW⟩, hg⟩
    dsimp only at hi ha hW hg ⊢
    have hbx1 : ∀ (c : List CV) (M : Hp), (H.set b (some c) ++ M)[b]? = some (some c) := fun c M => by rw [List.getElem?_append_left (by rw [List.length_set]; exact hbl), List.getElem?_set_self hbl]
    refine SWp.seq (Wp.s ?_)
    simp -implicitDefEqProofs [go_sem]
    refine SWp.seq (Wp.s ?_)
    simp -implicitDefEqProofs [go_sem]
    refine ⟨fun h => ?_, fun h => ?_⟩
    case refine_2 =>
      obtain rfl : i = n := by omega
      rw [List.take_of_length_le (by omega)] at ha hg
      refine Fin.weakB (b := b) (ds := rdB (dataS q) (ci (gn s)) (ci i)) (hbx1 _ _) (.cons ha.le8 (LeL.rfl' _)) ?_ ?_
      · intro x hx
        rcases List.mem_cons.1 hx with rfl | hx
        · exact ha.noObj
        · rcases List.mem_cons.1 hx with rfl | hx
          · rfl
          · obtain rfl : x = ci i := by simpa using hx
            rfl
      rw [List.set_append_left _ _ (by rw [List.length_set]; exact hbl), List.set_set]
      exact Fin.cut H.length V.length ⟨s, l, i, rfl, hbeg hg, rfl, by rw [hqq], rfl⟩ (Nat.le_refl _) (Nat.le_refl _) (List.take_left' (by rw [List.length_set])) (by rw [hW]; simp) (.refl _) (by rw [okV, okL]; trivial) (okH_put hbl hokH (by simp [rdB, okL, okV, okTk, okBs_t]))
    have hiq : i < q.length := by omega
    refine SWp.seq (SWp.block (SWp.seq (Wp.s ?_)))
    simp -implicitDefEqProofs [go_sem, hiq]
    by_cases hgi : gn q[i] = gn s
    case neg =>
      have hgi' : ¬ ((gn q[i] : Nat) : Int) = ((gn s : Nat) : Int) := by omega
      have hall : (q.all fun x => gn x == gn s) = false := by
        rw [← Bool.not_eq_true, List.all_eq_true]
        intro hh
        exact hgi (by simpa using hh _ (List.getElem_mem hiq))
      have hX : ∀ M : Hp, BegX H V b (s :: l) (panR 10) (H.set b (some [cv, ci (gn s), ci n]) ++ M) V' := fun M => ⟨10, _, M, W, hbad hall, rfl, rfl, hW⟩
      refine SWp.seq (SWp.drawnY (.f 0 false (.f 1 false (.s 2 false (.s 3 false (.s 4 false (.s 5 false (.s 6 false (.s 7 true (.n))))))) 2 false (.f 1 false (.s 3 false (.s 4 false (.s 5 false (.s 6 false (.s 7 true (.n)))))) 3 false (.f 1 false (.s 4 false (.s 5 false (.s 6 false (.s 7 true (.n))))) 4 false (.f 1 false (.s 5 false (.s 6 false (.s 7 true (.n)))) 5 false (.s 1 false (.s 6 false (.s 7 true (.n)))))))) 2 false (.f 0 false (.f 1 false (.s 3 false (.s 4 false (.s 5 false (.s 6 false (.s 7 true (.n)))))) 3 false (.f 1 false (.s 4 false (.s 5 false (.s 6 false (.s 7 true (.n))))) 4 false (.f 1 false (.s 5 false (.s 6 false (.s 7 true (.n)))) 5 false (.s 1 false (.s 6 false (.s 7 true (.n))))))) 3 false (.f 0 false (.f 1 false (.s 4 false (.s 5 false (.s 6 false (.s 7 true (.n))))) 4 false (.f 1 false (.s 5 false (.s 6 false (.s 7 true (.n)))) 5 false (.s 1 false (.s 6 false (.s 7 true (.n)))))) 4 false (.f 0 false (.f 1 false (.s 5 false (.s 6 false (.s 7 true (.n)))) 5 false (.s 1 false (.s 6 false (.s 7 true (.n))))) 5 false (.s 0 false (.s 1 false (.s 6 false (.s 7 true (.n))))))))) (by kernel_rfl) (by kernel_rfl) ?_)
      have hbb := hbx1 [cv, ci (gn s), ci n] (L ++ [some (secC q[i])])
      simp -implicitDefEqProofs [go_sem, hbx_of hbb]
      repeat' (with_reducible refine And.intro ?_ ?_)
      all_goals
        refine CC.mono (rnumber_cc _ _ _) ?_
        rintro _ _ _ ⟨rfl, rfl, rfl⟩
        simp -implicitDefEqProofs [go_sem, hbx_of hbb, hgi]
        refine stepY_x rfl rfl (by simp [go_sem]) ?_
        simp -implicitDefEqProofs [go_sem]
        refine cx_demR false 10 rfl (by simp; exact hgi') (fun h => by cases h) (fun _ => hX _)
    refine SWp.seq (SWp.drawnT [] [] (.s 0 .pl <| .s 2 .pl <| .s 3 .pl <| .s 4 .pl <| .s 5 .pl <| .s 1 .pl <| .s 6 .pl <| .s 7 .pl <| .n) (by kernel_rfl) (by kernel_rfl) ?_)
    simp -implicitDefEqProofs [go_sem, hbx_of (hbx1 [cv, ci (gn s), ci n] (L ++ [some (secC q[i])]))]
    refine CC.mono (rnumber_cc _ _ _) ?_
    rintro _ _ _ ⟨rfl, rfl, rfl⟩
    simp -implicitDefEqProofs [go_sem, hgi]
    refine CC.mono (demT_cc _ _ _) ?_
    rintro _ _ _ ⟨rfl, rfl, rfl⟩
    simp -implicitDefEqProofs [go_sem]
    refine SWp.drawnT [] [11] (.s 0 .pl <| .s 1 .pl <| .s 2 .pl <| .s 3 .pl <| .s 4 .pl <| .s 5 .pl <| .s 6 .pl <| .s 7 .pl <| .s 8 .pl <| .s 9 .pl <| .s 10 .pl <| .s 11 .st <| .n) (by kernel_rfl) (by kernel_rfl) ?_
    have hg' : (q.take (i + 1)).all (fun x => gn x == gn s) = true := by
      rw [List.take_succ_eq_append_getElem hiq, List.all_append, hg]
      simp [hgi]
    have hd := dataS_succ q i hiq
    have hset : ∀ (c c' : List CV) (M : Hp), (H.set b (some c) ++ M).set b (some c') = H.set b (some c') ++ M := fun c c' M => by
      rw [List.set_append_left _ _ (by rw [List.length_set]; exact hbl), List.set_set]
    have hall' : ∀ (x : Sec), x ∈ q.take (i + 1) → gn x = gn s := fun x hx => by simpa using List.all_eq_true.1 hg' x hx
    rcases ha with ⟨rfl, he⟩ | ⟨k, v, rfl, hv, hk⟩
    · simp -implicitDefEqProofs [go_sem, hbx_of (hbx1 [.v (.slice none 0 0), ci (gn s), ci n] (L ++ [some (secC q[i])])), secC_drop4]
      refine ⟨by rw [q[i].len]; decide, Wp.s ?_⟩
      rw [hset]
      simp -implicitDefEqProofs [go_sem, wrap_succ (show i ≤ 1000000000 by simp at hl; omega)]
      refine ⟨i + 1, _, _, V' ++ [0], ⟨by omega, .inr ⟨V'.length, 0, by rw [hd, he]; rfl, by simp, by rw [hW]; simp⟩, ⟨W ++ [0], by rw [hW, List.append_assoc]⟩, hall'⟩, by omega, Sh.forget (by simp [go_sem]) rfl rfl⟩
    · simp -implicitDefEqProofs [go_sem, hbx_of (hbx1 [.sl (.own k v) 1 (bs (dataS (q.take i))), ci (gn s), ci n] (L ++ [some (secC q[i])])), secC_drop4, hv]
      have hkv := (List.getElem?_eq_some_iff.1 hv).1
      refine ⟨by rw [q[i].len, dataS_len, List.length_take]; simp at hl; omega, Wp.s ?_⟩
      rw [hset]
      simp -implicitDefEqProofs [go_sem, wrap_succ (show i ≤ 1000000000 by simp at hl; omega)]
      refine ⟨i + 1, .sl (.own k (v + 1)) 1 (bs (dataS (q.take i) ++ q[i].val.drop 4)), _, V'.set k (v + 1), ⟨by omega, .inr ⟨k, v + 1, by rw [hd], by rw [List.getElem?_set_self hkv], hk⟩, ⟨W.set (k - V.length) (v + 1), by rw [hW, List.set_append_right _ _ hk]⟩, hall'⟩, by omega, Sh.forget (by simp [go_sem]) rfl rfl⟩
end Go.Proofs.YtmgoflhjblombaaGreatDoor
namespace Go.Proofs.YtmgoflhjblombaaGreatDoor
open Go.Proofs
def lnS (st : List UInt8) : Nat := leV ((st.drop 1).take 2)
def RecK (H : Hp) (V : List Nat) (b : Nat) (st : List UInt8) (sq n : Nat) : CV → Hp → List Nat → Prop := fun r H' V' => ∃ rec rest, recE st sq = .ok rec ∧ r = .agg (rcC rec) ∧ H' = H.set b (some (rdB rest (ci sq) (ci n))) ∧ V = V'
def RecX (H : Hp) (V : List Nat) (b : Nat) (st : List UInt8) (sq n : Nat) : List PanicEntry → Hp → List Nat → Prop := fun ch H' V' => ∃ e cs L W, recE st sq = .error e ∧ ch = panR e ∧ H' = H.set b (some cs) ++ L ∧ V' = V ++ W
theorem recE_9 {st : List UInt8} {sq : Nat} (h : leV ((st.drop (3 + lnS st)).take 4) ≠ (crc (st.take (3 + lnS st))).toNat) : recE st sq = .error 9 := if_pos h
theorem recE_3 {st : List UInt8} {sq : Nat} (h : ¬ leV ((st.drop (3 + lnS st)).take 4) ≠ (crc (st.take (3 + lnS st))).toNat) (h2 : (st.drop (7 + lnS st)).any nzB = true ∨ leV (st.take 1) = 0) : recE st sq = .error 3 := (if_neg h).trans (if_pos h2)
theorem recE_ok {st : List UInt8} {sq : Nat} (h : ¬ leV ((st.drop (3 + lnS st)).take 4) ≠ (crc (st.take (3 + lnS st))).toNat) (h2 : ¬ ((st.drop (7 + lnS st)).any nzB = true ∨ leV (st.take 1) = 0)) : recE st sq = .ok ⟨(leV (st.take 1) : Int), sq, (st.drop 3).take (lnS st)⟩ := (if_neg h).trans (if_neg h2)
set_option maxRecDepth 8000 in
theorem record_cx (H : Hp) (V : List Nat) (b : Nat) (st : List UInt8) (sq n : Nat) (hb : H[b]? = some (some (rdB st (ci sq) (ci n)))) (hst : 7 + lnS st ≤ st.length) (hl : st.length ≤ 1000000) : CX Tryz.prog 88 [.ptr b 0] H V (RecK H V b st sq n) (RecX H V b st sq n) := by
  have hbl := lt_of_box hb
  refine CX.of_swp Tryz.func88 rfl (by kernel_rfl) (by rw [Tryz.ntmps88]; exact len_le _ _ rfl) fun hok hokH => ?_
  clear hok
  obtain ⟨z, hz⟩ : ∃ z : List CV, z = [iv 0, iv 0, .v (.slice none 0 0)] := ⟨_, rfl⟩
  have hbx : ∀ (c : List UInt8) (M : Hp), (H.set b (some (rdB c (ci sq) (ci n))) ++ M)[b]? = some (some (rdB c (ci sq) (ci n))) := fun c M => by rw [List.getElem?_append_left (by rw [List.length_set]; exact hbl), List.getElem?_set_self hbl]
  have hset : ∀ (c : List UInt8) (c' : List CV) (M : Hp), (H.set b (some (rdB c (ci sq) (ci n))) ++ M).set b (some c') = H.set b (some c') ++ M := fun c c' M => by
    rw [List.set_append_left _ _ (by rw [List.length_set]; exact hbl), List.set_set]
  have hH : H.set b (some (rdB st (ci sq) (ci n))) = H := set_same hb
  have hln : lnS st = leV ((st.drop 1).take 2) := rfl
  have hlb := leV_lt ((st.drop 1).take 2)
  rw [← hln, List.length_take, List.length_drop, Nat.min_eq_left (by omega)] at hlb
  generalize hlen : lnS st = m at hst hln hlb
  refine SWp.seq (Wp.s ?_)
  simp -implicitDefEqProofs [go_sem, args0]
  rw [← hz]
  have hb0 : (H ++ [some z])[b]? = some (some (rdB st (ci sq) (ci n))) := by rw [List.getElem?_append_left hbl]; exact hb
  refine SWp.seq (Wp.s ?_)
  simp -implicitDefEqProofs [go_sem, hbx_of (show (H ++ [some z])[b]? = some (some [.sl .sh 1 (bs st), ci sq, ci n]) from hb0)]
  refine SWp.seq (Wp.s ?_)
  simp -implicitDefEqProofs [go_sem]
  refine CC.mono (bnumber_cc _ _ b 1 st _ _ hb0 (by omega) hl (by decide)) ?_
  rintro _ _ _ ⟨rfl, rfl, rfl⟩
  rw [List.set_append_left _ _ hbl]
  simp -implicitDefEqProofs [go_sem, -List.drop_one]
  refine SWp.seq (Wp.s ?_)
  simp -implicitDefEqProofs [go_sem, -List.drop_one]
  refine CC.mono (bnumber_cc _ _ b 2 (st.drop 1) _ _ (hbx _ _) (by rw [List.length_drop]; omega) (by rw [List.length_drop]; omega) (by decide)) ?_
  rintro _ _ _ ⟨rfl, rfl, rfl⟩
  rw [hset, ← hln, List.drop_drop]
  simp -implicitDefEqProofs [go_sem, -List.drop_one]
  refine SWp.seq (Wp.s ?_)
  simp -implicitDefEqProofs [go_sem, -List.drop_one]
  refine CC.mono (take_cc _ _ b m (st.drop (1 + 2)) _ _ (hbx _ _) (by rw [List.length_drop]; omega) (by rw [List.length_drop]; omega)) ?_
  rintro _ _ _ ⟨rfl, rfl, rfl⟩
  rw [hset, List.drop_drop]
  simp -implicitDefEqProofs [go_sem, -List.drop_one]
  refine CC.mono (clone_cc _ _ _ _ (by simp; omega)) ?_
  rintro _ _ _ ⟨v, rfl, rfl, rfl⟩
  simp -implicitDefEqProofs [go_sem, -List.drop_one]
  refine SWp.seq (Wp.s ?_)
  simp -implicitDefEqProofs [go_sem, -List.drop_one]
  refine CC.mono (bnumber_cc _ _ b 4 (st.drop (1 + 2 + m)) _ _ (hbx _ _) (by rw [List.length_drop]; omega) (by rw [List.length_drop]; omega) (by decide)) ?_
  rintro _ _ _ ⟨rfl, rfl, rfl⟩
  rw [hset, List.drop_drop]
  simp -implicitDefEqProofs [go_sem, -List.drop_one]
  refine SWp.seq (SWp.callx (pre := [_, _, _, _, _, _, _, _]) (post := []) ?_)
  have w1 : IntKind.i64.wrap (3 + (m : Int)) = ((3 + m : Nat) : Int) := (IntWalk.i64_in _ ⟨by omega, by omega⟩).trans (by omega)
  simp -implicitDefEqProofs [go_sem, -List.drop_one, w1]
  refine ⟨by omega, by omega, ?_⟩
  rw [show (3 + (m : Int)).toNat = 3 + m by omega]
  refine CC.mono (Sum_cc _ _ .sh (st.take (3 + m)) (by rw [List.length_take]; omega)) ?_
  rintro _ _ _ ⟨rfl, rfl, rfl⟩
  simp -implicitDefEqProofs [go_sem, -List.drop_one, wrap_rn]
  have r9 := recE_9 (st := st) (sq := sq)
  have r3 := recE_3 (st := st) (sq := sq)
  have rok := recE_ok (st := st) (sq := sq)
  rw [hlen] at r9 r3 rok
  generalize leV ((st.drop (3 + m)).take 4) = sm at r9 r3 rok ⊢
  generalize (crc (st.take (3 + m))).toNat = cs at r9 r3 rok ⊢
  by_cases hs : sm = cs
  case neg =>
    have hs' : ¬ (sm : Int) = (cs : Int) := by omega
    refine cx_demR false 9 rfl (by simp; exact hs') (fun h => by cases h) (fun _ => ?_)
    exact ⟨9, _, [some z], [v], r9 hs, rfl, rfl, rfl⟩
  refine cx_demR true 9 rfl (by simp [hs]) (fun _ => ?_) (fun h => by cases h)
  simp -implicitDefEqProofs [go_sem, -List.drop_one]
  have hkd := leV_lt (st.take 1)
  rw [List.length_take, Nat.min_eq_left (by omega)] at hkd
  generalize hkv : leV (st.take 1) = kd at r3 rok hkd ⊢
  refine SWp.seq (SWp.callx (pre := [_, _, _, _, _, _, _, _, _, _, _]) (post := []) ?_)
  have hbb := hbx (st.drop (3 + m + 4)) [some z]
  by_cases hk : kd = 0
  · simp -implicitDefEqProofs [go_sem, -List.drop_one, hk]
    refine cx_demR false 3 rfl (by simp) (fun h => by cases h) (fun _ => ?_)
    exact ⟨3, _, [some z], [v], r3 (by simp [hs]) (.inr hk), rfl, rfl, rfl⟩
  have hk' : 0 < kd := by omega
  simp -implicitDefEqProofs [go_sem, -List.drop_one, hk', hbx_of (show (H.set b (some (rdB (st.drop (3 + m + 4)) (ci sq) (ci n))) ++ [some z])[b]? = some (some [.sl .sh 1 (bs (st.drop (3 + m + 4))), ci sq, ci n]) from hbb)]
  refine CC.mono (containsB_cc _ _ .sh (st.drop (3 + m + 4)) (by rw [List.length_drop]; omega)) ?_
  rintro _ _ _ ⟨rfl, rfl, rfl⟩
  have e7 : 3 + m + 4 = 7 + m := by omega
  cases hnz : (st.drop (7 + m)).any nzB with
  | true =>
    simp -implicitDefEqProofs [go_sem, e7, hnz]
    refine cx_demR false 3 rfl (by simp) (fun h => by cases h) (fun _ => ?_)
    exact ⟨3, _, [some z], [v], r3 (by simp [hs]) (.inl hnz), rfl, rfl, rfl⟩
  | false =>
    simp -implicitDefEqProofs [go_sem, e7, hnz]
    refine cx_demR true 3 rfl rfl (fun _ => ?_) (fun h => by cases h)
    simp -implicitDefEqProofs [go_sem, -List.drop_one]
    have hR := rok (by simp [hs]) (by simp [hnz, hk])
    have hb7 : (H.set b (some (rdB (st.drop (7 + m)) (ci sq) (ci n))) ++ [some z])[b]? = some (some [.sl .sh 1 (bs (st.drop (7 + m))), ci sq, ci n]) := hbx _ _
    have hbz : (H.set b (some (rdB (st.drop (7 + m)) (ci sq) (ci n))) ++ [some z])[H.length]? = some (some [iv 0, iv 0, .v (.slice none 0 0)]) := by
      rw [List.getElem?_append_right (by rw [List.length_set]; exact Nat.le_refl _), List.length_set, Nat.sub_self, hz]; rfl
    have hss : ∀ y : List CV, (H.set b (some (rdB (st.drop (7 + m)) (ci sq) (ci n))) ++ [some z]).set H.length (some y) = H.set b (some (rdB (st.drop (7 + m)) (ci sq) (ci n))) ++ [some y] := fun y => by
      rw [List.set_append_right _ _ (by rw [List.length_set]; exact Nat.le_refl _), List.length_set, Nat.sub_self]; rfl
    refine SWp.seq (Wp.s ?_)
    simp -implicitDefEqProofs [go_sem, hbx_of hb7, hbx_of hbz, hss]
    refine Wp.s ?_
    simp -implicitDefEqProofs [go_sem]
    refine Fin.cut (r' := .agg (rcC ⟨(kd : Int), (sq : Int), (st.drop 3).take m⟩)) H.length V.length ⟨_, _, hR, rfl, rfl, rfl⟩ (Nat.le_refl _) (Nat.le_refl _) (List.take_left' (by rw [List.length_set])) (by simp) (.agg (.cons (.refl _) (.cons (.refl _) (.cons (.sh _ _ _) .nil)))) (by rw [okV, okL_rcC]; trivial) (okH_put hbl hokH (by simp [rdB, okL, okV, okTk, okBs_t]))
def dcV : Except Nat (Rcd × Nat) → CV
  | .ok (r, n) => .tup [.agg (rcC r), ci n, er 0]
  | .error e => .tup [.agg (rcC zrc), ci 0, er e]
def decX (l : List Sec) : Except Nat (Rcd × Nat) :=
  match begE l with
  | .error e => .error e
  | .ok n =>
    match recE (dataS (l.take n)) (gn (l.getD 0 sec0)) with
    | .error e => .error e
    | .ok r => .ok (r, n)
end Go.Proofs.YtmgoflhjblombaaGreatDoor
namespace Go.Proofs.YtmgoflhjblombaaGreatDoor
open Go.Proofs
theorem taR (v : Value) (w : World) : (Instr.typeAssert (.iface 166 v) 20 166 true).run Tryz.prog w = .ok (.tuple #[v, .bool true]) w := by
  simp [Instr.typeAssert, go_sem]
theorem retDecR : RetD Tryz.prog 86 3 := ⟨⟨_, Tryz.func86, rfl, by kernel_rfl⟩, fun us w hs => by
  obtain ⟨a, b, c, rfl⟩ : ∃ a b c, us = #[a, b, c] := by
    rcases us with ⟨l⟩
    match l, hs with
    | [a, b, c], _ => exact ⟨a, b, c, rfl⟩
  refine callsD_of_wpS Tryz.func86 rfl fun c₀ cs hu => ?_
  apply wpS_seq
  apply wpS_region
  simp [wpOpsS, go_sem, recoverD, hu, Tryz.ntmps86, Exit.thenS]
  apply wpS_seq
  apply wpS_region
  simp [wpOpsS, go_sem, recoverD, hu, Tryz.ntmps86, Exit.thenS]
  refine wpS_cond (t := false) (by simp [Act.eval, Array.replicate]) ?_
  simp only [Bool.false_eq_true, if_false]
  refine wpS_of_wp (wp_skip ?_)
  cases c₀
  simp_all [bodyPostS, results, Tryz.results86]⟩
def rcZ : List CV := [iv 0, iv 0, .v (.slice none 0 0)]
theorem catchDecR (H : Hp) (V : List Nat) (a b c k : Nat) (cs : List CV) (x y : CV) (ha : H[a]? = some (some cs)) (hb : H[b]? = some (some [x])) (hc : H[c]? = some (some [y])) (hab : a ≠ b) (hac : a ≠ c) (hbc : b ≠ c) (hcs : cs.length = 3) :
    CD Tryz.prog 86 [.ptr a 0, .ptr b 0, .ptr c 0] (panR k) H V (fun H' V' => ∃ M, H' = (((H.set a (some rcZ)).set b (some [iv 0])).set c (some [er k])) ++ M ∧ V' = V) := by
  refine CD.of_swp Tryz.func86 rfl (by kernel_rfl) Tryz.results86 (by rw [Tryz.ntmps86]; exact len_le _ _ rfl) (by rw [Tryz.ntmps86]; decide) (by rw [Tryz.ntmps86]; decide) (by rw [Tryz.ntmps86]; decide) (by rw [Tryz.ntmps86]; decide) ?_ (SWp.seq (Wp.s ?_))
  · intro w A h
    have h' : A.tmps[7]?.getD undef = .iface 166 (.agg #[.int .i64 k]) := by simpa [Act.eval] using h
    simp [go_sem, h']
  have hb1 : (H.set a (some rcZ))[b]? = some (some [x]) := by rw [List.getElem?_set_ne hab]; exact hb
  have hc1 : ((H.set a (some rcZ)).set b (some [iv 0]))[c]? = some (some [y]) := by rw [List.getElem?_set_ne hbc, List.getElem?_set_ne hac]; exact hc
  unfold rcZ at hb1 hc1 ⊢
  simp -implicitDefEqProofs [go_sem, args0, hbx_some ha, hcs, hbx_some hb1, hbx_some hc1, List.drop_eq_nil_of_le (show cs.length ≤ 3 by omega)]
  obtain ⟨H3, hH3⟩ : ∃ H3, H3 = (H.set a (some [iv 0, iv 0, .v (.slice none 0 0)])).set b (some [iv 0]) := ⟨_, rfl⟩
  have hcl : c < H3.length := by rw [hH3, List.length_set, List.length_set]; exact lt_of_box hc
  have hln : H3.length = H.length := by rw [hH3, List.length_set, List.length_set]
  rw [← hH3]
  obtain ⟨H4, hH4⟩ : ∃ H4, H4 = H3.set c (some [iv 3]) := ⟨_, rfl⟩
  have hc4 : H4[c]? = some (some [iv 3]) := by rw [hH4, List.getElem?_set_self hcl]
  have hs4 : ∀ y : List CV, H4.set c (some y) = H3.set c (some y) := fun y => by rw [hH4, List.set_set]
  have hl4 : H4.length = H.length := by rw [hH4, List.length_set, hln]
  rw [← hH4, ← hl4]
  refine SWp.seq (SWp.tassert (pre := [_]) (post := [_, _, _, _, _, _]) ?_)
  simp -implicitDefEqProofs [go_sem]
  refine ⟨.agg [ci k], 166, _, ⟨rfl, rfl⟩, fun m w V => ?_, fun A w hA => ?_, ?_⟩
  · rw [RelV]; exact ⟨[_], rfl, by rw [RelL]; exact ⟨_, _, rfl, by rw [RelV], by rw [RelL]⟩⟩
  · rw [hA, taR]; rfl
  simp -implicitDefEqProofs [go_sem]
  refine SWp.seq (Wp.s ?_)
  simp -implicitDefEqProofs [go_sem]
  have hcc : (H4 ++ [some [ci k]])[c]? = some (some [iv 3]) := by rw [List.getElem?_append_left (lt_of_box hc4)]; exact hc4
  refine Wp.s ?_
  simp -implicitDefEqProofs [go_sem, hbx_of hcc]
  refine Fin.self ⟨⟨[some [ci k]], ?_⟩, rfl⟩
  rw [List.set_append_left _ _ (lt_of_box hc4), hs4]
theorem okV_dcV (i j : Nat) (x : Except Nat (Rcd × Nat)) : okV i j (dcV x) := by
  cases x <;> simp only [dcV] <;> rw [okV, okL, okL, okL, okL] <;> exact ⟨by rw [okV, okL_rcC]; trivial, by rw [okV]; trivial, okV_er _ _ _, trivial⟩
theorem rcZ_le : Le (.agg rcZ) (.agg (rcC zrc)) := .agg (.cons (.refl _) (.cons (.refl _) (.cons (.nil 1 (by decide)) .nil)))
theorem begE_spec {s : Sec} {l : List Sec} {n : Nat} (h : begE (s :: l) = .ok n) : n = szN s ∧ n ≤ (s :: l).length ∧ gn s ≠ 0 ∧ lenR s ≤ 4096 := by
  by_cases h1 : gn s = 0
  · rw [begE_7 h1] at h; cases h
  by_cases h2 : 4096 < lenR s
  · rw [begE_5 h1 h2] at h; cases h
  by_cases h3 : (s :: l).length < szN s
  · rw [begE_10 h1 h2 h3] at h; cases h
  cases h4 : ((s :: l).take (szN s)).all (fun x => gn x == gn s) with
  | false => rw [begE_torn h1 h2 h3 h4] at h; cases h
  | true =>
    rw [begE_ok h1 h2 h3 h4] at h
    cases h
    exact ⟨rfl, by omega, h1, by omega⟩
theorem lnS_data (s : Sec) (l : List Sec) (n : Nat) (hn : 1 ≤ n) : lnS (dataS ((s :: l).take n)) = lenR s := by
  obtain ⟨m, rfl⟩ : ∃ m, n = m + 1 := ⟨n - 1, by omega⟩
  rw [List.take_succ_cons, dataS, List.flatMap_cons, lnS, lenR]
  have h8 := s.len
  generalize s.val = v at h8
  match v, h8 with
  | [a, b, c, d, e, f, g, h], _ => simp [leV]
set_option maxRecDepth 8000 in
set_option maxHeartbeats 4000000 in
theorem RDecode_cc (H : Hp) (V : List Nat) (l : List Sec) (hl : l.length ≤ 100000) : CC Tryz.prog 62 [secsV l] H V (Pu (dcV (decX l)) H V) := by
  refine CC.of_deferX (pre := [_]) Tryz.func62 rfl (by kernel_rfl) (by rw [Tryz.ntmps62]; exact len_le _ _ rfl) retDecR fun hok hokH => Wp.s ?_
  clear hok
  simp -implicitDefEqProofs [go_sem, args0]
  refine SWp.seq (Wp.s ?_)
  simp -implicitDefEqProofs [go_sem]
  refine SWp.seq (SWp.callx (pre := [_, _]) (post := []) ?_)
  simp -implicitDefEqProofs [go_sem]
  have hb3 : (H ++ [some [iv 0, iv 0, .v (.slice none 0 0)], some [iv 0], some [iv 0], some rdZ])[H.length + 3]? = some (some rdZ) := by rw [hget]; rfl
  have stop : ∀ (k : Nat) (L : Hp) (W : List Nat), decX l = .error k → CD Tryz.prog 86 [.ptr H.length 0, .ptr (H.length + 1) 0, .ptr (H.length + 2) 0] (panR k)
      (H ++ some [iv 0, iv 0, .v (.slice none 0 0)] :: some [iv 0] :: some [iv 0] :: L) (V ++ W)
      fun H' V' => hbx H' H.length fun cs => 3 ≤ cs.length ∧ hbx H' (H.length + 1) fun cs_1 => ∃ h : 0 < cs_1.length, hbx H' (H.length + 2) fun cs_2 => ∃ h_1 : 0 < cs_2.length,
        Fin H.length V.length (Pu (dcV (decX l)) H V) (.tup [.agg (cs.take 3), cs_1[0], cs_2[0]]) H' V' := fun k L W hk => by
    refine (catchDecR _ _ _ _ _ k _ _ _ (by rw [at_len]; rfl) (by rw [at_len_add]; rfl) (by rw [at_len_add]; rfl) (by omega) (by omega) (by omega) rfl).mono ?_
    rintro _ _ ⟨M, rfl, rfl⟩
    simp -implicitDefEqProofs [go_sem, rcZ]
    rw [hk]
    exact Fin.pu (.tup (.cons rcZ_le (.cons (.refl _) (.cons (.refl _) .nil)))) (okV_dcV _ _ (.error k)) hokH (by simp) (by simp)
  refine CX.mono (begin_cx _ V (H.length + 3) l hb3 (by omega)) ?_ ?_
  case refine_2 =>
    rintro _ _ _ ⟨e, cs, L, W, hbeg, rfl, rfl, rfl⟩
    simp -implicitDefEqProofs [go_sem]
    exact stop e (some cs :: L) W (by rw [decX, hbeg])
  rintro _ _ _ ⟨s, l', n, hll, hbeg, rfl, rfl, rfl⟩
  simp -implicitDefEqProofs [go_sem]
  subst hll
  obtain ⟨hn, hnl, hg0, hle⟩ := begE_spec hbeg
  have hn1 : 1 ≤ n := by rw [hn, szN]; omega
  have hD : decX (s :: l') = (match recE (dataS ((s :: l').take n)) (gn s) with | .error e => .error e | .ok r => .ok (r, n)) := by rw [decX, hbeg]; rfl
  have hst : (dataS ((s :: l').take n)).length = 4 * n := by rw [dataS_len, List.length_take, Nat.min_eq_left hnl]
  have hls : 7 + lnS (dataS ((s :: l').take n)) ≤ (dataS ((s :: l').take n)).length := by rw [hst, lnS_data _ _ _ hn1, hn, szN]; omega
  generalize dataS ((s :: l').take n) = st at hD hst hls ⊢
  generalize decX (s :: l') = dx at hD stop ⊢
  have hb4 : ∀ c : List UInt8, (H ++ [some [iv 0, iv 0, .v (.slice none 0 0)], some [iv 0], some [iv 0], some (rdB c (ci (gn s)) (ci n))])[H.length + 3]? = some (some (rdB c (ci (gn s)) (ci n))) := fun c => by rw [hget]; rfl
  refine SWp.seq (SWp.ghost (T' := [(5, .ptr (H.length + 3) 0), (2, .ptr H.length 0), (3, .ptr (H.length + 1) 0), (4, .ptr (H.length + 2) 0)]) (Gst.forget (TLe.get (by simp [go_sem]))) ?_)
  refine SWp.drawnY (.f 0 false (.f 1 true (.f 2 false (.f 3 false (.f 4 false (.f 5 false (.s 6 false (.s 7 false (.s 8 false (.n)))) 6 false (.s 5 false (.s 7 false (.s 8 false (.n))))) 6 false (.s 4 false (.s 5 false (.s 7 false (.s 8 false (.n)))))) 6 false (.s 3 false (.s 4 false (.s 5 false (.s 7 false (.s 8 false (.n))))))) 6 false (.s 2 false (.s 3 false (.s 4 false (.s 5 false (.s 7 false (.s 8 false (.n)))))))) 2 false (.f 1 true (.f 3 false (.f 4 false (.f 5 false (.s 6 false (.s 7 false (.s 8 false (.n)))) 6 false (.s 5 false (.s 7 false (.s 8 false (.n))))) 6 false (.s 4 false (.s 5 false (.s 7 false (.s 8 false (.n)))))) 6 false (.s 3 false (.s 4 false (.s 5 false (.s 7 false (.s 8 false (.n))))))) 3 false (.f 1 true (.f 4 false (.f 5 false (.s 6 false (.s 7 false (.s 8 false (.n)))) 6 false (.s 5 false (.s 7 false (.s 8 false (.n))))) 6 false (.s 4 false (.s 5 false (.s 7 false (.s 8 false (.n)))))) 4 false (.f 1 true (.f 5 false (.s 6 false (.s 7 false (.s 8 false (.n)))) 6 false (.s 5 false (.s 7 false (.s 8 false (.n))))) 5 false (.s 1 true (.s 6 false (.s 7 false (.s 8 false (.n))))))))) 2 false (.f 0 false (.f 1 true (.f 3 false (.f 4 false (.f 5 false (.s 6 false (.s 7 false (.s 8 false (.n)))) 6 false (.s 5 false (.s 7 false (.s 8 false (.n))))) 6 false (.s 4 false (.s 5 false (.s 7 false (.s 8 false (.n)))))) 6 false (.s 3 false (.s 4 false (.s 5 false (.s 7 false (.s 8 false (.n))))))) 3 false (.f 1 true (.f 4 false (.f 5 false (.s 6 false (.s 7 false (.s 8 false (.n)))) 6 false (.s 5 false (.s 7 false (.s 8 false (.n))))) 6 false (.s 4 false (.s 5 false (.s 7 false (.s 8 false (.n)))))) 4 false (.f 1 true (.f 5 false (.s 6 false (.s 7 false (.s 8 false (.n)))) 6 false (.s 5 false (.s 7 false (.s 8 false (.n))))) 5 false (.s 1 true (.s 6 false (.s 7 false (.s 8 false (.n)))))))) 3 false (.f 0 false (.f 1 true (.f 4 false (.f 5 false (.s 6 false (.s 7 false (.s 8 false (.n)))) 6 false (.s 5 false (.s 7 false (.s 8 false (.n))))) 6 false (.s 4 false (.s 5 false (.s 7 false (.s 8 false (.n)))))) 4 false (.f 1 true (.f 5 false (.s 6 false (.s 7 false (.s 8 false (.n)))) 6 false (.s 5 false (.s 7 false (.s 8 false (.n))))) 5 false (.s 1 true (.s 6 false (.s 7 false (.s 8 false (.n))))))) 4 false (.f 0 false (.f 1 true (.f 5 false (.s 6 false (.s 7 false (.s 8 false (.n)))) 6 false (.s 5 false (.s 7 false (.s 8 false (.n))))) 5 false (.s 1 true (.s 6 false (.s 7 false (.s 8 false (.n)))))) 5 false (.s 0 false (.s 1 true (.s 6 false (.s 7 false (.s 8 false (.n)))))))))) (by kernel_rfl) (by kernel_rfl) ?_
  simp -implicitDefEqProofs [go_sem, rdB]
  repeat' (with_reducible refine And.intro ?_ ?_)
  all_goals
    refine stepY_x rfl rfl (by simp [go_sem]) ?_
    simp -implicitDefEqProofs [go_sem]
    refine CX.mono (record_cx _ V (H.length + 3) st (gn s) n (hb4 st) hls (by simp at hl; simp at hnl; omega)) ?_ ?_
    case refine_2 =>
      rintro _ _ _ ⟨e, cs, L, W, hrec, rfl, rfl, rfl⟩
      simp -implicitDefEqProofs [go_sem]
      exact stop e (some cs :: L) W (by rw [hD, hrec])
    rintro _ _ _ ⟨rec, rest, hrec, rfl, rfl, rfl⟩
    rw [hrec] at hD
    subst hD
    simp -implicitDefEqProofs [go_sem, rdB]
    repeat' (with_reducible refine And.intro ?_ ?_)
    all_goals
      refine Wp.s ?_
      simp -implicitDefEqProofs [go_sem]
      exact Fin.pu (.refl _) (okV_dcV _ _ (.ok (rec, n))) hokH (by simp) (by simp)
end Go.Proofs.YtmgoflhjblombaaGreatDoor
namespace Go.Proofs.YtmgoflhjblombaaGreatDoor
open Go.Proofs
def scanX : Nat → List Sec → Int → List Rcd × Nat
  | 0, _, _ => ([], 0)
  | f + 1, l, sq =>
    if sq < 1 then ([], 0) else
    match decX l with
    | .error _ => ([], 0)
    | .ok (r, n) => if r.sq ≠ sq then ([], 0) else (r :: (scanX f (l.drop n) (sq + 1)).1, n + (scanX f (l.drop n) (sq + 1)).2)
def scanA (l : List Sec) (sq : Int) : List Rcd × Nat := scanX (l.length + 1) l sq
theorem decX_n {l : List Sec} {r : Rcd} {n : Nat} (h : decX l = .ok (r, n)) : 2 ≤ n ∧ n ≤ l.length := by
  cases l with
  | nil => rw [decX, begE_0] at h; cases h
  | cons s l =>
    unfold decX at h
    split at h
    · cases h
    · rename_i m hm
      split at h
      · cases h
      · cases h
        obtain ⟨h1, h2, _⟩ := begE_spec hm
        exact ⟨by rw [h1, szN]; omega, h2⟩
@[go_sem] theorem okE_rcs' (i j : Nat) (l : List Rcd) : okE i j (l.map rcC) = True := okE_rcs i j l
theorem decX_err {l : List Sec} {e : Nat} (h : decX l = .error e) : e ≠ 0 := by
  have hb : ∀ {l : List Sec} {e : Nat}, begE l = .error e → e ≠ 0 := by
    intro l e h
    cases l with
    | nil => rw [begE_0] at h; cases h; decide
    | cons s l =>
      unfold begE at h
      dsimp only at h
      split at h
      · cases h; decide
      · split at h
        · cases h; decide
        · split at h
          · cases h; decide
          · split at h
            · cases h; decide
            · cases h
  unfold decX at h
  split at h
  · rename_i e' he; cases h; exact hb he
  · split at h
    · rename_i e' he
      cases h
      unfold recE at he
      split at he
      · cases he; decide
      · split at he
        · cases he; decide
        · cases he
    · cases h
def ScI (l : List Sec) (sq : Int) (out : List Rcd) (a : Nat) (f : Nat) : Prop := scanA l sq = (out ++ (scanX f (l.drop a) (sq + out.length)).1, a + (scanX f (l.drop a) (sq + out.length)).2) ∧ a ≤ l.length ∧ l.length - a < f ∧ out.length ≤ a
theorem ScI.stop {l : List Sec} {sq : Int} {out : List Rcd} {a f : Nat} (h : ScI l sq out a f) (hs : scanX f (l.drop a) (sq + out.length) = ([], 0)) : scanA l sq = (out, a) := by
  have := h.1
  rw [hs, List.append_nil] at this
  exact this
theorem ScI.less {l : List Sec} {sq : Int} {out : List Rcd} {a f : Nat} (h : ScI l sq out a f) (hs : sq + out.length < 1) : scanA l sq = (out, a) := h.stop (by
  cases f with
  | zero => rfl
  | succ f => rw [scanX, if_pos hs])
theorem ScI.err {l : List Sec} {sq : Int} {out : List Rcd} {a f : Nat} {e : Nat} (h : ScI l sq out a f) (he : decX (l.drop a) = .error e) : scanA l sq = (out, a) := h.stop (by
  cases f with
  | zero => rfl
  | succ f =>
    rw [scanX, he]
    split <;> rfl)
theorem ScI.other {l : List Sec} {sq : Int} {out : List Rcd} {a f : Nat} {r : Rcd} {n : Nat} (h : ScI l sq out a f) (he : decX (l.drop a) = .ok (r, n)) (hr : r.sq ≠ sq + out.length) : scanA l sq = (out, a) := h.stop (by
  cases f with
  | zero => rfl
  | succ f =>
    rw [scanX, he]
    dsimp only
    rw [if_pos hr]
    split <;> rfl)
theorem ScI.next {l : List Sec} {sq : Int} {out : List Rcd} {a f : Nat} {r : Rcd} {n : Nat} (h : ScI l sq out a f) (hs : ¬ sq + out.length < 1) (he : decX (l.drop a) = .ok (r, n)) (hr : r.sq = sq + out.length) : ∃ f', ScI l sq (out ++ [r]) (a + n) f' := by
  obtain ⟨h1, h2, h3, h4⟩ := h
  have hn := decX_n he
  rw [List.length_drop] at hn
  cases f with
  | zero => omega
  | succ f =>
    refine ⟨f, ?_, by omega, by omega, by rw [List.length_append, List.length_singleton]; omega⟩
    rw [h1, scanX, if_neg hs, he]
    dsimp only
    rw [if_neg (by simpa using hr), List.drop_drop, List.length_append, List.length_singleton]
    have e : sq + ((out.length + 1 : Nat) : Int) = sq + out.length + 1 := by omega
    rw [e, List.append_assoc]
    exact Prod.ext rfl (by show a + (n + _) = a + n + _; omega)
theorem Sh.trim0 {n : Nat} {T T' : Tm} {H0 H : Hp} {V0 V V' : List Nat} (h : TLe T T') (hT : TOk H0.length V'.length T') (hokH : ∀ (b : Nat) cs, H0[b]? = some (some cs) → okL H0.length V0.length cs) (hV0 : V0.length ≤ V'.length) (eH : H.take H0.length = H0) (eV : V.take V'.length = V') : Sh n H0.length V0.length T H V (T', H0, V') := by
  have := Sh.trim (n := n) (T := T) (H := H) (L := []) h (by simpa using hT) hokH trivial hV0 (by simpa using eH) eV
  simpa using this
def scV (x : List Rcd × Nat) : CV := .tup [.sl .sh 3 (x.1.map rcC), ci x.2]
set_option maxRecDepth 8000 in
theorem Scan_cc (H : Hp) (V : List Nat) (l : List Sec) (sq : Int) (hl : l.length ≤ 100000) (hsq : sq ≤ 10000000000) (hsq2 : -10000000000 ≤ sq) : CC Tryz.prog 33 [secsV l, iv sq] H V (Pu (scV (scanA l sq)) H V) := by
  refine CC.of_swp Tryz.func33 rfl (by kernel_rfl) (by rw [Tryz.ntmps33]; exact len_le _ _ rfl) fun hok hokH => ?_
  clear hok
  refine SWp.seq (Wp.s ?_)
  simp -implicitDefEqProofs [go_sem, args0]
  refine SWp.seq (Wp.s ?_)
  simp -implicitDefEqProofs [go_sem]
  refine SWp.seq (Wp.s ?_)
  simp -implicitDefEqProofs [go_sem]
  refine SWp.join (α := List Rcd × Nat × Nat) (fun x => ([(6, .sl (.own V.length x.2.2) 3 (x.1.map rcC)), (7, ci x.2.1)], H, V ++ [x.2.2])) (fun x => scanA l sq = (x.1, x.2.1)) ?_ ?_
  · refine SWp.block ?_
    refine SWp.loop (α := List Rcd × Nat × Nat) (fun x => ([(0, secsV l), (1, iv (sq + x.1.length)), (6, .sl (.own V.length x.2.2) 3 (x.1.map rcC)), (7, ci x.2.1)], H, V ++ [x.2.2])) (fun x => ∃ f, ScI l sq x.1 x.2.1 f) (fun x => l.length - x.2.1) ([], 0, 0) ⟨l.length + 1, by simp [scanA], Nat.zero_le _, by simp, by simp⟩ (Sh.tokT (by simp [go_sem]) rfl rfl) ?_
    rintro ⟨out, a, v⟩ ⟨f, hi⟩
    dsimp only at hi ⊢
    have hal := hi.2.1
    have hol := hi.2.2.2
    refine SWp.seq (SWp.seq (Wp.s ?_))
    by_cases h1 : 1 ≤ sq + out.length
    case neg =>
      simp -implicitDefEqProofs [go_sem, h1]
      refine Wp.s ?_
      simp -implicitDefEqProofs [go_sem]
      exact ⟨out, a, hi.less (by omega), v, Sh.forget (by simp [go_sem]) rfl rfl⟩
    simp -implicitDefEqProofs [go_sem, h1]
    refine Wp.s ?_
    simp -implicitDefEqProofs [go_sem]
    refine SWp.block (SWp.seq (Wp.s ?_))
    simp -implicitDefEqProofs [go_sem, hal]
    rw [show List.drop a (List.map secC l) = List.map secC (l.drop a) from (List.map_drop ..).symm]
    refine CC.mono (RDecode_cc _ _ (l.drop a) (by rw [List.length_drop]; omega)) ?_
    rintro _ _ _ ⟨rfl, rfl, rfl⟩
    cases hd : decX (l.drop a) with
    | error e =>
      have he := decX_err hd
      simp -implicitDefEqProofs [go_sem, dcV]
      refine SWp.seq (SWp.seq (Wp.s ?_))
      simp -implicitDefEqProofs [go_sem, he]
      refine Wp.s ?_
      simp -implicitDefEqProofs [go_sem]
      refine ⟨out, a, hi.err hd, v, Sh.trim0 (by simp [go_sem]) (by simp [go_sem]) hokH (by simp) (by simp) (by simp)⟩
    | ok x =>
      obtain ⟨r, n⟩ := x
      simp -implicitDefEqProofs [go_sem, dcV]
      refine SWp.seq (SWp.seq (Wp.s ?_))
      by_cases hr : r.sq = sq + out.length
      case neg =>
        simp -implicitDefEqProofs [go_sem, hr]
        refine Wp.s ?_
        simp -implicitDefEqProofs [go_sem]
        refine ⟨out, a, hi.other hd hr, v, Sh.trim0 (by simp [go_sem]) (by simp [go_sem]) hokH (by simp) (by simp) (by simp)⟩
      obtain ⟨f', hi'⟩ := hi.next (by omega) hd hr
      have hn2 := hi'.2.1
      have w1 : IntKind.i64.wrap (sq + (out.length : Int) + 1) = sq + (out.length : Int) + 1 := IntWalk.i64_in _ ⟨by omega, by omega⟩
      have w2 : IntKind.i64.wrap ((a : Int) + (n : Int)) = (a : Int) + (n : Int) := IntWalk.i64_in _ ⟨by omega, by omega⟩
      simp -implicitDefEqProofs [go_sem, hr]
      refine Wp.s ?_
      simp -implicitDefEqProofs [go_sem]
      refine Wp.s ?_
      simp -implicitDefEqProofs [go_sem, w1, w2]
      have hn0 := decX_n hd
      refine ⟨by omega, out ++ [r], a + n, ⟨f', hi'⟩, by omega, v + 1, Sh.trim0 ?_ (by simp [go_sem, -List.map_append]) hokH (by simp) (by simp) (by simp)⟩
      simp [go_sem, show sq + ((out.length : Int) + 1) = sq + (out.length : Int) + 1 by omega]
  rintro ⟨out, a, v⟩ hx
  dsimp only at hx ⊢
  refine Wp.s ?_
  simp -implicitDefEqProofs [go_sem]
  rw [hx]
  exact Fin.pu (.tup (.cons (.sh _ _ _) (.cons (.refl _) .nil))) (by rw [scV, okV, okL, okL, okL, okV_sh]; exact ⟨by simp [go_sem], by rw [okV]; trivial, trivial⟩) hokH (by simp) (by simp)
end Go.Proofs.YtmgoflhjblombaaGreatDoor
namespace Go.Proofs.YtmgoflhjblombaaGreatDoor
open Go.Proofs
theorem from_cc (H : Hp) (V : List Nat) (s c p n : Int) : CC Tryz.prog 32 [.agg [iv s, iv c], iv p, iv n] H V (fun r H' V' => r = .fn 61 [.ptr (H.length + 2) 0, .ptr (H.length + 1) 0, .ptr H.length 0] ∧ H' = H ++ [some [iv s, iv c], some [iv p], some [iv n]] ∧ V = V') := by
  refine CC.of_swp Tryz.func32 rfl (by kernel_rfl) (by rw [Tryz.ntmps32]; exact len_le _ _ rfl) fun hok hokH => ?_
  refine SWp.seq (Wp.s ?_)
  simp -implicitDefEqProofs [go_sem, args0]
  refine Wp.s ?_
  simp -implicitDefEqProofs [go_sem]
  refine Fin.cut (H.length + 3) V.length ⟨rfl, rfl, rfl⟩ (by omega) (Nat.le_refl _) (List.take_of_length_le (by simp)) (List.take_of_length_le (Nat.le_refl _)) (.refl _) (by simp [go_sem]) ?_
  intro b cs hb
  rw [List.getElem?_append] at hb
  split at hb
  · exact okL_mono (by omega) (Nat.le_refl _) (hokH b cs hb)
  · exact okH_get (i := H.length + 3) (j := V.length) (L := [some [iv s, iv c], some [iv p], some [iv n]]) (by simp [go_sem]) _ _ hb
theorem from1_cc (H : Hp) (V : List Nat) (L b1 b2 b3 : Nat) (s c p : Int) (n : Nat) (hv : validJ s c = true) (hp : 0 ≤ p) (hp2 : p ≤ 1000000) (hn : n ≤ 1000000) (I : Nat → Hp → List Nat → Prop) (h0 : I 0 H V)
    (hI : ∀ i H V, I i H V → H[b1]? = some (some [iv (n : Int)]) ∧ H[b2]? = some (some [iv p]) ∧ H[b3]? = some (some [iv s, iv c]))
    (hy : ∀ i, i < n → ∀ H V, I i H V → YC Tryz.prog L [iv ((p + i) % (c - 16))] H V (fun r H' V' => r = .v (.bool true) ∧ I (i + 1) H' V')) :
    CC Tryz.prog 61 [.yl L, .ptr b1 0, .ptr b2 0, .ptr b3 0] H V (fun _ H' V' => I n H' V') := by
  have hvi := (validJ_iff s c).1 hv
  refine CC.of_swp Tryz.func61 rfl (by kernel_rfl) (by rw [Tryz.ntmps61]; exact len_le _ _ rfl) fun hok hokH => ?_
  clear hok
  obtain ⟨g1, _, _⟩ := hI _ _ _ h0
  refine SWp.seq (Wp.s ?_)
  simp -implicitDefEqProofs [go_sem, args0, hbx_of g1]
  refine SWp.block ?_
  refine SWp.loop (α := Nat × Hp × List Nat) (fun x => ([(0, .yl L), (2, .ptr b2 0), (3, .ptr b3 0), (6, iv (n : Int)), (7, ci x.1)], x.2.1, x.2.2)) (fun x => x.1 ≤ n ∧ I x.1 x.2.1 x.2.2) (fun x => n - x.1) (0, H, V) ⟨by omega, h0⟩ (Sh.forget (by simp [go_sem]) rfl rfl) ?_
  rintro ⟨i, H1, V1⟩ ⟨hi, hi1⟩
  dsimp only at hi hi1 ⊢
  obtain ⟨g1, g2, g3⟩ := hI _ _ _ hi1
  refine SWp.seq (Wp.s ?_)
  simp -implicitDefEqProofs [go_sem]
  refine SWp.seq (Wp.s ?_)
  simp -implicitDefEqProofs [go_sem]
  refine ⟨fun h => ?_, fun h => ?_⟩
  case refine_2 =>
    obtain rfl : i = n := by omega
    exact Fin.self hi1
  refine SWp.seq (SWp.block (SWp.seq (Wp.s ?_)))
  simp -implicitDefEqProofs [go_sem]
  have w1 : IntKind.i64.wrap (p + (i : Int)) = p + (i : Int) := IntWalk.i64_in _ ⟨by omega, by omega⟩
  have t1 := Int.tmod_eq_emod_of_nonneg (b := c - 16) (show 0 ≤ p + (i : Int) by omega)
  have hz : ¬ c - 16 = 0 := by omega
  refine SWp.seq (SWp.drawnT [b2, b3] [7] (.s 0 .pl <| .s 1 .ld <| .s 2 .pl <| .s 3 .pl <| .s 4 .ld <| .s 5 .pl <| .s 6 .pl <| .s 7 .st <| .s 8 .pl <| .n) (by kernel_rfl) (by kernel_rfl) ?_)
  simp -implicitDefEqProofs [go_sem, hbx_of g2, hbx_of g3, w1]
  refine CC.mono (length_cc _ _ _ _ hv) ?_
  rintro _ _ _ ⟨rfl, rfl, rfl⟩
  simp -implicitDefEqProofs [go_sem, t1, hz]
  refine YC.mono (hy i h _ _ hi1) ?_
  rintro _ H2 V2 ⟨rfl, hi2⟩
  obtain ⟨k1, k2, k3⟩ := hI _ _ _ hi2
  simp -implicitDefEqProofs [go_sem]
  refine ⟨Kp.keep fun b hb => ?_, ?_⟩
  · rcases List.mem_cons.1 hb with rfl | hb
    · rw [g2, k2]
    · obtain rfl : b = b3 := by simpa using hb
      rw [g3, k3]
  refine Wp.s ?_
  simp -implicitDefEqProofs [go_sem]
  refine Wp.s ?_
  simp -implicitDefEqProofs [go_sem]
  refine ⟨i + 1, H2, V2, ⟨by omega, hi2⟩, by omega, Sh.forget ?_ rfl rfl⟩
  simp [go_sem, wrap_succ (show i ≤ 1000000000 by omega)]
def rgN (k : UInt8) : Int := 20 + (k.toNat : Int) % 40
theorem region_cc (H : Hp) (V : List Nat) (k : UInt8) : CC Tryz.prog 17 [.v (.int .u8 (k.toNat : Int))] H V (Pu (.agg [iv 3, iv (rgN k)]) H V) := by
  refine CC.of_swp Tryz.func17 rfl (by kernel_rfl) (by rw [Tryz.ntmps17]; exact len_le _ _ rfl) fun hok hokH => ?_
  clear hok
  have := k.toNat_lt
  refine SWp.seq (Wp.s ?_)
  simp -implicitDefEqProofs [go_sem, args0]
  have w2 : IntKind.i64.wrap ((k.toNat : Int) % 40) = (k.toNat : Int) % 40 := IntWalk.i64_in _ ⟨by omega, by omega⟩
  have w3 : IntKind.i64.wrap (20 + (k.toNat : Int) % 40) = 20 + (k.toNat : Int) % 40 := IntWalk.i64_in _ ⟨by omega, by omega⟩
  have t1 : ((k.toNat : Int)).tmod 40 = (k.toNat : Int) % 40 := Int.tmod_eq_emod_of_nonneg (by omega)
  have w4 : IntKind.u8.wrap ((k.toNat : Int) % 40) = (k.toNat : Int) % 40 := by rw [IntKind.wrap_u8]; omega
  refine SWp.seq (Wp.s ?_)
  simp -implicitDefEqProofs [go_sem, t1, w4, w2, w3]
  refine Wp.s ?_
  simp -implicitDefEqProofs [go_sem, t1, w4, w2, w3]
  exact Fin.pu (.refl _) (by rw [okV, okL, okL, okL]; exact ⟨by rw [okV]; trivial, by rw [okV]; trivial, trivial⟩) hokH (by simp) (by simp)
theorem rgN_valid (k : UInt8) : validJ 3 (rgN k) = true := by
  have := k.toNat_lt
  rw [validJ_iff, rgN]; omega
end Go.Proofs.YtmgoflhjblombaaGreatDoor
namespace Go.Proofs.YtmgoflhjblombaaGreatDoor
open Go.Proofs
def mkC (M : List Bool) : List CV := M.map fun b => CV.v (.bool b)
@[go_sem, simp] theorem mkC_len (M : List Bool) : (mkC M).length = M.length := List.length_map ..
@[go_sem] theorem mkC_get (M : List Bool) (i : Nat) (h : i < (mkC M).length) : (mkC M)[i] = CV.v (.bool (M[i]'(by simpa using h))) := by simp [mkC]
theorem mkC_set (M : List Bool) (i : Nat) (b : Bool) (h : i < M.length) : (mkC M).take i ++ CV.v (.bool b) :: (mkC M).drop (i + 1) = mkC (M.set i b) := by
  rw [List.set_eq_take_append_cons_drop, if_pos h]
  simp [mkC]
@[go_sem] theorem okL_mkC (i j : Nat) : ∀ M : List Bool, okL i j (mkC M) = True
  | [] => by rw [mkC, List.map_nil, okL]
  | b :: l => by rw [mkC, List.map_cons, okL, okV]; exact (true_and _).trans (okL_mkC i j l)
def markX (n tl nxt : Int) (ct : List Sec) : Nat → List Bool
  | 0 => List.replicate n.toNat false
  | i + 1 => (markX n tl nxt ct i).set ((tl + i) % n).toNat (decide (nxt ≤ (gn (ct.getD ((tl + i) % n).toNat sec0) : Int)))
theorem markX_len (n tl nxt : Int) (ct : List Sec) : ∀ i, (markX n tl nxt ct i).length = n.toNat
  | 0 => by rw [markX, List.length_replicate]
  | i + 1 => by rw [markX, List.length_set, markX_len n tl nxt ct i]
def runL : List Bool → Nat
  | true :: l => runL l + 1
  | _ => 0
def runsX (s : Int) : Nat → List Bool → Nat → List Opn
  | 0, _, _ => []
  | f + 1, M, p => if M.length ≤ p then [] else if runL (M.drop p) = 0 then runsX s f M (p + 1) else opW (s + 16 + p) (List.replicate (runL (M.drop p)) sec0) :: runsX s f M (p + runL (M.drop p) + 1)
def remX (j : Jrn) (ct : List Sec) : List Opn :=
  let M := markX (j.count - 16) j.tail (nextJ j) ct (freeJ j).toNat
  let r := runsX j.start (M.length + 1) M 0
  if r = [] then [] else r ++ [opS]
theorem runL_le : ∀ l : List Bool, runL l ≤ l.length
  | [] => Nat.le_refl _
  | true :: l => by rw [runL, List.length_cons]; have := runL_le l; omega
  | false :: l => Nat.zero_le _
theorem runL_lt : ∀ (l : List Bool) (k : Nat), k < runL l → l[k]? = some true
  | [], k, h => absurd h (Nat.not_lt_zero _)
  | true :: l, 0, _ => rfl
  | true :: l, k + 1, h => by rw [List.getElem?_cons_succ]; exact runL_lt l k (by rw [runL] at h; omega)
  | false :: l, k, h => absurd h (Nat.not_lt_zero _)
theorem runL_at : ∀ l : List Bool, l[runL l]? ≠ some true
  | [] => by simp
  | true :: l => by rw [runL, List.getElem?_cons_succ]; exact runL_at l
  | false :: l => by simp [runL]
def RmI (s : Int) (M : List Bool) (p : Nat) (ops : List Opn) : Prop := ∃ f, runsX s (M.length + 1) M 0 = ops ++ runsX s f M p ∧ M.length - p < f
theorem RmI.stop {s : Int} {M : List Bool} {p : Nat} {ops : List Opn} (h : RmI s M p ops) (hp : M.length ≤ p) : runsX s (M.length + 1) M 0 = ops := by
  obtain ⟨f, h1, h2⟩ := h
  cases f with
  | zero => omega
  | succ f => rw [h1, runsX, if_pos hp, List.append_nil]
theorem RmI.zero {s : Int} {M : List Bool} {p : Nat} {ops : List Opn} (h : RmI s M p ops) (hp : p < M.length) (hr : runL (M.drop p) = 0) : RmI s M (p + 1) ops := by
  obtain ⟨f, h1, h2⟩ := h
  cases f with
  | zero => omega
  | succ f => exact ⟨f, by rw [h1, runsX, if_neg (by omega), if_pos hr], by omega⟩
theorem RmI.run {s : Int} {M : List Bool} {p : Nat} {ops : List Opn} (h : RmI s M p ops) (hp : p < M.length) (hr : runL (M.drop p) ≠ 0) : RmI s M (p + runL (M.drop p) + 1) (ops ++ [opW (s + 16 + p) (List.replicate (runL (M.drop p)) sec0)]) := by
  obtain ⟨f, h1, h2⟩ := h
  cases f with
  | zero => omega
  | succ f => exact ⟨f, by rw [h1, runsX, if_neg (by omega), if_neg hr, List.append_assoc]; rfl, by omega⟩
theorem FyE.app {bx : Nat} {cs : List CV} {a b : List (List CV)} {c d : List (List CV)} : FyE bx cs a b → FyE bx cs c d → FyE bx cs (a ++ c) (b ++ d)
  | .nil, h => h
  | .cons h t, g => .cons h (FyE.app t g)
theorem Fk.run (b K : Nat) (tk : Tk) (ops : List Opn) (at' : Int) : Fk b (secsF (List.replicate K sec0)) (.sl tk 3 (ops.map opC ++ [[iv 0, iv at', .bsl b 0 K 8]])) (.sl tk 3 ((ops ++ [opW at' (List.replicate K sec0)]).map opC)) := by
  rw [List.map_append]
  exact .slk _ _ (FyE.app (FyE.rfl' _ _ _) (.cons (.cons (.refl _) (.cons (.refl _) (.cons (Fy.zeros _ _) .nil))) .nil))
abbrev HM (H : Hp) (j : Jrn) (u : Int) (ct : List Sec) (M : List Bool) (n : Nat) (x1 x2 x3 lp : Option (List CV)) : Hp := H ++ (some (stJ j u) :: some [secsV ct] :: some (mkC M) :: some [.bsl (H.length + 2) 0 n 1] :: x1 :: x2 :: x3 :: lp :: [])
set_option maxRecDepth 8000 in
theorem remove_cc (H : Hp) (V : List Nat) (j : Jrn) (ct : List Sec) (h : chkJ j = true) (hc : ct.length = (j.count - 16).toNat) : CC Tryz.prog 37 [.agg (stJ j (sumI j.sizes)), secsV ct] H V (Pu (opsV (remX j ct)) H V) := by
  refine CC.of_swp0 Tryz.func37 rfl (by kernel_rfl) (by rw [Tryz.ntmps37]; exact len_le _ _ rfl) fun hok hokH => ?_
  have hn := chkJ_next h
  have hsu := chkJ_sum h
  have hva := chkJ_val h
  have hv := (validJ_iff _ _).1 hva
  have ht := chkJ_tail h
  obtain ⟨n, hnn⟩ : ∃ n : Nat, j.count - 16 = (n : Int) := ⟨(j.count - 16).toNat, by omega⟩
  obtain ⟨f, hff⟩ : ∃ f : Nat, j.count - 16 - sumI j.sizes = (f : Int) := ⟨(j.count - 16 - sumI j.sizes).toNat, by omega⟩
  refine SWp0.seq (SWp.s0 (Wp.s ?_))
  simp -implicitDefEqProofs [go_sem, args0]
  refine SWp0.seq (SWp.s0 (Wp.s ?_))
  simp -implicitDefEqProofs [go_sem]
  refine CC.mono (length_cc _ _ _ _ hva) ?_
  rintro _ _ _ ⟨rfl, rfl, rfl⟩
  simp -implicitDefEqProofs [go_sem, hnn]
  refine ⟨by omega, ?_⟩
  refine SWp0.join (α := Unit) (fun _ => ([(2, .ptr H.length 0), (5, .ptr (H.length + 3) 0)], H ++ [some (stJ j (sumI j.sizes)), some [secsV ct], some (mkC (markX n j.tail (nextJ j) ct f)), some [.bsl (H.length + 2) 0 n 1]], V)) (fun _ => True) ?_ ?_
  · refine SWp0.seq (SWp.s0 (SWp.drawnT [] [] (.s 0 .pl <| .s 1 .pl <| .s 2 .pl <| .s 3 .pl <| .s 4 .pl <| .s 5 .pl <| .s 6 .pl <| .s 7 .pl <| .n) (by kernel_rfl) (by kernel_rfl) ?_))
    simp -implicitDefEqProofs [go_sem]
    refine CC.mono (free_cc _ _ _ _ hva hsu.1 (by omega)) ?_
    rintro _ _ _ ⟨rfl, rfl, rfl⟩
    simp -implicitDefEqProofs [go_sem, hff]
    refine CC.mono (from_cc _ _ _ _ _ _) ?_
    rintro _ _ _ ⟨rfl, rfl, rfl⟩
    simp -implicitDefEqProofs [go_sem]
    refine SWp0.block (SWp0.range [(2, .ptr H.length 0), (3, .ptr (H.length + 1) 0), (5, .ptr (H.length + 3) 0)] rfl (by simp [go_sem]) ?_)
    simp -implicitDefEqProofs [go_sem]
    generalize hbd : Code.block 1 _ = bd
    generalize has : Code.region 3 _ _ = asg
    refine CC.mono (from1_cc _ V _ _ _ _ j.start j.count j.tail f hva ht.1 (by omega) (by omega) (fun i G V' => V = V' ∧ G = HM H j (sumI j.sizes) ct (markX n j.tail (nextJ j) ct i) n (some [iv j.start, iv j.count]) (some [iv j.tail]) (some [iv f]) (some [lpc 79 #[22] asg bd [(2, .ptr H.length 0), (3, .ptr (H.length + 1) 0), (5, .ptr (H.length + 3) 0)] .ready none]))
      ⟨rfl, by simp [markX, mkC]⟩ ?_ ?_) ?_
    · rintro i _ V' ⟨rfl, rfl⟩
      exact ⟨hget _ _ 6, hget _ _ 5, hget _ _ 4⟩
    · rintro i hi _ V' ⟨rfl, rfl⟩
      refine YC.of_round (n := 79) (ps := #[22]) (bd := bd) (T := [(2, .ptr H.length 0), (3, .ptr (H.length + 1) 0), (5, .ptr (H.length + 3) 0)]) (hget _ _ 7) rfl (by decide) ?_
      subst hbd has
      rw [hnn]
      have hq1 := Int.emod_nonneg (j.tail + (i : Int)) (show (n : Int) ≠ 0 by omega)
      have hq2 := Int.emod_lt_of_pos (j.tail + (i : Int)) (show 0 < (n : Int) by omega)
      have hM := markX_len n j.tail (nextJ j) ct i
      have hmx : markX n j.tail (nextJ j) ct (i + 1) = (markX n j.tail (nextJ j) ct i).set ((j.tail + i) % (n : Int)).toNat (decide (nextJ j ≤ (gn (ct.getD ((j.tail + i) % (n : Int)).toNat sec0) : Int))) := rfl
      rw [hmx]
      generalize markX n j.tail (nextJ j) ct i = M at hM ⊢
      obtain ⟨q, hqq⟩ : ∃ q : Nat, (j.tail + (i : Int)) % (n : Int) = (q : Int) := ⟨((j.tail + (i : Int)) % (n : Int)).toNat, by omega⟩
      rw [hqq] at hq1 hq2 ⊢
      rw [Int.toNat_natCast]
      have hqc : q < ct.length := by omega
      have hqn : q < n := by omega
      have hgd : ct.getD q sec0 = ct[q] := by rw [List.getD_eq_getElem?_getD, List.getElem?_eq_getElem hqc]; rfl
      rw [hgd]
      refine Wp.s ?_
      simp -implicitDefEqProofs [go_sem, tps]
      refine SWp.block ?_
      generalize hlp : lpc 79 #[22] _ _ _ LoopState.busy none = lp
      generalize hqqq : RQ 79 #[22] _ _ _ _ _ = QQ
      refine SWp.drawnT [] [11] (.s 0 .pl <| .s 1 .pl <| .s 2 .pl <| .s 3 .pl <| .s 4 .pl <| .s 5 .pl <| .s 7 .pl <| .s 6 .pl <| .s 8 .pl <| .s 9 .pl <| .s 10 .pl <| .s 11 .st <| .n) (by kernel_rfl) (by kernel_rfl) ?_
      simp -implicitDefEqProofs [go_sem, hqc, hqn]
      refine CC.mono (jnumber_cc _ _ ct[q]) ?_
      rintro _ _ _ ⟨rfl, rfl, rfl⟩
      simp -implicitDefEqProofs [go_sem]
      refine CC.mono (next_cc _ _ j _ hn.1 hn.2) ?_
      rintro _ _ _ ⟨rfl, rfl, rfl⟩
      have hMn : M.length = n := by simpa using hM
      simp -implicitDefEqProofs [go_sem, hqn, hMn]
      rw [mkC_set _ _ _ (by omega), ← hqqq, ← hlp]
      exact ⟨by omega, hget _ _ 7, rfl, rfl, by simp⟩
    · rintro _ _ V' ⟨rfl, rfl⟩
      refine .inl ⟨hget _ _ 7, ?_⟩
      refine Sh.trim (L := [some (stJ j (sumI j.sizes)), some [secsV ct], some (mkC (markX n j.tail (nextJ j) ct f)), some [.bsl (H.length + 2) 0 n 1]]) (by simp [go_sem]) (by simp [go_sem]) hokH (by simp [go_sem]) (Nat.le_refl _) (by simp) (by simp)
  rintro _ -
  dsimp only
  have hM := markX_len n j.tail (nextJ j) ct f
  have hR : remX j ct = if runsX j.start ((markX n j.tail (nextJ j) ct f).length + 1) (markX n j.tail (nextJ j) ct f) 0 = [] then [] else runsX j.start ((markX n j.tail (nextJ j) ct f).length + 1) (markX n j.tail (nextJ j) ct f) 0 ++ [opS] := by
    rw [remX, freeJ, hff, hnn, Int.toNat_natCast]
  generalize markX n j.tail (nextJ j) ct f = M at hM hR ⊢
  have hMn : M.length = n := by simpa using hM
  obtain ⟨B, hB⟩ : ∃ B : Hp, B = [some (stJ j (sumI j.sizes)), some [secsV ct], some (mkC M), some [.bsl (H.length + 2) 0 n 1]] := ⟨_, rfl⟩
  have hBok : okH (H.length + B.length) V.length B := by rw [hB]; simp [go_sem]
  have hBok' : ∀ k, V.length ≤ k → okH (H.length + 4) k [some (stJ j (sumI j.sizes)), some [secsV ct], some (mkC M), some [.bsl (H.length + 2) 0 n 1]] := fun k _ => by simp [go_sem]
  refine SWp0.seq (SWp.s0 (Wp.s ?_))
  simp -implicitDefEqProofs [go_sem]
  refine SWp.s0 ?_
  refine SWp.join (α := List Opn × Nat) (fun x => ([(7, .sl (.own V.length x.2) 3 (x.1.map opC))], H, V ++ [x.2])) (fun x => runsX j.start (M.length + 1) M 0 = x.1 ∧ x.1.length ≤ 1000000) ?_ ?_
  · refine SWp.seq (Wp.s ?_)
    simp -implicitDefEqProofs [go_sem]
    refine SWp.block ?_
    refine SWp.loop (α := Nat × List Opn × Nat) (fun x => ([(2, .ptr H.length 0), (5, .ptr (H.length + 3) 0), (7, .sl (.own V.length x.2.2) 3 (x.2.1.map opC)), (8, ci x.1)], H ++ B, V ++ [x.2.2])) (fun x => RmI j.start M x.1 x.2.1 ∧ x.2.1.length ≤ x.1 ∧ x.1 ≤ n + 1) (fun x => n + 1 - x.1) (0, [], 0) ⟨⟨M.length + 1, rfl, by omega⟩, by simp, by omega⟩ (Sh.tokT (by simp [go_sem]) (by rw [hB]) rfl) ?_
    rintro ⟨p, ops, v⟩ ⟨hI, hol, hpn⟩
    dsimp only at hI hol hpn ⊢
    refine SWp.seq (SWp.seq (Wp.s ?_))
    subst hB
    by_cases hp : p < n
    case neg =>
      simp -implicitDefEqProofs [go_sem, hp]
      refine Wp.s ?_
      simp -implicitDefEqProofs [go_sem]
      refine ⟨ops, ⟨hI.stop (by omega), by omega⟩, v, Sh.trim0 (by simp [go_sem]) (by simp [go_sem]) hokH (by simp) (by simp) (by simp)⟩
    simp -implicitDefEqProofs [go_sem, hp]
    refine Wp.s ?_
    simp -implicitDefEqProofs [go_sem]
    refine SWp.seq (SWp.block (SWp.seq (Wp.s ?_)))
    simp -implicitDefEqProofs [go_sem]
    obtain ⟨K, hK⟩ : ∃ K, K = runL (M.drop p) := ⟨_, rfl⟩
    have hKl : p + K ≤ n := by have := runL_le (M.drop p); rw [List.length_drop, ← hK] at this; omega
    refine SWp.join (α := Unit) (fun _ => ([(2, .ptr H.length 0), (5, .ptr (H.length + 3) 0), (7, .sl (.own V.length v) 3 (ops.map opC)), (8, ci p), (9, ci K)], H ++ [some (stJ j (sumI j.sizes)), some [secsV ct], some (mkC M), some [.bsl (H.length + 2) 0 n 1]], V ++ [v])) (fun _ => True) ?_ ?_
    · refine SWp.block ?_
      refine SWp.loop (α := Nat) (fun k => ([(2, .ptr H.length 0), (5, .ptr (H.length + 3) 0), (7, .sl (.own V.length v) 3 (ops.map opC)), (8, ci p), (9, ci k)], H ++ [some (stJ j (sumI j.sizes)), some [secsV ct], some (mkC M), some [.bsl (H.length + 2) 0 n 1]], V ++ [v])) (fun k => k ≤ K) (fun k => K - k) 0 (Nat.zero_le _) (Sh.forget (by simp [go_sem]) rfl rfl) ?_
      intro k hk
      dsimp only
      have w1 : IntKind.i64.wrap ((p : Int) + (k : Int)) = (p : Int) + (k : Int) := IntWalk.i64_in _ ⟨by omega, by omega⟩
      refine SWp.seq (SWp.seq (Wp.s ?_))
      by_cases hpk : p + k < n
      case neg =>
        have hpk' : ¬ (p : Int) + (k : Int) < (n : Int) := by omega
        simp -implicitDefEqProofs [go_sem, w1, hpk']
        refine Wp.s ?_
        simp -implicitDefEqProofs [go_sem]
        obtain rfl : k = K := by omega
        exact Sh.forget (by simp [go_sem]) rfl rfl
      have hpk' : (p : Int) + (k : Int) < (n : Int) := by omega
      have hpm : p + k < M.length := by omega
      have hgt : M[p + k]? = (M.drop p)[k]? := by rw [List.getElem?_drop]
      have et : ((p : Int) + (k : Int)).toNat = p + k := by omega
      by_cases hkK : k < K
      · have hm : M[p + k] = true := by
          have := runL_lt (M.drop p) k (by omega)
          rw [← hgt, List.getElem?_eq_getElem hpm] at this
          exact Option.some.inj this
        simp -implicitDefEqProofs [go_sem, w1, hpk', hpk, hMn, et]
        refine ⟨by omega, ?_⟩
        rw [hm]
        refine Wp.s ?_
        simp -implicitDefEqProofs [go_sem]
        refine SWp.block (Wp.s ?_)
        simp -implicitDefEqProofs [go_sem]
        refine ⟨k + 1, by omega, by omega, Sh.forget ?_ rfl rfl⟩
        simp [go_sem, wrap_succ (show k ≤ 1000000000 by omega)]
      · obtain rfl : k = K := by omega
        have hm : M[p + k] = false := by
          have := runL_at (M.drop p)
          rw [← hK, ← hgt, List.getElem?_eq_getElem hpm] at this
          simpa using this
        simp -implicitDefEqProofs [go_sem, w1, hpk', hpk, hMn, et]
        refine ⟨by omega, ?_⟩
        rw [hm]
        refine Wp.s ?_
        simp -implicitDefEqProofs [go_sem]
        exact Sh.forget (by simp [go_sem]) rfl rfl
    rintro _ -
    dsimp only
    refine SWp.seq (Wp.s ?_)
    simp -implicitDefEqProofs [go_sem]
    by_cases hK0 : K = 0
    · simp -implicitDefEqProofs [go_sem, hK0]
      refine Wp.s ?_
      simp -implicitDefEqProofs [go_sem]
      refine Wp.s ?_
      simp -implicitDefEqProofs [go_sem]
      refine ⟨p + 1, ops, ⟨hI.zero (by omega) (by omega), by omega, by omega⟩, by omega, v, Sh.forget ?_ rfl rfl⟩
      simp [go_sem, wrap_succ (show p ≤ 1000000000 by omega)]
    have hK0' : 0 < K := by omega
    simp -implicitDefEqProofs [go_sem, hK0']
    refine SWp.condT (by simp [go_sem]) ?_
    have w1 : IntKind.i64.wrap ((p : Int) + (K : Int)) = (p : Int) + (K : Int) := IntWalk.i64_in _ ⟨by omega, by omega⟩
    refine SWp.seq (SWp.drawnT [] [] (.s 0 .pl <| .s 1 .pl <| .s 2 .pl <| .s 3 .pl <| .s 5 .pl <| .c 4 <| .s 6 .pl <| .s 7 .pl <| .s 8 .pl <| .s 9 .pl <| .s 10 .pl <| .n) (by kernel_rfl) (by kernel_rfl) ?_)
    simp -implicitDefEqProofs [go_sem]
    refine ⟨_, fun H V => sector_cc H V j.start j.count p hva (by omega) (by omega), ?_⟩
    simp -implicitDefEqProofs [go_sem, -List.reduceReplicate]
    refine ⟨by omega, by omega, ?_⟩
    have hz := zeros_secs K
    simp only [List.map_cons, List.map_nil] at hz
    rw [hz]
    have w2 : IntKind.i64.wrap ((p : Int) + (K : Int) + 1) = (p : Int) + (K : Int) + 1 := IntWalk.i64_in _ ⟨by omega, by omega⟩
    refine Wp.s ?_
    simp -implicitDefEqProofs [go_sem, w1]
    refine Wp.s ?_
    simp -implicitDefEqProofs [go_sem, w2]
    have hI' := hI.run (by omega) (show runL (M.drop p) ≠ 0 by omega)
    rw [← hK] at hI'
    refine ⟨p + K + 1, _, ⟨hI', by simp; omega, by omega⟩, by omega, v + 1, ?_⟩
    refine Gst.trans (T' := [(2, .ptr H.length 0), (5, .ptr (H.length + 3) 0), (7, .sl (.own V.length (v + 1)) 3 ((ops ++ [opW (j.start + 16 + p) (List.replicate K sec0)]).map opC)), (8, ci (p + K + 1 : Nat))]) (Gst.freezeK (b := H.length + 4) (cs := secsF (List.replicate K sec0)) (by rw [hget]; rfl) (TFk.get ⟨by simp [go_sem], by simp [go_sem], Fk.run _ _ _ _ _, by simp [go_sem], trivial⟩)) ?_
    exact Sh.trim (L := [some (stJ j (sumI j.sizes)), some [secsV ct], some (mkC M), some [.bsl (H.length + 2) 0 n 1]]) (by simp [go_sem]) (by simp [go_sem, -List.map_append]) hokH (hBok' _ (by simp)) (by simp) (by simp) (by simp)
  rintro ⟨ops, v⟩ ⟨hx, hl⟩
  dsimp only at hx hl ⊢
  rw [hx] at hR
  rw [hR]
  refine SWp.seq (SWp.seq (Wp.s ?_))
  by_cases ho : ops = []
  · subst ho
    simp -implicitDefEqProofs [go_sem]
    refine Wp.s ?_
    simp -implicitDefEqProofs [go_sem]
    refine Wp.s ?_
    simp -implicitDefEqProofs [go_sem]
    exact Fin.pu (.sh _ _ _) (by rw [okV_sh, okE_ops]; trivial) hokH (by simp) (by simp)
  have ho' : 0 < ops.length := List.length_pos_iff.2 ho
  have ho2 : ¬ (ops.length : Int) = 0 := by omega
  simp -implicitDefEqProofs [go_sem, ho']
  refine Wp.s ?_
  simp -implicitDefEqProofs [go_sem]
  refine ⟨by omega, Wp.s ?_⟩
  simp -implicitDefEqProofs [go_sem]
  rw [if_neg ho]
  exact Fin.pu (.sle _ _ (ops_le1 ops)) (by rw [okV_sh, okE_ops]; trivial) hokH (by simp) (by simp)
end Go.Proofs.YtmgoflhjblombaaGreatDoor
