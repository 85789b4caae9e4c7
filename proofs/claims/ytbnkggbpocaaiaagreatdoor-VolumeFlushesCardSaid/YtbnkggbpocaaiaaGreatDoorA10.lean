import Derived.Test.YtbnkggbpocaaiaaGreatDoorA9
import Derived.Test.YtbnkggbpocaaiaaGreatDoorA8
import Derived.Test.YtbnkggbpocaaiaaGreatDoorA6
set_option linter.unusedSimpArgs false
set_option linter.unusedVariables false
set_option linter.unusedSectionVars false
namespace Go.Proofs.YtbnkggbpocaaiaaGreatDoor
open Go.Proofs
set_option maxRecDepth 8000 in
set_option maxHeartbeats 1600000 in
theorem rRelease_cc (H : Hp) (V : List Nat) (d : Dk) (j : Jrn) (q : Int) (hd : DkS d) (hl : j.sizes.length ≤ 1000000000) : CC Tryz.prog 91 [.agg (dkC d), .agg (jrC j), ci q] H V (Pu (jtV (relJ d j q)) H V) := by
  refine CC.of_swp Tryz.func91 rfl (by kernel_rfl) (by rw [Tryz.ntmps91]; exact len_le _ _ rfl) fun hok hokH => ?_
  clear hok
  have bad : ∀ (e : Nat) {H' : Hp} {V' : List Nat}, relJ d j q = (zjr, [], e) → H'.take H.length = H → V'.take V.length = V → Fin H.length V.length (Pu (jtV (relJ d j q)) H V) (.tup [.agg zjC, .v (.slice none 0 0), er e]) H' V' := fun e H' V' h1 h2 h3 => by
    rw [h1]
    exact fin_jt zj_le (.nil 3 (by decide)) rfl hokH h2 h3
  refine SWp.seq (Wp.s ?_)
  simp -implicitDefEqProofs [go_sem, args0]
  refine SWp.seq (Wp.s ?_)
  simp -implicitDefEqProofs [go_sem]
  refine CC.mono (srCheck_cc _ _ d hd) ?_
  rintro _ _ _ ⟨rfl, rfl, rfl⟩
  simp -implicitDefEqProofs [go_sem]
  refine ⟨fun hc => bad _ (by rw [relJ, if_pos hc]) (by simp) (by simp), fun hc => ?_⟩
  refine SWp.seq (SWp.seq (Wp.s ?_))
  simp -implicitDefEqProofs [go_sem]
  refine CC.mono (refCheck_cc _ _ j hl) ?_
  rintro _ _ _ ⟨rfl, rfl, rfl⟩
  by_cases h : chkJ j = true
  case neg =>
    have hJ' : chkJ j = false := by simpa using h
    simp -implicitDefEqProofs [go_sem, ckE, hJ']
    refine Wp.s ?_
    simp -implicitDefEqProofs [go_sem]
    exact bad 3 (by rw [relJ, if_neg (by simp [hc]), if_pos (by simpa using h)]) (by simp) (by simp)
  have hn := chkJ_next h
  have hsu := chkJ_sum h
  have hva := chkJ_val h
  have hv := (validJ_iff _ _).1 hva
  have hfi := chkJ_first h
  have hall := ((chkJ_iff j).1 h).2.2.1
  simp -implicitDefEqProofs [go_sem, ckE, h]
  refine Wp.s ?_
  simp -implicitDefEqProofs [go_sem]
  have w1 : IntKind.i64.wrap (j.first - 1) = j.first - 1 := IntWalk.i64_in _ ⟨by omega, by omega⟩
  refine SWp.seq (SWp.seq (Wp.s ?_))
  by_cases c1 : q < j.first - 1
  · simp -implicitDefEqProofs [go_sem, w1, c1, jrC]
    refine Wp.s ?_
    simp -implicitDefEqProofs [go_sem]
    exact bad 2 (by rw [relJ, if_neg (by simp [hc]), if_neg (by simp [h]), if_pos (.inl c1)]) (by simp) (by simp)
  simp -implicitDefEqProofs [go_sem, w1, c1, jrC]
  refine CC.mono (show CC Tryz.prog 68 _ _ _ _ from refNext_cc _ _ j hl) ?_
  rintro _ _ _ ⟨rfl, rfl, rfl⟩
  rw [nxJ_ok h]
  have hnx : nextJ j = j.first + j.sizes.length := rfl
  by_cases c2 : nextJ j ≤ q
  · simp -implicitDefEqProofs [go_sem, c2]
    refine Wp.s ?_
    simp -implicitDefEqProofs [go_sem]
    exact bad 2 (by rw [relJ, if_neg (by simp [hc]), if_neg (by simp [h]), if_pos (.inr c2)]) (by simp) (by simp)
  simp -implicitDefEqProofs [go_sem, c2]
  refine Wp.s ?_
  simp -implicitDefEqProofs [go_sem]
  obtain ⟨n, hnn⟩ := Int.eq_ofNat_of_zero_le (show 0 ≤ q - j.first + 1 by omega)
  have hnl : n ≤ j.sizes.length := by omega
  have hrel : relJ d j q = if q = j.first - 1 then (j, [], 0) else
      if (storeS d j.start (superJ (hdU j n) (q + 1))).2 ≠ 0 then (zjr, [], (storeS d j.start (superJ (hdU j n) (q + 1))).2)
      else (⟨j.start, j.count, hdU j n, j.tail, q + 1, j.sizes.drop n⟩, (storeS d j.start (superJ (hdU j n) (q + 1))).1, 0) := by
    rw [relJ, if_neg (by simp [hc]), if_neg (by simp [h]), if_neg (by omega)]
    have : (q + 1 - j.first).toNat = n := by omega
    rw [this]; rfl
  refine SWp.seq (SWp.seq (Wp.s ?_))
  by_cases c3 : q = j.first - 1
  · simp -implicitDefEqProofs [go_sem, w1, c3]
    refine Wp.s ?_
    simp -implicitDefEqProofs [go_sem]
    have hrel3 : relJ d j (j.first - 1) = (j, [], 0) := by rw [← c3]; exact hrel.trans (if_pos c3)
    rw [hrel3]
    exact fin_jt (.refl _) (.nil 3 (by decide)) rfl hokH (by simp) (by simp)
  rw [if_neg c3] at hrel
  simp -implicitDefEqProofs [go_sem, w1, c3]
  refine Wp.s ?_
  simp -implicitDefEqProofs [go_sem]
  have w2 : IntKind.i64.wrap (q + 1) = q + 1 := IntWalk.i64_in _ ⟨by omega, by omega⟩
  have w3 : IntKind.i64.wrap (q + 1 - j.first) = (n : Int) := by rw [IntWalk.i64_in _ ⟨by omega, by omega⟩]; omega
  refine SWp.seq (Wp.s ?_)
  simp -implicitDefEqProofs [go_sem, w2, w3]
  have hjh : 0 ≤ j.head ∧ j.head < j.count - 16 := by
    have := (preJ_iff j).1 ((chkJ_iff j).1 h).2.1
    omega
  have htall : (j.sizes.take n).all okSz = true := List.all_eq_true.2 fun x hx => List.all_eq_true.1 hall x (List.mem_of_mem_take hx)
  have hts : 0 ≤ sumI (j.sizes.take n) ∧ sumI (j.sizes.take n) ≤ sumI j.sizes := by
    have e1 := sumI_ge _ htall
    have e2 := sumI_ge (j.sizes.drop n) (List.all_eq_true.2 fun x hx => List.all_eq_true.1 hall x (List.mem_of_mem_drop hx))
    have e3 := sumI_app (j.sizes.take n) (j.sizes.drop n)
    rw [List.take_append_drop] at e3
    omega
  have w4 : IntKind.i64.wrap (j.head + sumI (j.sizes.take n)) = j.head + sumI (j.sizes.take n) := IntWalk.i64_in _ ⟨by omega, by omega⟩
  have w5 : IntKind.i64.wrap (j.count - 16) = j.count - 16 := IntWalk.i64_in _ ⟨by omega, by omega⟩
  have t4 := Int.tmod_eq_emod_of_nonneg (b := j.count - 16) (show 0 ≤ j.head + sumI (j.sizes.take n) by omega)
  have hz : ¬ j.count - 16 = 0 := by omega
  have t5 : (j.head + sumI (j.sizes.take n)) % (j.count - 16) = hdU j n := rfl
  refine SWp.seq (SWp.drawnT [] [14] (.s 0 .pl <| .s 1 .pl <| .s 2 .pl <| .s 3 .pl <| .s 4 .pl <| .s 5 .pl <| .s 8 .pl <| .s 9 .pl <| .s 10 .pl <| .s 11 .pl <| .s 6 .pl <| .s 7 .pl <| .s 12 .pl <| .s 13 .pl <| .s 14 .st <| .n) (by kernel_rfl) (by kernel_rfl) ?_)
  simp -implicitDefEqProofs [go_sem, w5]
  refine ⟨by omega, ?_⟩
  rw [← List.map_take]
  refine CC.mono (sum_cc _ _ (j.sizes.take n) htall (by rw [List.length_take]; omega)) ?_
  rintro _ _ _ ⟨rfl, rfl, rfl⟩
  simp -implicitDefEqProofs [go_sem, w4, w5, t4, hz, t5]
  refine SWp.seq (Wp.s ?_)
  simp -implicitDefEqProofs [go_sem, w2]
  refine SWp.seq (Wp.s ?_)
  simp -implicitDefEqProofs [go_sem]
  refine ⟨hnl, by omega, ?_⟩
  rw [← List.map_drop]
  refine SWp.seq (SWp.drawnT [] [] (.s 0 .pl <| .s 1 .pl <| .s 2 .pl <| .s 3 .pl <| .s 4 .pl <| .s 5 .pl <| .s 6 .pl <| .s 7 .pl <| .s 8 .pl <| .s 9 .pl <| .s 10 .pl <| .s 11 .pl <| .n) (by kernel_rfl) (by kernel_rfl) ?_)
  simp -implicitDefEqProofs [go_sem]
  obtain ⟨j', hj'⟩ : ∃ j' : Jrn, j' = ⟨j.start, j.count, hdU j n, j.tail, q + 1, j.sizes.drop n⟩ := ⟨_, rfl⟩
  have hle : LeL [iv j.start, iv j.count, iv (hdU j n), iv j.tail, iv (q + 1), .sl (.own V.length 0) 1 ((j.sizes.map ic).drop n)] (jrC j') := by
    rw [hj', ← List.map_drop]
    exact .cons (.refl _) (.cons (.refl _) (.cons (.refl _) (.cons (.refl _) (.cons (.refl _) (.cons (.sh _ _ _) .nil)))))
  refine CC.le (ys := [.agg (jrC j')]) (.cons (.agg hle) .nil) ?_
  refine CC.mono (super_cc _ _ j') ?_
  rintro _ _ _ ⟨rfl, rfl, rfl⟩
  rw [show superJ j'.head j'.first = superJ (hdU j n) (q + 1) by rw [hj']]
  simp -implicitDefEqProofs [go_sem]
  refine CC.mono (srStore_cc _ _ d j.start .sh (superJ (hdU j n) (q + 1)) hd) ?_
  rintro _ _ _ ⟨rfl, rfl, rfl⟩
  simp -implicitDefEqProofs [go_sem, stV]
  generalize storeS d j.start (superJ (hdU j n) (q + 1)) = st at hrel ⊢
  obtain ⟨so, se⟩ := st
  dsimp only at hrel ⊢
  refine SWp.seq (SWp.seq (Wp.s ?_))
  by_cases c4 : se = 0
  case neg =>
    have c4' : ¬ (se : Int) = 0 := by omega
    simp -implicitDefEqProofs [go_sem, stV, c4, c4']
    refine Wp.s ?_
    simp -implicitDefEqProofs [go_sem]
    exact bad _ (by rw [hrel, if_pos c4]) (by simp) (by simp)
  subst c4
  rw [if_neg (by simp)] at hrel
  simp -implicitDefEqProofs [go_sem, stV]
  refine Wp.s ?_
  simp -implicitDefEqProofs [go_sem]
  refine Wp.s ?_
  simp -implicitDefEqProofs [go_sem]
  rw [hrel]
  refine fin_jt (.agg ?_) (.refl _) rfl hokH (by simp) (by simp)
  rw [← hj']
  exact hle
end Go.Proofs.YtbnkggbpocaaiaaGreatDoor
namespace Go.Proofs.YtbnkggbpocaaiaaGreatDoor
open Go.Proofs
theorem rPlace_cc (H : Hp) (V : List Nat) (s : Sto) (v : Nat) (k : Int) (h : SzOk s.sizes) (hv : v ≤ s.sizes.length) (h0 : 0 ≤ s.data) (h1 : s.data ≤ 100000) (hk0 : 0 ≤ k) (hk1 : k ≤ 100000) : CC Tryz.prog 92 [.agg (stoC s), ci v, ci k] H V (Pu (ci (s.data + sumI (s.sizes.take v) + k)) H V) := by
  refine CC.of_swp Tryz.func92 rfl (by kernel_rfl) (by rw [Tryz.ntmps92]; exact len_le _ _ rfl) fun hok hokH => ?_
  clear hok
  have hs := h.sum v
  have hl := h.1
  refine SWp.seq (Wp.s ?_)
  simp -implicitDefEqProofs [go_sem, args0]
  refine SWp.seq (SWp.drawnT [] [] (.s 0 .pl <| .s 1 .pl <| .s 2 .pl <| .s 3 .pl <| .s 4 .pl <| .s 5 .pl <| .s 8 .pl <| .s 6 .pl <| .s 7 .pl <| .s 9 .pl <| .s 10 .pl <| .n) (by kernel_rfl) (by kernel_rfl) ?_)
  simp -implicitDefEqProofs [go_sem, stoC]
  refine ⟨by omega, ?_⟩
  rw [← List.map_take]
  refine CC.mono (rsum_cc _ _ .sh (s.sizes.take v) (h.take v)) ?_
  rintro _ _ _ ⟨rfl, rfl, rfl⟩
  have w1 : IntKind.i64.wrap (s.data + sumI (s.sizes.take v)) = s.data + sumI (s.sizes.take v) := IntWalk.i64_in _ ⟨by omega, by omega⟩
  have w2 : IntKind.i64.wrap (s.data + sumI (s.sizes.take v) + k) = s.data + sumI (s.sizes.take v) + k := IntWalk.i64_in _ ⟨by omega, by omega⟩
  simp -implicitDefEqProofs [go_sem, w1, w2]
  refine Wp.s ?_
  simp -implicitDefEqProofs [go_sem]
  exact Fin.pu (.refl _) (by simp [go_sem]) hokH (by simp) (by simp)
/-! ### Reading of images -/
def readI (l : Img) (v : Int) (e : Ext2) : List Sec × Nat :=
  if sizesE (imgSz l) ≠ 0 then ([], sizesE (imgSz l)) else if v < 0 ∨ (l.length : Int) ≤ v then ([], 7)
  else
    let u := l.getD v.toNat []
    if e.start < 0 ∨ e.count < 0 ∨ (u.length : Int) < e.start ∨ (u.length : Int) - e.start < e.count then ([], 2)
    else ((u.drop e.start.toNat).take e.count.toNat, 0)
theorem iRead_cc (H : Hp) (V : List Nat) (l : Img) (v : Int) (e : Ext2) (hl : l.length ≤ 1000000000) : CC Tryz.prog 93 [.sl .sh 1 (l.map imE), ci v, .agg (extC e)] H V (Pu (.tup [secsV (readI l v e).1, er (readI l v e).2]) H V) := by
  refine CC.of_swp Tryz.func93 rfl (by kernel_rfl) (by rw [Tryz.ntmps93]; exact len_le _ _ rfl) fun hok hokH => ?_
  clear hok
  have bad : ∀ (x : Nat) (H' : Hp) (V' : List Nat), readI l v e = ([], x) → H'.take H.length = H → V'.take V.length = V → Fin H.length V.length (Pu (.tup [secsV (readI l v e).1, er (readI l v e).2]) H V) (.tup [.v (.slice none 0 0), er x]) H' V' := fun x H' V' h1 h2 h3 => by
    rw [h1]
    exact Fin.pu (.tup (.cons (.nil 8 (by decide)) (.cons (.refl _) .nil))) (by simp [go_sem, okE, okL, okV]) hokH h2 h3
  refine SWp.seq (Wp.s ?_)
  simp -implicitDefEqProofs [go_sem, args0]
  refine SWp.seq (Wp.s ?_)
  simp -implicitDefEqProofs [go_sem]
  refine CC.mono (iCheck_cc _ _ .sh l hl) ?_
  rintro _ _ _ ⟨rfl, rfl, rfl⟩
  simp -implicitDefEqProofs [go_sem]
  refine ⟨fun h0 => bad _ _ _ (by rw [readI, if_pos h0]) (by simp) (by simp), fun h0 => ?_⟩
  obtain ⟨hl8, hvs⟩ := sizes_pos h0
  have hr : readI l v e = if v < 0 ∨ (l.length : Int) ≤ v then ([], 7) else
      if e.start < 0 ∨ e.count < 0 ∨ ((l.getD v.toNat []).length : Int) < e.start ∨ ((l.getD v.toNat []).length : Int) - e.start < e.count then ([], 2) else (((l.getD v.toNat []).drop e.start.toNat).take e.count.toNat, 0) := by
    rw [readI, if_neg (by simp [h0])]
  refine SWp.seq (SWp.seq (Wp.s ?_))
  by_cases h1 : v < 0
  · simp -implicitDefEqProofs [go_sem, h1]
    refine Wp.s ?_
    simp -implicitDefEqProofs [go_sem]
    exact bad _ _ _ (by rw [hr, if_pos (.inl h1)]) (by simp) (by simp)
  by_cases h2 : (l.length : Int) ≤ v
  · simp -implicitDefEqProofs [go_sem, h1, h2]
    refine Wp.s ?_
    simp -implicitDefEqProofs [go_sem]
    exact bad _ _ _ (by rw [hr, if_pos (.inr h2)]) (by simp) (by simp)
  rw [if_neg (by omega)] at hr
  simp -implicitDefEqProofs [go_sem, h1, h2]
  refine Wp.s ?_
  simp -implicitDefEqProofs [go_sem]
  obtain ⟨n, rfl⟩ := Int.eq_ofNat_of_zero_le (Int.not_lt.1 h1)
  have hnl : n < l.length := by omega
  have hg : l.getD ((n : Int)).toNat [] = l[n] := by rw [Int.toNat_natCast, List.getD_eq_getElem?_getD, List.getElem?_eq_getElem hnl, Option.getD_some]
  rw [hg] at hr
  have hvl := (hvs _ (List.getElem_mem hnl)).2
  refine SWp.seq (Wp.s ?_)
  simp -implicitDefEqProofs [go_sem, hnl]
  refine SWp.seq (SWp.seq (Wp.s ?_))
  by_cases d1 : e.start < 0
  · simp -implicitDefEqProofs [go_sem, extC, d1]
    refine Wp.s ?_
    simp -implicitDefEqProofs [go_sem]
    exact bad _ _ _ (by rw [hr, if_pos (.inl d1)]) (by simp) (by simp)
  by_cases d2 : e.count < 0
  · simp -implicitDefEqProofs [go_sem, extC, d1, d2]
    refine Wp.s ?_
    simp -implicitDefEqProofs [go_sem]
    exact bad _ _ _ (by rw [hr, if_pos (.inr (.inl d2))]) (by simp) (by simp)
  by_cases d3 : (l[n].length : Int) < e.start
  · simp -implicitDefEqProofs [go_sem, extC, d1, d2, d3]
    refine Wp.s ?_
    simp -implicitDefEqProofs [go_sem]
    exact bad _ _ _ (by rw [hr, if_pos (.inr (.inr (.inl d3)))]) (by simp) (by simp)
  have w1 : IntKind.i64.wrap ((l[n].length : Int) - e.start) = (l[n].length : Int) - e.start := IntWalk.i64_in _ ⟨by omega, by omega⟩
  by_cases d4 : (l[n].length : Int) - e.start < e.count
  · simp -implicitDefEqProofs [go_sem, extC, d1, d2, d3, w1, d4]
    refine Wp.s ?_
    simp -implicitDefEqProofs [go_sem]
    exact bad _ _ _ (by rw [hr, if_pos (.inr (.inr (.inr d4)))]) (by simp) (by simp)
  rw [if_neg (by omega)] at hr
  simp -implicitDefEqProofs [go_sem, extC, d1, d2, d3, w1, d4]
  refine Wp.s ?_
  simp -implicitDefEqProofs [go_sem]
  obtain ⟨a, ha⟩ := Int.eq_ofNat_of_zero_le (Int.not_lt.1 d1)
  obtain ⟨c, hc⟩ := Int.eq_ofNat_of_zero_le (Int.not_lt.1 d2)
  rw [ha, hc] at hr
  rw [Int.toNat_natCast, Int.toNat_natCast] at hr
  have w2 : IntKind.i64.wrap ((a : Int) + (c : Int)) = ((a + c : Nat) : Int) := by rw [IntWalk.i64_in _ ⟨by omega, by omega⟩]; omega
  refine SWp.seq (Wp.s ?_)
  simp -implicitDefEqProofs [go_sem, ha, hc, w2]
  have w3 : ((a : Int) + (c : Int)).toNat = a + c := by omega
  have hsl : List.drop a (List.take (a + c) (List.map secC l[n])) = ((l[n].drop a).take c).map secC := by
    rw [← List.map_take, ← List.map_drop, List.drop_take, Nat.add_sub_cancel_left]
  obtain ⟨X, hX⟩ : ∃ X, X = (l[n].drop a).take c := ⟨_, rfl⟩
  have hXl : X.length ≤ 4096 := by rw [hX, List.length_take, List.length_drop]; omega
  rw [← hX] at hsl hr
  rw [w3, hsl]
  refine ⟨by omega, by omega, by omega, ?_⟩
  refine CC.mono (vcloneSec_cc _ _ .sh X (by omega)) ?_
  rintro _ _ _ ⟨rfl, rfl, rfl⟩
  simp -implicitDefEqProofs [go_sem]
  refine Wp.s ?_
  simp -implicitDefEqProofs [go_sem]
  rw [hr]
  exact Fin.pu (.refl _) (by simp [go_sem, okE_secs, okL, okV]) hokH (by simp) (by simp)
theorem rImRead_cc (H : Hp) (V : List Nat) (l : Img) (v : Int) (e : Ext2) (hl : l.length ≤ 1000000000) : CC Tryz.prog 94 [.sl .sh 1 (l.map imE), ci v, .agg (extC e)] H V (Pu (.tup [secsV (readI l v e).1, er (readI l v e).2]) H V) := by
  refine CC.of_swp Tryz.func94 rfl (by kernel_rfl) (by rw [Tryz.ntmps94]; exact len_le _ _ rfl) fun hok hokH => ?_
  clear hok
  have bad : ∀ (x : Nat) (H' : Hp) (V' : List Nat), readI l v e = ([], x) → H'.take H.length = H → V'.take V.length = V → Fin H.length V.length (Pu (.tup [secsV (readI l v e).1, er (readI l v e).2]) H V) (.tup [.v (.slice none 0 0), er x]) H' V' := fun x H' V' h1 h2 h3 => by
    rw [h1]
    exact Fin.pu (.tup (.cons (.nil 8 (by decide)) (.cons (.refl _) .nil))) (by simp [go_sem, okE, okL, okV]) hokH h2 h3
  refine SWp.seq (Wp.s ?_)
  simp -implicitDefEqProofs [go_sem, args0]
  refine SWp.seq (Wp.s ?_)
  simp -implicitDefEqProofs [go_sem]
  refine CC.mono (rImChk_cc _ _ .sh l hl) ?_
  rintro _ _ _ ⟨rfl, rfl, rfl⟩
  simp -implicitDefEqProofs [go_sem]
  refine ⟨fun h0 => bad _ _ _ (by rw [readI, if_pos h0]) (by simp) (by simp), fun h0 => ?_⟩
  obtain ⟨hl8, hvs⟩ := sizes_pos h0
  have hr : readI l v e = if v < 0 ∨ (l.length : Int) ≤ v then ([], 7) else
      if e.start < 0 ∨ e.count < 0 ∨ ((l.getD v.toNat []).length : Int) < e.start ∨ ((l.getD v.toNat []).length : Int) - e.start < e.count then ([], 2) else (((l.getD v.toNat []).drop e.start.toNat).take e.count.toNat, 0) := by
    rw [readI, if_neg (by simp [h0])]
  refine SWp.seq (SWp.seq (Wp.s ?_))
  by_cases h1 : v < 0
  · simp -implicitDefEqProofs [go_sem, h1]
    refine Wp.s ?_
    simp -implicitDefEqProofs [go_sem]
    exact bad _ _ _ (by rw [hr, if_pos (.inl h1)]) (by simp) (by simp)
  by_cases h2 : (l.length : Int) ≤ v
  · simp -implicitDefEqProofs [go_sem, h1, h2]
    refine Wp.s ?_
    simp -implicitDefEqProofs [go_sem]
    exact bad _ _ _ (by rw [hr, if_pos (.inr h2)]) (by simp) (by simp)
  rw [if_neg (by omega)] at hr
  simp -implicitDefEqProofs [go_sem, h1, h2]
  refine Wp.s ?_
  simp -implicitDefEqProofs [go_sem]
  obtain ⟨n, rfl⟩ := Int.eq_ofNat_of_zero_le (Int.not_lt.1 h1)
  have hnl : n < l.length := by omega
  have hg : l.getD ((n : Int)).toNat [] = l[n] := by rw [Int.toNat_natCast, List.getD_eq_getElem?_getD, List.getElem?_eq_getElem hnl, Option.getD_some]
  rw [hg] at hr
  have hvl := (hvs _ (List.getElem_mem hnl)).2
  refine SWp.seq (Wp.s ?_)
  simp -implicitDefEqProofs [go_sem, hnl]
  refine SWp.seq (SWp.seq (Wp.s ?_))
  by_cases d1 : e.start < 0
  · simp -implicitDefEqProofs [go_sem, extC, d1]
    refine Wp.s ?_
    simp -implicitDefEqProofs [go_sem]
    exact bad _ _ _ (by rw [hr, if_pos (.inl d1)]) (by simp) (by simp)
  by_cases d2 : e.count < 0
  · simp -implicitDefEqProofs [go_sem, extC, d1, d2]
    refine Wp.s ?_
    simp -implicitDefEqProofs [go_sem]
    exact bad _ _ _ (by rw [hr, if_pos (.inr (.inl d2))]) (by simp) (by simp)
  by_cases d3 : (l[n].length : Int) < e.start
  · simp -implicitDefEqProofs [go_sem, extC, d1, d2, d3]
    refine Wp.s ?_
    simp -implicitDefEqProofs [go_sem]
    exact bad _ _ _ (by rw [hr, if_pos (.inr (.inr (.inl d3)))]) (by simp) (by simp)
  have w1 : IntKind.i64.wrap ((l[n].length : Int) - e.start) = (l[n].length : Int) - e.start := IntWalk.i64_in _ ⟨by omega, by omega⟩
  by_cases d4 : (l[n].length : Int) - e.start < e.count
  · simp -implicitDefEqProofs [go_sem, extC, d1, d2, d3, w1, d4]
    refine Wp.s ?_
    simp -implicitDefEqProofs [go_sem]
    exact bad _ _ _ (by rw [hr, if_pos (.inr (.inr (.inr d4)))]) (by simp) (by simp)
  rw [if_neg (by omega)] at hr
  simp -implicitDefEqProofs [go_sem, extC, d1, d2, d3, w1, d4]
  refine Wp.s ?_
  simp -implicitDefEqProofs [go_sem]
  obtain ⟨a, ha⟩ := Int.eq_ofNat_of_zero_le (Int.not_lt.1 d1)
  obtain ⟨c, hc⟩ := Int.eq_ofNat_of_zero_le (Int.not_lt.1 d2)
  rw [ha, hc] at hr
  rw [Int.toNat_natCast, Int.toNat_natCast] at hr
  have w2 : IntKind.i64.wrap ((a : Int) + (c : Int)) = ((a + c : Nat) : Int) := by rw [IntWalk.i64_in _ ⟨by omega, by omega⟩]; omega
  refine SWp.seq (Wp.s ?_)
  simp -implicitDefEqProofs [go_sem]
  refine SWp.seq (SWp.drawnT [] [] (.s 0 .pl <| .s 1 .pl <| .s 2 .pl <| .s 3 .pl <| .s 4 .pl <| .s 5 .pl <| .s 6 .pl <| .s 7 .pl <| .s 8 .pl <| .s 9 .pl <| .s 10 .pl <| .s 11 .pl <| .s 12 .pl <| .s 13 .pl <| .s 14 .pl <| .s 15 .pl <| .n) (by kernel_rfl) (by kernel_rfl) ?_)
  simp -implicitDefEqProofs [go_sem, hnl, ha, hc, w2]
  have w3 : ((a : Int) + (c : Int)).toNat = a + c := by omega
  have hsl : List.drop a (List.take (a + c) (List.map secC l[n])) = ((l[n].drop a).take c).map secC := by
    rw [← List.map_take, ← List.map_drop, List.drop_take, Nat.add_sub_cancel_left]
  obtain ⟨X, hX⟩ : ∃ X, X = (l[n].drop a).take c := ⟨_, rfl⟩
  have hXl : X.length ≤ 4096 := by rw [hX, List.length_take, List.length_drop]; omega
  rw [← hX] at hsl hr
  rw [w3, hsl]
  refine ⟨by omega, by omega, by omega, by omega, ?_⟩
  refine Wp.s ?_
  simp -implicitDefEqProofs [go_sem]
  rw [hr]
  exact Fin.pu (.tup (.cons (.sh _ _ _) (.cons (.refl _) .nil))) (by simp [go_sem, okE_secs, okL, okV]) hokH (by simp) (by simp)
def rdvV (x : List Sec × Nat) : CV := .tup [secsV x.1, er x.2]
theorem readV_eq (s : Sto) (v : Int) (e : Ext2) : readV s v e = if chkV s ≠ 0 then ([], chkV s) else readI s.img v e := by
  unfold readV
  split
  · rfl
  · rename_i q
    have hok := chkV_ok (s := s) (by simpa using q)
    unfold readI
    rw [if_neg (c := sizesE (imgSz s.img) ≠ 0) (by rw [hok.im]; simp [hok.sz])]
theorem vRead_cc (H : Hp) (V : List Nat) (s : Sto) (v : Int) (e : Ext2) (hs : StS s) : CC Tryz.prog 32 [.agg (stoC s), ci v, .agg (extC e)] H V (Pu (.tup [secsV (readV s v e).1, er (readV s v e).2]) H V) := by
  refine CC.of_swp Tryz.func32 rfl (by kernel_rfl) (by rw [Tryz.ntmps32]; exact len_le _ _ rfl) fun hok hokH => ?_
  clear hok
  have hE := readV_eq s v e
  refine SWp.seq (Wp.s ?_)
  simp -implicitDefEqProofs [go_sem, args0]
  refine SWp.seq (Wp.s ?_)
  simp -implicitDefEqProofs [go_sem]
  refine CC.mono (vCheck_cc _ _ s hs) ?_
  rintro _ _ _ ⟨rfl, rfl, rfl⟩
  simp -implicitDefEqProofs [go_sem]
  refine ⟨fun h0 => ?_, fun h0 => ?_⟩
  · rw [hE, if_pos h0]
    exact Fin.pu (.tup (.cons (.nil 8 (by decide)) (.cons (.refl _) .nil))) (by simp [go_sem, okE, okL, okV]) hokH (by simp) (by simp)
  rw [if_neg (by simp [h0])] at hE
  rw [hE]
  refine SWp.seq (Wp.s ?_)
  simp -implicitDefEqProofs [go_sem, stoC]
  refine CC.mono (iRead_cc _ _ s.img v e (by have := hs.il; omega)) ?_
  rintro _ _ _ ⟨rfl, rfl, rfl⟩
  simp -implicitDefEqProofs [go_sem]
  refine Wp.s ?_
  simp -implicitDefEqProofs [go_sem]
  exact Fin.pu (.refl _) (by simp [go_sem, okE_secs, okL, okV]) hokH (by simp) (by simp)
theorem rvRead_cc (H : Hp) (V : List Nat) (s : Sto) (v : Int) (e : Ext2) (hs : StS s) : CC Tryz.prog 33 [.agg (stoC s), ci v, .agg (extC e)] H V (Pu (.tup [secsV (readV s v e).1, er (readV s v e).2]) H V) := by
  refine CC.of_swp Tryz.func33 rfl (by kernel_rfl) (by rw [Tryz.ntmps33]; exact len_le _ _ rfl) fun hok hokH => ?_
  clear hok
  have hE := readV_eq s v e
  refine SWp.seq (Wp.s ?_)
  simp -implicitDefEqProofs [go_sem, args0]
  refine SWp.seq (Wp.s ?_)
  simp -implicitDefEqProofs [go_sem]
  refine CC.mono (rvCheck_cc _ _ s hs) ?_
  rintro _ _ _ ⟨rfl, rfl, rfl⟩
  simp -implicitDefEqProofs [go_sem]
  refine ⟨fun h0 => ?_, fun h0 => ?_⟩
  · rw [hE, if_pos h0]
    exact Fin.pu (.tup (.cons (.nil 8 (by decide)) (.cons (.refl _) .nil))) (by simp [go_sem, okE, okL, okV]) hokH (by simp) (by simp)
  rw [if_neg (by simp [h0])] at hE
  rw [hE]
  refine SWp.seq (Wp.s ?_)
  simp -implicitDefEqProofs [go_sem, stoC]
  refine CC.mono (rImRead_cc _ _ s.img v e (by have := hs.il; omega)) ?_
  rintro _ _ _ ⟨rfl, rfl, rfl⟩
  simp -implicitDefEqProofs [go_sem]
  refine Wp.s ?_
  simp -implicitDefEqProofs [go_sem]
  exact Fin.pu (.refl _) (by simp [go_sem, okE_secs, okL, okV]) hokH (by simp) (by simp)
end Go.Proofs.YtbnkggbpocaaiaaGreatDoor
namespace Go.Proofs.YtbnkggbpocaaiaaGreatDoor
open Go.Proofs
set_option maxRecDepth 8000 in
set_option maxHeartbeats 1600000 in
theorem rvFlush_cc (H : Hp) (V : List Nat) (d : Dk) (s : Sto) (hd : DkS d) (hs : StS s) : CC Tryz.prog 31 [.agg (dkC d), .agg (stoC s)] H V (Pu (flV (flushV d s)) H V) := by
  refine CC.of_swp Tryz.func31 rfl (by kernel_rfl) (by rw [Tryz.ntmps31]; exact len_le _ _ rfl) fun hok hokH => ?_
  clear hok
  have bad : ∀ (e : Nat) (H' : Hp) (V' : List Nat), flushV d s = (zsto, [], e) → H'.take H.length = H → V'.take V.length = V → Fin H.length V.length (Pu (flV (flushV d s)) H V) (.tup [.agg zstC, .v (.slice none 0 0), er e]) H' V' := fun e H' V' h1 h2 h3 => by
    rw [h1]
    exact Fin.pu (.tup (.cons (.agg zsto_le) (.cons (.nil 3 (by decide)) (.cons (.refl _) .nil)))) (okV_flV _ _ _) hokH h2 h3
  refine SWp.seq (Wp.s ?_)
  simp -implicitDefEqProofs [go_sem, args0]
  refine SWp.seq (Wp.s ?_)
  simp -implicitDefEqProofs [go_sem]
  refine CC.mono (srCheck_cc _ _ d hd) ?_
  rintro _ _ _ ⟨rfl, rfl, rfl⟩
  simp -implicitDefEqProofs [go_sem]
  refine ⟨fun hc => bad _ _ _ (by rw [flushV, if_pos hc]) (by simp) (by simp), fun hc => ?_⟩
  refine SWp.seq (SWp.seq (Wp.s ?_))
  simp -implicitDefEqProofs [go_sem]
  refine CC.mono (rvCheck_cc _ _ s hs) ?_
  rintro _ _ _ ⟨rfl, rfl, rfl⟩
  simp -implicitDefEqProofs [go_sem]
  refine SWp.seq (Wp.s ?_)
  by_cases h0 : chkV s = 0
  case neg =>
    simp -implicitDefEqProofs [go_sem, h0]
    refine Wp.s ?_
    simp -implicitDefEqProofs [go_sem]
    exact bad _ _ _ (by rw [flushV, if_neg (by simp [hc]), if_pos h0]) (by simp) (by simp)
  have hok := chkV_ok h0
  have hz := SzOk.of hok.sz
  have hsm := hz.sum'
  have hl8 := (sizesE_0 hok.sz).2.1
  have hJ := hok.A.j
  have hva := chkJ_val hJ
  have hv := (validJ_iff _ _).1 hva
  have hA := hok.A.a
  have hB := hok.A.b
  have hd1 : s.data = s.jr.count := Classical.byContradiction fun e => hA (.inr (.inl e))
  have hb1 : s.applied = s.jr.first - 1 := Classical.byContradiction fun e => hB (.inl e)
  have hb2 : s.pend.length = s.jr.sizes.length := Classical.byContradiction fun e => hB (.inr e)
  have hn := chkJ_next hJ
  simp -implicitDefEqProofs [go_sem, h0]
  refine Wp.s ?_
  simp -implicitDefEqProofs [go_sem]
  have w1 : IntKind.i64.wrap (s.data + sumI s.sizes) = s.data + sumI s.sizes := IntWalk.i64_in _ ⟨by omega, by omega⟩
  refine SWp.seq (SWp.seq (SWp.drawnT [] [] (.s 0 .pl <| .s 1 .pl <| .s 2 .pl <| .s 3 .pl <| .s 4 .pl <| .s 5 .pl <| .s 6 .pl <| .s 7 .pl <| .s 8 .pl <| .s 9 .pl <| .n) (by kernel_rfl) (by kernel_rfl) ?_))
  simp -implicitDefEqProofs [go_sem, stoC]
  refine CC.mono (rsum_cc _ _ .sh s.sizes hz) ?_
  rintro _ _ _ ⟨rfl, rfl, rfl⟩
  have e1 : flushV d s = if (d.stable.length : Int) < s.data + sumI s.sizes then (zsto, [], 2)
      else if s.pend.length = 0 then (s, [], 0)
      else if (relJ d s.jr (nextJ s.jr - 1)).2.2 ≠ 0 then (zsto, [], (relJ d s.jr (nextJ s.jr - 1)).2.2)
      else (⟨s.sizes, (relJ d s.jr (nextJ s.jr - 1)).1, s.data, nextJ s.jr - 1, [], s.img⟩, s.pend.map (opOf s) ++ opS :: (relJ d s.jr (nextJ s.jr - 1)).2.1, 0) := by
    rw [flushV, if_neg (by simp [hc]), if_neg (by simp [h0])]
  by_cases h1 : (d.stable.length : Int) < s.data + sumI s.sizes
  · simp -implicitDefEqProofs [go_sem, w1, h1]
    refine Wp.s ?_
    simp -implicitDefEqProofs [go_sem]
    exact bad _ _ _ (by rw [e1, if_pos h1]) (by simp) (by simp)
  rw [if_neg h1] at e1
  simp -implicitDefEqProofs [go_sem, w1, h1]
  refine Wp.s ?_
  simp -implicitDefEqProofs [go_sem]
  refine SWp.seq (Wp.s ?_)
  simp -implicitDefEqProofs [go_sem, stoC]
  refine CC.mono (copied_cc _ _ s hs (by rw [hok.im]; exact hok.sz)) ?_
  rintro _ _ V1 ⟨k, v, rfl, rfl, hV1, hV2, hV3⟩
  have hkV : k < V1.length := (List.getElem?_eq_some_iff.1 hV2).1
  have hV1l : V.length ≤ V1.length := by omega
  have hpl := hs.pl
  simp -implicitDefEqProofs [go_sem, stoT]
  refine SWp.seq (SWp.seq (Wp.s ?_))
  by_cases h2 : s.pend.length = 0
  · simp -implicitDefEqProofs [go_sem, h2]
    refine Wp.s ?_
    simp -implicitDefEqProofs [go_sem]
    rw [e1, if_pos h2]
    refine Fin.pu (.tup (.cons (.agg ?_) (.cons (.nil 3 (by decide)) (.cons (.refl _) .nil)))) (okV_flV _ _ _) hokH (by simp) hV1
    exact .cons (.refl _) (.cons (.refl _) (.cons (.refl _) (.cons (.refl _) (.cons (.refl _) (.cons (.refl _) (.cons (.refl _) (.cons (.refl _) (.cons (.refl _) (.cons (.sh _ _ _) (.cons (.refl _) .nil))))))))))
  rw [if_neg h2] at e1
  have w2 : IntKind.i64.wrap (s.applied + (s.pend.length : Int)) = nextJ s.jr - 1 := by unfold nextJ; rw [IntWalk.i64_in _ ⟨by omega, by omega⟩]; omega
  simp -implicitDefEqProofs [go_sem, h2]
  refine Wp.s ?_
  simp -implicitDefEqProofs [go_sem]
  refine SWp.seq (Wp.s ?_)
  simp -implicitDefEqProofs [go_sem, w2]
  refine SWp.seq (Wp.s ?_)
  simp -implicitDefEqProofs [go_sem]
  refine CC.mono (rRelease_cc _ _ d s.jr (nextJ s.jr - 1) hd hs.jl) ?_
  rintro _ _ _ ⟨rfl, rfl, rfl⟩
  generalize hrl : relJ d s.jr (nextJ s.jr - 1) = x at e1 ⊢
  obtain ⟨j, A, e⟩ := x
  dsimp only at e1 ⊢
  have hAl : A.length ≤ 2 := by have := relJ_len d s.jr (nextJ s.jr - 1); rw [hrl] at this; exact this
  simp -implicitDefEqProofs [go_sem, jtV]
  refine SWp.seq (SWp.seq (Wp.s ?_))
  by_cases he : e = 0
  case neg =>
    have he' : ¬ (e : Int) = 0 := by omega
    simp -implicitDefEqProofs [go_sem, he, he']
    refine Wp.s ?_
    simp -implicitDefEqProofs [go_sem]
    exact bad _ _ _ (by rw [e1, if_pos he]) (by simp) (by simp [hV1])
  subst he
  rw [if_neg (by simp)] at e1
  simp -implicitDefEqProofs [go_sem]
  refine Wp.s ?_
  simp -implicitDefEqProofs [go_sem]
  refine SWp.seq (Wp.s ?_)
  simp -implicitDefEqProofs [go_sem]
  refine SWp.join (α := Unit) (fun _ => ([(3, .ptr (H.length + 1) 0), (4, .ptr (H.length + 2) 0), (9, .ptr (H.length + 3) 0), (10, ci (nextJ s.jr - 1)), (11, .ptr (H.length + 4) 0), (12, opsV A), (14, .sl (.own V1.length s.pend.length) 3 ((s.pend.map (opOf s)).map opC))], H ++ [some (dkC d), some (stoC s), some zstC, some (stoT s (.sl (.own k v) 3 (s.pend.map wrC))), some (jrC j)], V1 ++ [s.pend.length])) (fun _ => True) ?_ ?_
  · refine SWp.seq (Wp.s ?_)
    simp -implicitDefEqProofs [go_sem]
    refine SWp.block ?_
    refine SWp.loop (α := Nat) (fun i => ([(3, .ptr (H.length + 1) 0), (4, .ptr (H.length + 2) 0), (9, .ptr (H.length + 3) 0), (10, ci (nextJ s.jr - 1)), (11, .ptr (H.length + 4) 0), (12, opsV A), (14, .sl (.own V1.length i) 3 (opU s i)), (15, ci i)], H ++ [some (dkC d), some (stoC s), some zstC, some (stoT s (.sl (.own k v) 3 (s.pend.map wrC))), some (jrC j)], V1 ++ [i])) (fun i => i ≤ s.pend.length) (fun i => s.pend.length - i) 0 (Nat.zero_le _) (Sh.tokT (by simp [go_sem]) rfl rfl) ?_
    intro i hi
    dsimp only
    refine SWp.seq (SWp.seq (Wp.s ?_))
    simp -implicitDefEqProofs [go_sem, stoT]
    refine Wp.s ?_
    simp -implicitDefEqProofs [go_sem]
    refine ⟨fun h => ?_, fun h => ?_⟩
    case refine_2 =>
      obtain rfl : i = s.pend.length := by omega
      exact Sh.forget (by simp [go_sem, opU]) rfl rfl
    have hf := apR_fits hok.e1 (List.getElem_mem h)
    rw [imgSz_of hok.sz] at hf
    obtain ⟨n, f1, f2, f3, f4, f5⟩ := fitsS_in hok.sz hf
    have hsu := hz.sum n
    have w5 : IntKind.i64.wrap ((i : Int) + 1) = (i : Int) + 1 := IntWalk.i64_in _ ⟨by omega, by omega⟩
    refine SWp.seq (SWp.block (SWp.seq (Wp.s ?_)))
    simp -implicitDefEqProofs [go_sem, h]
    refine SWp.drawnT [] [] (.s 0 .pl <| .s 1 .pl <| .s 2 .pl <| .s 3 .pl <| .s 4 .pl <| .s 5 .pl <| .s 7 .pl <| .s 8 .pl <| .s 6 .pl <| .s 9 .pl <| .s 10 .pl <| .s 11 .pl <| .s 12 .pl <| .n) (by kernel_rfl) (by kernel_rfl) ?_
    simp -implicitDefEqProofs [go_sem, f1]
    refine CC.mono (rPlace_cc _ _ s n s.pend[i].start hz (by omega) (by omega) (by omega) f3 (by omega)) ?_
    rintro _ _ _ ⟨rfl, rfl, rfl⟩
    simp -implicitDefEqProofs [go_sem, opU_len s i hi]
    refine ⟨by omega, ?_⟩
    refine Wp.s ?_
    simp -implicitDefEqProofs [go_sem, w5]
    have hop : opC (opOf s s.pend[i]) = [ci 0, ci (s.data + sumI (s.sizes.take n) + s.pend[i].start), secsV s.pend[i].data] := by rw [opOf, f1]; rfl
    have hkk : k < V1.length + 1 := by omega
    refine ⟨i + 1, by omega, by omega, Sh.trim (L := [some (dkC d), some (stoC s), some zstC, some (stoT s (.sl (.own k v) 3 (s.pend.map wrC))), some (jrC j)]) ?_ ?_ hokH ?_ (by simp; omega) (by simp [stoT]) (by simp)⟩
    · simp [go_sem, opU_s h, hop]
    · simp [go_sem, okE_wrs, okE_ops, okE_opU, hkk]
    · simp [go_sem, stoT, zstC, okL, okV, okTk, okE_ints, okE_wrs, okE_ims, okL_stoC, okL_jrC, hkk]
  rintro _ -
  dsimp only
  refine SWp.seq (Wp.s ?_)
  simp -implicitDefEqProofs [go_sem]
  refine ⟨by omega, ?_⟩
  refine SWp.seq (Wp.s ?_)
  simp -implicitDefEqProofs [go_sem, stoT]
  refine SWp.seq (SWp.drawnT [] [4] (.s 0 .pl <| .s 1 .pl <| .s 2 .pl <| .s 3 .pl <| .s 4 .st <| .s 5 .pl <| .s 6 .pl <| .n) (by kernel_rfl) (by kernel_rfl) ?_)
  simp -implicitDefEqProofs [go_sem]
  refine ⟨by omega, rfl, ?_⟩
  refine Wp.s ?_
  simp -implicitDefEqProofs [go_sem]
  rw [e1]
  refine Fin.pu (.tup (.cons (.agg ?_) (.cons (.sle _ _ ?_) (.cons (.refl _) .nil)))) (okV_flV _ _ _) hokH (by simp) (by simp [List.take_append_of_le_length hV1l, hV1])
  · show LeL [.sl .sh 1 (s.sizes.map ic), .v (.int .i64 j.start), .v (.int .i64 j.count), .v (.int .i64 j.head), .v (.int .i64 j.tail), .v (.int .i64 j.first), .sl .sh 1 (j.sizes.map ic), .v (.int .i64 s.data), .v (.int .i64 (nextJ s.jr - 1)), .v (.slice none 0 0), .sl .sh 1 (s.img.map imE)] _
    exact .cons (.refl _) (.cons (.refl _) (.cons (.refl _) (.cons (.refl _) (.cons (.refl _) (.cons (.refl _) (.cons (.refl _) (.cons (.refl _) (.cons (.refl _) (.cons (.nil 3 (by decide)) (.cons (.refl _) .nil))))))))))
  · rw [List.map_append, List.map_map, List.map_cons]
    exact LeE.app' (LeE.refl' _) (.cons (.cons (.refl _) (.cons (.refl _) (.cons (.nil 8 (by decide)) .nil))) (LeE.refl' _))
end Go.Proofs.YtbnkggbpocaaiaaGreatDoor
namespace Go.Proofs.YtbnkggbpocaaiaaGreatDoor
open Go.Proofs
def few9 (d : Dk) : Bool := decide (d.stable.length ≤ 400) && decide (d.cache.length ≤ 400)
theorem few9_cc (H : Hp) (V : List Nat) (d : Dk) : CC Tryz.prog 30 [.agg (dkC d)] H V (Pu (cb (few9 d)) H V) := by
  refine CC.of_swp Tryz.func30 rfl (by kernel_rfl) (by rw [Tryz.ntmps30]; exact len_le _ _ rfl) fun hok hokH => ?_
  clear hok
  refine SWp.seq (Wp.s ?_)
  simp -implicitDefEqProofs [go_sem, args0]
  refine SWp.seq (Wp.s ?_)
  by_cases h1 : d.stable.length ≤ 400
  case neg =>
    have h1' : ¬ (d.stable.length : Int) ≤ 400 := by omega
    simp -implicitDefEqProofs [go_sem, h1, h1']
    refine Wp.s ?_
    simp -implicitDefEqProofs [go_sem]
    exact Fin.bool (by rw [few9, decide_eq_false h1]; rfl) hokH (by simp) (by simp)
  have h1' : (d.stable.length : Int) ≤ 400 := by omega
  by_cases h2 : d.cache.length ≤ 400
  case neg =>
    have h2' : ¬ (d.cache.length : Int) ≤ 400 := by omega
    simp -implicitDefEqProofs [go_sem, h1, h1', h2, h2']
    refine Wp.s ?_
    simp -implicitDefEqProofs [go_sem]
    exact Fin.bool (by rw [few9, decide_eq_true h1, decide_eq_false h2]; rfl) hokH (by simp) (by simp)
  have h2' : (d.cache.length : Int) ≤ 400 := by omega
  simp -implicitDefEqProofs [go_sem, h1, h1', h2, h2']
  refine Wp.s ?_
  simp -implicitDefEqProofs [go_sem]
  exact Fin.bool (by rw [few9, decide_eq_true h1, decide_eq_true h2]; rfl) hokH (by simp) (by simp)
theorem few9_S {d : Dk} (h : few9 d = true) : d.stable.length ≤ 400 ∧ d.cache.length ≤ 400 := by
  simpa [few9] using h
theorem storeS_dl (d : Dk) (a : Int) (p : List UInt8) : ∀ o ∈ (storeS d a p).1, o.data.length ≤ 900000000 := by
  unfold storeS
  repeat' split
  all_goals intro o ho
  all_goals simp only [List.not_mem_nil, List.mem_cons, or_false] at ho
  rcases ho with rfl | rfl
  · show (copyS _ _).length ≤ _; rw [copyS_len]; decide
  · exact Nat.zero_le _
theorem relJ_dl (d : Dk) (j : Jrn) (q : Int) : ∀ o ∈ (relJ d j q).2.1, o.data.length ≤ 900000000 := by
  have := storeS_dl d j.start (superJ ((j.head + sumI (j.sizes.take (q + 1 - j.first).toNat)) % (j.count - 16)) (q + 1))
  unfold relJ
  dsimp only
  repeat' split
  all_goals first | exact this | (intro o ho; cases ho)
theorem relJ_S (d : Dk) (j : Jrn) (q : Int) (h : j.sizes.length ≤ 1000000000) : (relJ d j q).1.sizes.length ≤ 1000000000 := by
  unfold relJ
  dsimp only
  repeat' split
  all_goals first | exact Nat.zero_le _ | exact h | (show (j.sizes.drop _).length ≤ _; rw [List.length_drop]; omega)
theorem flushV_S {d : Dk} {s : Sto} (hs : StS s) : StS (flushV d s).1 := by
  have hr := relJ_S d s.jr (nextJ s.jr - 1) hs.jl
  unfold flushV
  repeat' split
  all_goals first | exact zsto_S | exact hs | exact ⟨hs.sl, hr, Nat.zero_le _, fun w hw => (by cases hw), hs.il, hs.iv⟩
theorem flushV_O (d : Dk) (s : Sto) (hs : StS s) : (flushV d s).2.1.length ≤ 900000000 ∧ ∀ o ∈ (flushV d s).2.1, o.data.length ≤ 900000000 := by
  have h1 := relJ_len d s.jr (nextJ s.jr - 1)
  have h2 := relJ_dl d s.jr (nextJ s.jr - 1)
  have h3 := hs.pl
  unfold flushV
  repeat' split
  all_goals first | exact ⟨Nat.zero_le _, fun o ho => by cases ho⟩ | skip
  refine ⟨by simp; omega, fun o ho => ?_⟩
  simp only [List.mem_append, List.mem_map, List.mem_cons] at ho
  rcases ho with ⟨w, hw, rfl⟩ | rfl | ho
  · have := hs.pd w hw
    show w.data.length ≤ _; omega
  · exact Nat.zero_le _
  · exact h2 o ho
theorem readI_l (l : Img) (v : Int) (e : Ext2) : (readI l v e).1.length ≤ 1000000000 := by
  unfold readI
  split
  · exact Nat.zero_le _
  rename_i q
  split
  · exact Nat.zero_le _
  dsimp only
  split
  · exact Nat.zero_le _
  obtain ⟨-, hv⟩ := sizes_pos (l := l) (by simpa using q)
  have : (l.getD v.toNat []).length ≤ 4096 := by
    rw [List.getD_eq_getElem?_getD]
    cases hx : l[v.toNat]? with
    | none => exact Nat.zero_le _
    | some u => exact (hv u (List.mem_of_getElem? hx)).2
  rw [List.length_take, List.length_drop]; omega
theorem readV_l (s : Sto) (v : Int) (e : Ext2) : (readV s v e).1.length ≤ 1000000000 := by
  rw [readV_eq]
  split
  · exact Nat.zero_le _
  · exact readI_l _ _ _
set_option maxRecDepth 8000 in
theorem VFlushes_law (H : Hp) (V : List Nat) (d : Dk) (s : Sto) (e : Ext2) (hp : s.pend.length ≤ 9223372036854775807) : CC Tryz.prog 6 [.agg (dkC d), .agg (stoC s), .agg (extC e)] H V (Pu (cb true) H V) := by
  refine CC.of_swp Tryz.func6 rfl (by kernel_rfl) (by rw [Tryz.ntmps6]; exact len_le _ _ rfl) fun hok hokH => ?_
  clear hok
  have aw : ∀ (H0 : Hp) (V0 : List Nat), CC Tryz.prog 11 [] H0 V0 (Pu (cb true) H0 V0) := fun H0 V0 => vawake_cc H0 V0
  refine SWp.seq (Wp.s ?_)
  simp -implicitDefEqProofs [go_sem, args0]
  refine SWp.seq (Wp.s ?_)
  simp -implicitDefEqProofs [go_sem]
  refine CC.mono (fewV_cc _ _ s hp) ?_
  rintro _ _ _ ⟨rfl, rfl, rfl⟩
  cases hf : fewV s with
  | false =>
    simp -implicitDefEqProofs [go_sem]
    refine CC.mono (aw _ _) ?_
    rintro _ _ _ ⟨rfl, rfl, rfl⟩
    simp -implicitDefEqProofs [go_sem]
    exact Fin.bool rfl hokH (by simp) (by simp)
  | true =>
    simp -implicitDefEqProofs [go_sem]
    refine CC.mono (few9_cc _ _ d) ?_
    rintro _ _ _ ⟨rfl, rfl, rfl⟩
    cases hf9 : few9 d with
    | false =>
      simp -implicitDefEqProofs [go_sem]
      refine CC.mono (aw _ _) ?_
      rintro _ _ _ ⟨rfl, rfl, rfl⟩
      simp -implicitDefEqProofs [go_sem]
      exact Fin.bool rfl hokH (by simp) (by simp)
    | true =>
      obtain ⟨g1, g2⟩ := few9_S hf9
      have hs := fewV_S hf
      have hd : DkS d := ⟨by omega, by omega⟩
      have hFS := flushV_S (d := d) hs
      have hFO := flushV_O d s hs
      have hsl : s.sizes.length ≤ 20 := by
        simp only [fewV, Bool.and_eq_true, decide_eq_true_eq] at hf
        omega
      simp -implicitDefEqProofs [go_sem]
      refine SWp.seq (Wp.s ?_)
      simp -implicitDefEqProofs [go_sem]
      refine CC.mono (vFlush_cc _ _ d s hd hs) ?_
      rintro _ _ _ ⟨rfl, rfl, rfl⟩
      simp -implicitDefEqProofs [go_sem, flV]
      refine SWp.seq (Wp.s ?_)
      simp -implicitDefEqProofs [go_sem]
      refine CC.mono (rvFlush_cc _ _ d s hd hs) ?_
      rintro _ _ _ ⟨rfl, rfl, rfl⟩
      simp -implicitDefEqProofs [go_sem, flV]
      generalize flushV d s = x at hFS hFO ⊢
      obtain ⟨s', A, e'⟩ := x
      dsimp only at hFS hFO ⊢
      refine SWp.seq (SWp.seq (Wp.s ?_))
      simp -implicitDefEqProofs [go_sem]
      refine CC.mono (vSame_cc _ _ s' hFS) ?_
      rintro _ _ _ ⟨rfl, rfl, rfl⟩
      simp -implicitDefEqProofs [go_sem]
      refine CC.mono (sSameOps_cc _ _ .sh .sh A (by omega) (fun o ho => hFO.2 o ho)) ?_
      rintro _ _ _ ⟨rfl, rfl, rfl⟩
      simp -implicitDefEqProofs [go_sem]
      refine Wp.s ?_
      simp -implicitDefEqProofs [go_sem]
      refine SWp.join (α := Unit) (fun _ => ([], H, V)) (fun _ => True) ?_ ?_
      · refine SWp.seq (Wp.s ?_)
        simp -implicitDefEqProofs [go_sem]
        refine SWp.block ?_
        refine SWp.loop (α := Nat) (fun i => ([(4, .ptr (H.length + 1) 0), (5, .ptr (H.length + 2) 0), (13, ci ((i : Int) - 1))], H ++ [some (dkC d), some (stoC s), some (extC e), some (stoC s'), some (stoC s')], V)) (fun i => i ≤ s.sizes.length + 2) (fun i => s.sizes.length + 2 - i) 0 (Nat.zero_le _) (Sh.forget (by simp [go_sem]) rfl rfl) ?_
        intro i hi
        dsimp only
        refine SWp.seq (SWp.seq (Wp.s ?_))
        have hv0 : hbx (H ++ [some (dkC d), some (stoC s), some (extC e), some (stoC s'), some (stoC s')]) (H.length + 1) = hbx (H ++ [some (dkC d), some (stoC s), some (extC e), some (stoC s'), some (stoC s')]) (H.length + 1) := rfl
        by_cases hlt : (i : Int) - 1 ≤ (s.sizes.length : Int)
        case neg =>
          simp -implicitDefEqProofs [go_sem, stoC, hlt]
          refine Wp.s ?_
          simp -implicitDefEqProofs [go_sem]
          exact Sh.cut H.length V.length (by simp [go_sem]) (Nat.le_refl _) (Nat.le_refl _) (TOk.all (by simp [go_sem])) hokH (by simp) (by simp)
        simp -implicitDefEqProofs [go_sem, stoC, hlt]
        refine Wp.s ?_
        simp -implicitDefEqProofs [go_sem]
        have w5 : IntKind.i64.wrap (i : Int) = (i : Int) := IntWalk.i64_in _ ⟨by omega, by omega⟩
        refine SWp.seq (SWp.block (SWp.seq (Wp.s ?_)))
        simp -implicitDefEqProofs [go_sem]
        refine CC.mono (vRead_cc _ _ s ((i : Int) - 1) e hs) ?_
        rintro _ _ _ ⟨rfl, rfl, rfl⟩
        simp -implicitDefEqProofs [go_sem]
        refine SWp.seq (Wp.s ?_)
        simp -implicitDefEqProofs [go_sem]
        refine CC.mono (rvRead_cc _ _ s ((i : Int) - 1) e hs) ?_
        rintro _ _ _ ⟨rfl, rfl, rfl⟩
        simp -implicitDefEqProofs [go_sem]
        refine SWp.seq (Wp.s ?_)
        simp -implicitDefEqProofs [go_sem]
        refine CC.mono (SameSec13_cc _ _ .sh .sh (readV s ((i : Int) - 1) e).1 (readV s ((i : Int) - 1) e).1 (readV_l _ _ _)) ?_
        rintro _ _ _ ⟨rfl, rfl, rfl⟩
        simp -implicitDefEqProofs [go_sem]
        refine Wp.s ?_
        simp -implicitDefEqProofs [go_sem]
        refine Wp.s ?_
        simp -implicitDefEqProofs [go_sem, w5]
        refine ⟨i + 1, by omega, by omega, Sh.forget (by simp [go_sem, w5]) rfl rfl⟩
      rintro _ -
      dsimp only
      refine SWp.seq (Wp.s ?_)
      simp -implicitDefEqProofs [go_sem]
      refine CC.mono (aw _ _) ?_
      rintro _ _ _ ⟨rfl, rfl, rfl⟩
      simp -implicitDefEqProofs [go_sem]
      refine Wp.s ?_
      simp -implicitDefEqProofs [go_sem]
      exact Fin.bool rfl hokH (by simp) (by simp)
end Go.Proofs.YtbnkggbpocaaiaaGreatDoor
namespace Go.Proofs.YtbnkggbpocaaiaaGreatDoor
open Go.Proofs
theorem opens_ext : Opens Tryz.prog 74 fun cs => ∃ x, cs = extC x :=
  (Opens.struct Tryz.underlying74 (N := 2) (by kernel_rfl) (.cons rfl (n := 1) (by kernel_rfl) opens_int (.cons rfl (n := 1) (by kernel_rfl) opens_int .nil))).mono fun cs h => by
    obtain ⟨_, _, rfl, ⟨a, rfl⟩, _, _, rfl, ⟨b, rfl⟩, rfl⟩ := h
    exact ⟨⟨a, b⟩, rfl⟩
end Go.Proofs.YtbnkggbpocaaiaaGreatDoor
