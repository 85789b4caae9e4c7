import Derived.Test.YtbnkggbpocaaiaaGreatDoorA8
set_option linter.unusedSimpArgs false
set_option linter.unusedVariables false
set_option linter.unusedSectionVars false
namespace Go.Proofs.YtbnkggbpocaaiaaGreatDoor
open Go.Proofs
theorem putV_0 (v : List Sec) (p : Nat) : putV v p [] = v := by simp [putV]
theorem putV_snoc {v : List Sec} {p : Nat} {d : List Sec} {t : Nat} (ht : t < d.length) (h : p + d.length ≤ v.length) : (putV v p (d.take t)).set (p + t) d[t] = putV v p (d.take (t + 1)) := by
  apply List.ext_getElem
  · rw [List.length_set, putV_len (by rw [List.length_take]; omega), putV_len (by rw [List.length_take]; omega)]
  intro i h1 h2
  rw [List.length_set, putV_len (by rw [List.length_take]; omega)] at h1
  rw [List.getElem_set]
  simp only [putV, List.getElem_append, List.length_append, List.length_take, List.getElem_take, List.getElem_drop]
  by_cases e : p + t = i
  · subst e
    rw [if_pos rfl, dif_pos (by omega), dif_neg (by omega)]
    congr 1; omega
  · rw [if_neg e]
    by_cases q1 : i < p
    · rw [dif_pos (by omega), dif_pos (by omega), dif_pos (by omega), dif_pos (by omega)]
    · by_cases q2 : i < p + t
      · rw [dif_pos (by omega), dif_neg (by omega), dif_pos (by omega), dif_neg (by omega)]
      · rw [dif_neg (by omega), dif_neg (by omega)]
        congr 1; omega
set_option maxRecDepth 8000 in
theorem rApply_cc (H : Hp) (V : List Nat) (l : Img) (ws : List Wr) (hl : l.length ≤ 1000000000) (hn : ws.length ≤ 1000000000) (hw : ∀ w ∈ ws, w.data.length ≤ 1000000000) : CC Tryz.prog 71 [.sl .sh 1 (l.map imE), .sl .sh 3 (ws.map wrC)] H V (Pu (apV (apR l ws)) H V) := by
  refine CC.of_swp Tryz.func71 rfl (by kernel_rfl) (by rw [Tryz.ntmps71]; exact len_le _ _ rfl) fun hok hokH => ?_
  clear hok
  have bad : ∀ (i e : Nat) (H' : Hp) (V' : List Nat), apR l ws = ([], i, e) → H'.take H.length = H → V'.take V.length = V → Fin H.length V.length (Pu (apV (apR l ws)) H V) (.tup [.v (.slice none 0 0), ci i, er e]) H' V' := fun i e H' V' h1 h2 h3 => by
    rw [h1]
    exact Fin.pu (.tup (.cons (.nil 1 (by decide)) (.cons (.refl _) (.cons (.refl _) .nil)))) (okV_apV _ _ _) hokH h2 h3
  refine SWp.seq (Wp.s ?_)
  simp -implicitDefEqProofs [go_sem, args0]
  refine SWp.seq (SWp.seq (Wp.s ?_))
  simp -implicitDefEqProofs [go_sem]
  refine CC.mono (rImChk_cc _ _ .sh l hl) ?_
  rintro _ _ _ ⟨rfl, rfl, rfl⟩
  simp -implicitDefEqProofs [go_sem]
  refine SWp.seq (Wp.s ?_)
  by_cases h0 : sizesE (imgSz l) = 0
  case neg =>
    simp -implicitDefEqProofs [go_sem, h0]
    refine Wp.s ?_
    simp -implicitDefEqProofs [go_sem]
    exact bad 0 _ _ _ (by rw [apR, if_pos h0]) (by simp) (by simp)
  have e0 : apR l ws = apI l ws 0 := by rw [apR, if_neg (by simp [h0])]
  simp -implicitDefEqProofs [go_sem, h0]
  refine Wp.s ?_
  simp -implicitDefEqProofs [go_sem]
  obtain ⟨hl8, hvs⟩ := sizes_pos h0
  refine SWp.seq (Wp.s ?_)
  simp -implicitDefEqProofs [go_sem]
  refine CC.mono (rCopy_cc _ _ l (by omega) (fun v hv => ⟨(hvs v hv).1, by have := (hvs v hv).2; omega⟩)) ?_
  rintro _ _ _ ⟨rfl, rfl, rfl⟩
  simp -implicitDefEqProofs [go_sem]
  refine SWp.join (α := Img) (fun k => ([(8, .sl (.own V.length l.length) 1 (bxs H.length l))], H ++ imH k, V ++ [l.length])) (fun k => k.map List.length = l.map List.length ∧ apI l ws 0 = (k, 0, 0)) ?_ ?_
  · refine SWp.seq (Wp.s ?_)
    simp -implicitDefEqProofs [go_sem]
    refine SWp.block ?_
    refine SWp.loop (α := Nat × Img) (fun x => ([(0, .sl .sh 1 (l.map imE)), (1, .sl .sh 3 (ws.map wrC)), (8, .sl (.own V.length l.length) 1 (bxs H.length l)), (9, ci x.1)], H ++ imH x.2, V ++ [l.length])) (fun x => x.1 ≤ ws.length ∧ x.2.map List.length = l.map List.length ∧ apI l ws 0 = apI x.2 (ws.drop x.1) x.1) (fun x => ws.length - x.1) (0, l) ⟨Nat.zero_le _, rfl, rfl⟩ (Sh.forget (by simp [go_sem]) rfl rfl) ?_
    rintro ⟨i, k⟩ ⟨hi, hk, hap⟩
    dsimp only at hi hk hap ⊢
    refine SWp.seq (SWp.seq (Wp.s ?_))
    simp -implicitDefEqProofs [go_sem]
    refine Wp.s ?_
    simp -implicitDefEqProofs [go_sem]
    have hkl : k.length = l.length := by have := congrArg List.length hk; simpa using this
    refine ⟨fun h => ?_, fun h => ?_⟩
    case refine_2 =>
      rw [List.drop_of_length_le h] at hap
      exact ⟨k, ⟨hk, hap⟩, Sh.forget (by simp [go_sem]) rfl rfl⟩
    rw [List.drop_eq_getElem_cons h] at hap
    have hszk : imgSz l = imgSz k := by
      have : ∀ x : Img, imgSz x = (x.map List.length).map fun n : Nat => (n : Int) := fun x => by rw [imgSz, List.map_map]; rfl
      rw [this l, this k, hk]
    have hkn : ∀ v ∈ k, v.length ≤ 4096 := fun v hv => by
      have : v.length ∈ k.map List.length := List.mem_map.2 ⟨v, hv, rfl⟩
      rw [hk] at this
      obtain ⟨u, hu, he⟩ := List.mem_map.1 this
      have := (hvs u hu).2; omega
    have hdw := hw _ (List.getElem_mem h)
    have w5 : IntKind.i64.wrap ((i : Int) + 1) = (i : Int) + 1 := IntWalk.i64_in _ ⟨by omega, by omega⟩
    refine SWp.seq (SWp.block (SWp.seq (SWp.seq (Wp.s ?_))))
    simp -implicitDefEqProofs [go_sem, h]
    refine CC.mono (rFits_cc _ _ .sh l ws[i] hl hdw) ?_
    rintro _ _ _ ⟨rfl, rfl, rfl⟩
    have hfi : fitsI l ws[i] = fitsS (imgSz k) ws[i] := by rw [fitsI, if_neg (by simp [h0]), hszk]
    rw [hfi]
    simp -implicitDefEqProofs [go_sem]
    refine SWp.seq (Wp.s ?_)
    by_cases hf : fitsS (imgSz k) ws[i] = 0
    case neg =>
      simp -implicitDefEqProofs [go_sem, hf]
      refine Wp.s ?_
      simp -implicitDefEqProofs [go_sem]
      exact bad i _ _ _ (by rw [e0, hap, apI, if_pos hf]) (by simp) (by simp)
    rw [apI, if_neg (by simp [hf])] at hap
    simp -implicitDefEqProofs [go_sem, hf]
    refine Wp.s ?_
    simp -implicitDefEqProofs [go_sem]
    obtain ⟨n, hvn, hnk, hd0, p, hpn, hpl⟩ := fitsI_0 hf
    have hkl4 := hkn _ (List.getElem_mem hnk)
    obtain ⟨d, hd⟩ : ∃ d, d = ws[i].data := ⟨_, rfl⟩
    rw [← hd] at hd0 hpl hdw
    have hap1 : ap1 k ws[i] = k.set n (putV k[n] p d) := by
      rw [ap1, hvn, hpn, Int.toNat_natCast, Int.toNat_natCast, List.getD_eq_getElem?_getD, List.getElem?_eq_getElem hnk, Option.getD_some, hd]
    refine SWp.seq (Wp.s ?_)
    simp -implicitDefEqProofs [go_sem]
    refine SWp.block ?_
    refine SWp.loop (α := Nat) (fun t => ([(0, .sl .sh 1 (l.map imE)), (1, .sl .sh 3 (ws.map wrC)), (8, .sl (.own V.length l.length) 1 (bxs H.length l)), (9, ci i), (11, ci t)], H ++ imH (k.set n (putV k[n] p (d.take t))), V ++ [l.length])) (fun t => t ≤ d.length) (fun t => d.length - t) 0 (Nat.zero_le _) (Sh.forget (by simp [go_sem]) (by rw [List.take_zero, putV_0, List.set_getElem_self]) rfl) ?_
    intro t ht
    dsimp only
    refine SWp.seq (SWp.seq (Wp.s ?_))
    simp -implicitDefEqProofs [go_sem, h, ← hd]
    refine Wp.s ?_
    simp -implicitDefEqProofs [go_sem]
    refine ⟨fun h6 => ?_, fun h6 => ?_⟩
    case refine_2 =>
      refine Wp.s ?_
      simp -implicitDefEqProofs [go_sem, w5]
      exact ⟨i + 1, ap1 k ws[i], ⟨by omega, (ap1_sz hf).trans hk, hap⟩, by omega, Sh.forget (by simp [go_sem]) (by rw [hap1, List.take_of_length_le h6]) rfl⟩
    have hdt : (d.take t).length = t := by rw [List.length_take]; omega
    have hpvl : (putV k[n] p (d.take t)).length = k[n].length := putV_len (by omega)
    obtain ⟨k', hk'⟩ : ∃ k', k' = k.set n (putV k[n] p (d.take t)) := ⟨_, rfl⟩
    have hk'l : k'.length = k.length := by rw [hk', List.length_set]
    have hk'n : k'[n]? = some (putV k[n] p (d.take t)) := by rw [hk', List.getElem?_set_self hnk]
    rw [← hk']
    have hbxe := bxs_eq H.length hk
    rw [← hbxe]
    obtain ⟨G, hG⟩ : ∃ G, G = H ++ imH k' := ⟨_, rfl⟩
    have hGn : G[H.length + n]? = some (some (secsF (putV k[n] p (d.take t)))) := by
      rw [hG, imH_get H k' n (by omega)]
      obtain ⟨_, e⟩ := List.getElem?_eq_some_iff.1 hk'n
      rw [e]
    rw [← hG]
    have w6 : IntKind.i64.wrap ((p : Int) + (t : Int)) = ((p + t : Nat) : Int) := by rw [IntWalk.i64_in _ ⟨by omega, by omega⟩]; omega
    have w7 : IntKind.i64.wrap ((t : Int) + 1) = (t : Int) + 1 := IntWalk.i64_in _ ⟨by omega, by omega⟩
    have hpt : p + t < k[n].length := by omega
    have hpt' : (p : Int) + (t : Int) < (k[n].length : Int) := by omega
    refine SWp.seq (SWp.block (SWp.drawnT [] [24] (.s 0 .pl <| .s 1 .pl <| .s 2 .pl <| .s 3 .pl <| .s 4 .pl <| .s 5 .pl <| .s 6 .pl <| .s 7 .pl <| .s 8 .pl <| .s 9 .pl <| .s 10 .pl <| .s 11 .pl <| .s 12 .pl <| .s 13 .pl <| .s 14 .pl <| .s 15 .pl <| .s 16 .pl <| .s 17 .pl <| .s 18 .pl <| .s 19 .pl <| .s 20 .pl <| .s 21 .pl <| .s 22 .pl <| .s 23 .pl <| .s 24 .st <| .n) (by kernel_rfl) (by kernel_rfl) ?_))
    have w8 : ((p : Int) + (t : Int)).toNat = p + t := by omega
    simp -implicitDefEqProofs [go_sem, h, hvn, hpn, hnk, ← hd, w6, w8, h6, hpt, hpt', hbx_of hGn]
    refine ⟨by omega, by omega, ?_⟩
    refine Wp.s ?_
    simp -implicitDefEqProofs [go_sem, w7]
    refine ⟨t + 1, by omega, by omega, Sh.forget (by simp [go_sem]) ?_ rfl⟩
    rw [hG, secsF_set' (by omega), putV_snoc h6 (by omega), imH_set, hk', List.set_set]
  rintro k ⟨hk, hap⟩
  dsimp only
  have hkl : k.length = l.length := by have := congrArg List.length hk; simpa using this
  rw [← bxs_eq H.length hk]
  refine Wp.s ?_
  simp -implicitDefEqProofs [go_sem]
  rw [e0, hap]
  exact fin_bxs hokH (by simp)
end Go.Proofs.YtbnkggbpocaaiaaGreatDoor
namespace Go.Proofs.YtbnkggbpocaaiaaGreatDoor
open Go.Proofs
theorem Sh.geCut {n nb nv : Nat} {T T' : Tm} {H H' : Hp} {V V' : List Nat} (i j : Nat) (h : ∀ p ∈ T', Ge (tget T p.1) p.2) (hi : nb ≤ i) (hj : nv ≤ j) (hT : ∀ p ∈ T', okV i j p.2) (hH : ∀ (b : Nat) cs, H'[b]? = some (some cs) → okL i j cs) (eH : H.take i = H') (eV : V.take j = V') : Sh n nb nv T H V (T', H', V') := by
  subst eH eV
  exact (Gst.ge h).trans (Gst.cut i j hi hj hT hH)
theorem CopyWrites_cc (H : Hp) (V : List Nat) (l : List Wr) (h1 : l.length ≤ 1000000) (h2 : ∀ w ∈ l, w.data.length ≤ 1000000) : CC Tryz.prog 70 [.sl .sh 3 (l.map wrC)] H V (Fr 3 (l.map wrC) H V) := by
  refine CC.of_swp Tryz.func70 rfl (by kernel_rfl) (by rw [Tryz.ntmps70]; exact len_le _ _ rfl) fun hok hokH => ?_
  clear hok
  refine SWp.seq (Wp.s ?_)
  simp -implicitDefEqProofs [go_sem, args0]
  refine SWp.seq (Wp.s ?_)
  simp -implicitDefEqProofs [go_sem]
  refine SWp.join (α := Unit) (fun _ => ([(3, .sl (.own V.length l.length) 3 (l.map wrC))], H, V ++ [l.length])) (fun _ => True) ?_ ?_
  · refine SWp.seq (Wp.s ?_)
    simp -implicitDefEqProofs [go_sem]
    refine SWp.block ?_
    refine SWp.loop (α := Nat) (fun i => ([(0, .sl .sh 3 (l.map wrC)), (3, .sl (.own V.length i) 3 (wrU l i)), (4, ci i)], H, V ++ [i])) (fun i => i ≤ l.length) (fun i => l.length - i) 0 (Nat.zero_le _) (Sh.tokT (by simp [go_sem]) rfl rfl) ?_
    intro i hi
    dsimp only
    refine SWp.seq (SWp.seq (Wp.s ?_))
    simp -implicitDefEqProofs [go_sem]
    refine Wp.s ?_
    simp -implicitDefEqProofs [go_sem]
    refine ⟨fun h => ?_, fun h => ?_⟩
    case refine_2 =>
      obtain rfl : i = l.length := by omega
      exact Sh.forget (by simp [go_sem]) rfl rfl
    have hw := h2 _ (List.getElem_mem h)
    have w5 : IntKind.i64.wrap ((i : Int) + 1) = (i : Int) + 1 := IntWalk.i64_in _ ⟨by omega, by omega⟩
    refine SWp.seq (SWp.block (SWp.seq (Wp.s ?_)))
    simp -implicitDefEqProofs [go_sem]
    refine SWp.drawnT [] [] (.s 0 .pl <| .s 1 .pl <| .s 2 .pl <| .s 3 .pl <| .s 4 .pl <| .s 5 .pl <| .s 6 .pl <| .s 7 .pl <| .s 8 .pl <| .s 9 .pl <| .s 10 .pl <| .s 11 .pl <| .s 12 .pl <| .s 13 .pl <| .s 14 .pl <| .s 15 .pl <| .s 16 .pl <| .s 17 .pl <| .s 18 .pl <| .s 19 .pl <| .s 20 .pl <| .s 21 .pl <| .n) (by kernel_rfl) (by kernel_rfl) ?_
    simp -implicitDefEqProofs [go_sem, h, wrU_len _ _ hi]
    refine ⟨by omega, by omega, ?_⟩
    refine Wp.s ?_
    simp -implicitDefEqProofs [go_sem, w5]
    refine ⟨i + 1, by omega, by omega, Sh.geCut H.length (V.length + 1) (fun p hp => ?_) (Nat.le_refl _) (by omega) (TOk.all (by simp [go_sem])) (fun b cs hb => okL_mono (Nat.le_refl _) (by omega) (hokH b cs hb)) (by simp) (by simp)⟩
    rw [wrU_s h] at hp
    simp only [List.mem_cons, List.not_mem_nil, or_false] at hp
    rcases hp with rfl | rfl | rfl
    · simp [go_sem]
    · simp [go_sem]; exact Ge.slk (LeE.app' (LeE.refl' _) (.cons (.cons (.refl _) (.cons (.refl _) (.cons (.sh _ _ _) .nil))) .nil))
    · simp [go_sem]
  rintro _ -
  dsimp only
  refine Wp.s ?_
  simp -implicitDefEqProofs [go_sem]
  exact Fin.fresh rfl (by simp [go_sem, okE_wrs]) hokH (by simp)
set_option maxRecDepth 8000 in
theorem copied_cc (H : Hp) (V : List Nat) (s : Sto) (hs : StS s) (hz : sizesE (imgSz s.img) = 0) : CC Tryz.prog 69 [.agg (stoC s)] H V (OwnR s H V) := by
  refine CC.of_swp Tryz.func69 rfl (by kernel_rfl) (by rw [Tryz.ntmps69]; exact len_le _ _ rfl) fun hok hokH => ?_
  clear hok
  refine SWp.seq (Wp.s ?_)
  simp -implicitDefEqProofs [go_sem, args0]
  refine SWp.seq (Wp.s ?_)
  simp -implicitDefEqProofs [go_sem, stoC]
  refine CC.mono (ints_cc _ _ .sh s.sizes hs.sl) ?_
  rintro _ _ _ ⟨rfl, rfl, rfl⟩
  simp -implicitDefEqProofs [go_sem]
  refine SWp.seq (Wp.s ?_)
  simp -implicitDefEqProofs [go_sem]
  refine CC.mono (ints_cc _ _ .sh s.jr.sizes hs.jl) ?_
  rintro _ _ _ ⟨rfl, rfl, rfl⟩
  simp -implicitDefEqProofs [go_sem]
  refine SWp.seq (Wp.s ?_)
  simp -implicitDefEqProofs [go_sem]
  refine CC.mono (CopyWrites_cc _ _ s.pend hs.pl hs.pd) ?_
  rintro _ _ _ ⟨v, rfl, rfl, rfl⟩
  simp -implicitDefEqProofs [go_sem]
  refine SWp.seq (Wp.s ?_)
  simp -implicitDefEqProofs [go_sem]
  obtain ⟨hl8, hvs⟩ := sizes_pos hz
  refine CC.mono (rCopyP_cc _ _ s.img hs.il (fun u hu => ⟨(hvs u hu).1, hs.iv u hu⟩)) ?_
  rintro _ _ _ ⟨rfl, rfl, rfl⟩
  simp -implicitDefEqProofs [go_sem]
  refine Wp.s ?_
  simp -implicitDefEqProofs [go_sem]
  refine Fin.cut H.length (V.length + 1) (H'' := H) (V'' := V ++ [v]) (r' := .agg (stoT s (.sl (.own V.length v) 3 (s.pend.map wrC)))) ⟨V.length, v, rfl, rfl, by simp, by simp, by omega⟩ (Nat.le_refl _) (by omega) (by simp) (by simp) ?_ ?_ fun b cs hb => okL_mono (Nat.le_refl _) (by omega) (hokH b cs hb)
  · exact .agg (.cons (.refl _) (.cons (.refl _) (.cons (.refl _) (.cons (.refl _) (.cons (.refl _) (.cons (.refl _) (.cons (.refl _) (.cons (.refl _) (.cons (.refl _) (.cons (.refl _) (.cons (.refl _) .nil)))))))))))
  · simp [stoT, go_sem, okL, okV, okTk, okE_ints, okE_wrs, okE_ims]
end Go.Proofs.YtbnkggbpocaaiaaGreatDoor
namespace Go.Proofs.YtbnkggbpocaaiaaGreatDoor
open Go.Proofs
theorem apI_all0 : ∀ (ws : List Wr) (l : Img) (i : Nat), (∀ w ∈ ws, fitsS (imgSz l) w = 0) → (apI l ws i).2.2 = 0
  | [], l, i, _ => rfl
  | w :: ws, l, i, h => by
    have h0 : fitsS (imgSz l) w = 0 := h w (by simp)
    rw [apI, if_neg (by simp [h0])]
    refine apI_all0 ws _ _ fun x hx => ?_
    have e : ∀ x : Img, imgSz x = (x.map List.length).map (fun n : Nat => (n : Int)) := fun x => by rw [imgSz, List.map_map]; rfl
    rw [e, ap1_sz h0, ← e]
    exact h x (by simp [hx])
theorem apI_bad : ∀ (A : List Wr) (w : Wr) (B : List Wr) (l : Img) (i : Nat), (∀ x ∈ A, fitsS (imgSz l) x = 0) → fitsS (imgSz l) w ≠ 0 → (apI l (A ++ w :: B) i).2.2 = fitsS (imgSz l) w
  | [], w, B, l, i, _, h => by rw [List.nil_append, apI, if_pos h]
  | x :: A, w, B, l, i, hA, h => by
    have h0 : fitsS (imgSz l) x = 0 := hA x (by simp)
    have e : ∀ x : Img, imgSz x = (x.map List.length).map (fun n : Nat => (n : Int)) := fun x => by rw [imgSz, List.map_map]; rfl
    have e2 : imgSz (ap1 l x) = imgSz l := by rw [e, ap1_sz h0, ← e]
    rw [List.cons_append, apI, if_neg (by simp [h0]), apI_bad A w B _ _ (by rw [e2]; exact fun y hy => hA y (by simp [hy])) (by rw [e2]; exact h), e2]
theorem apI_err : ∀ (ws : List Wr) (l : Img) (i : Nat), (apI l ws i).2.2 ≠ 0 → (apI l ws i).1 = []
  | [], l, i, h => absurd rfl h
  | w :: ws, l, i, h => by
    rw [apI] at h ⊢
    split
    · rfl
    · rename_i q
      rw [if_neg q] at h
      exact apI_err ws _ _ h
theorem apR_err {l : Img} {ws : List Wr} (h : (apR l ws).2.2 ≠ 0) : (apR l ws).1 = [] := by
  unfold apR at h ⊢
  split
  · rfl
  · rename_i q
    rw [if_neg q] at h
    exact apI_err ws l 0 h
set_option maxRecDepth 8000 in
theorem rvCheck_cc (H : Hp) (V : List Nat) (s : Sto) (hs : StS s) : CC Tryz.prog 22 [.agg (stoC s)] H V (Pu (er (chkV s)) H V) := by
  refine CC.of_swp Tryz.func22 rfl (by kernel_rfl) (by rw [Tryz.ntmps22]; exact len_le _ _ rfl) fun hok hokH => ?_
  clear hok
  have fin : ∀ (e : Nat) (H' : Hp) (V' : List Nat), chkV s = e → H'.take H.length = H → V'.take V.length = V → Fin H.length V.length (Pu (er (chkV s)) H V) (er e) H' V' := fun e H' V' h1 h2 h3 => Fin.er h1 hokH h2 h3
  refine SWp.seq (Wp.s ?_)
  simp -implicitDefEqProofs [go_sem, args0]
  refine SWp.seq (Wp.s ?_)
  simp -implicitDefEqProofs [go_sem, stoC]
  refine CC.mono (refSizes_cc _ _ .sh s.sizes (by have := hs.sl; omega)) ?_
  rintro _ _ _ ⟨rfl, rfl, rfl⟩
  simp -implicitDefEqProofs [go_sem]
  refine ⟨fun h0 => fin _ _ _ (by rw [chkV, if_pos h0]) (by simp) (by simp), fun h0 => ?_⟩
  have hz := SzOk.of h0
  have hsm := hz.sum'
  have hl8 := (sizesE_0 h0).2.1
  refine SWp.seq (SWp.seq (Wp.s ?_))
  simp -implicitDefEqProofs [go_sem]
  refine CC.mono (refCheck_cc _ _ s.jr hs.jl) ?_
  rintro _ _ _ ⟨rfl, rfl, rfl⟩
  simp -implicitDefEqProofs [go_sem]
  refine SWp.seq (Wp.s ?_)
  by_cases hJ : chkJ s.jr = true
  case neg =>
    have hJ' : chkJ s.jr = false := by simpa using hJ
    simp -implicitDefEqProofs [go_sem, ckE, hJ']
    refine Wp.s ?_
    simp -implicitDefEqProofs [go_sem]
    exact fin _ _ _ (by rw [chkV, if_neg (by simp [h0]), if_pos hJ']) (by simp) (by simp)
  have e1 : chkV s = if s.jr.start ≠ 0 ∨ s.data ≠ s.jr.count ∨ 4096 - sumI s.sizes < s.data then 2
        else if s.applied ≠ s.jr.first - 1 ∨ s.pend.length ≠ s.jr.sizes.length then 3
        else if (apR (imOf s.sizes) s.pend).2.2 ≠ 0 then (apR (imOf s.sizes) s.pend).2.2
        else if imgSz s.img ≠ s.sizes then 22
        else if (apR s.img s.pend).2.2 ≠ 0 ∨ (apR s.img s.pend).1 ≠ s.img then 22 else 0 := by
    rw [chkV, if_neg (by simp [h0]), if_neg (by simp [hJ])]
  have hfi := chkJ_first hJ
  have hva : validJ s.jr.start s.jr.count = true := by
    have := hJ
    simp only [chkJ, Bool.and_eq_true] at this
    exact this.1.1.1.1.1.1.1.1
  simp -implicitDefEqProofs [go_sem, ckE, hJ]
  refine Wp.s ?_
  simp -implicitDefEqProofs [go_sem]
  rw [validJ_iff] at hva
  have w1 : IntKind.i64.wrap (s.jr.count + sumI s.sizes) = s.jr.count + sumI s.sizes := IntWalk.i64_in _ ⟨by omega, by omega⟩
  have w2 : IntKind.i64.wrap (s.jr.first - 1) = s.jr.first - 1 := IntWalk.i64_in _ ⟨by omega, by omega⟩
  refine SWp.seq (SWp.seq (SWp.drawnT [] [] (.s 0 .pl <| .s 1 .pl <| .s 2 .pl <| .s 3 .pl <| .s 4 .pl <| .s 5 .pl <| .s 6 .pl <| .s 7 .pl <| .s 8 .pl <| .s 9 .pl <| .s 10 .pl <| .s 11 .pl <| .s 12 .pl <| .s 13 .pl <| .s 14 .pl <| .s 15 .pl <| .s 16 .pl <| .s 17 .pl <| .s 18 .pl <| .s 19 .pl <| .s 20 .pl <| .s 21 .pl <| .s 22 .pl <| .n) (by kernel_rfl) (by kernel_rfl) ?_))
  by_cases c1 : s.jr.start = 0
  case neg =>
    simp -implicitDefEqProofs [go_sem, c1]
    refine Wp.s ?_
    simp -implicitDefEqProofs [go_sem]
    exact fin _ _ _ (by rw [e1, if_pos (.inl c1)]) (by simp) (by simp)
  by_cases c2 : s.data = s.jr.count
  case neg =>
    simp -implicitDefEqProofs [go_sem, c1, c2]
    refine Wp.s ?_
    simp -implicitDefEqProofs [go_sem]
    exact fin _ _ _ (by rw [e1, if_pos (.inr (.inl c2))]) (by simp) (by simp)
  simp -implicitDefEqProofs [go_sem, c1, c2]
  refine CC.mono (rsum_cc _ _ .sh s.sizes hz) ?_
  rintro _ _ _ ⟨rfl, rfl, rfl⟩
  by_cases c3 : 4096 < s.jr.count + sumI s.sizes
  · simp -implicitDefEqProofs [go_sem, w1, c3]
    refine Wp.s ?_
    simp -implicitDefEqProofs [go_sem]
    exact fin _ _ _ (by rw [e1, if_pos (.inr (.inr (by omega)))]) (by simp) (by simp)
  simp -implicitDefEqProofs [go_sem, w1, c3]
  refine Wp.s ?_
  simp -implicitDefEqProofs [go_sem]
  have hb1 : ¬ (s.jr.start ≠ 0 ∨ s.data ≠ s.jr.count ∨ 4096 - sumI s.sizes < s.data) := by
    rintro (q | q | q)
    · exact q c1
    · exact q c2
    · omega
  rw [if_neg hb1] at e1
  refine SWp.seq (SWp.seq (Wp.s ?_))
  by_cases c4 : s.applied = s.jr.first - 1
  case neg =>
    simp -implicitDefEqProofs [go_sem, w2, c4]
    refine Wp.s ?_
    simp -implicitDefEqProofs [go_sem]
    exact fin _ _ _ (by rw [e1, if_pos (.inl c4)]) (by simp) (by simp)
  by_cases c5 : s.pend.length = s.jr.sizes.length
  case neg =>
    have c5' : ¬ (s.pend.length : Int) = (s.jr.sizes.length : Int) := by omega
    simp -implicitDefEqProofs [go_sem, w2, c4, c5, c5']
    refine Wp.s ?_
    simp -implicitDefEqProofs [go_sem]
    exact fin _ _ _ (by rw [e1, if_pos (.inr c5)]) (by simp) (by simp)
  simp -implicitDefEqProofs [go_sem, w2, c4, c5]
  refine Wp.s ?_
  simp -implicitDefEqProofs [go_sem]
  have hb2 : ¬ (s.applied ≠ s.jr.first - 1 ∨ s.pend.length ≠ s.jr.sizes.length) := by rintro (q | q); exact q c4; exact q c5
  rw [if_neg hb2] at e1
  have hio : imgSz (imOf s.sizes) = s.sizes := imgSz_of h0
  have hap : apR (imOf s.sizes) s.pend = apI (imOf s.sizes) s.pend 0 := by rw [apR, if_neg (by rw [hio]; simp [h0])]
  refine SWp.join (α := Unit) (fun _ => ([(1, .ptr H.length 0)], H ++ [some (stoC s)], V)) (fun _ => ∀ w ∈ s.pend, fitsS s.sizes w = 0) ?_ ?_
  · refine SWp.seq (Wp.s ?_)
    simp -implicitDefEqProofs [go_sem]
    refine SWp.block ?_
    refine SWp.loop (α := Nat) (fun i => ([(1, .ptr H.length 0), (5, ci i)], H ++ [some (stoC s)], V)) (fun i => i ≤ s.pend.length ∧ ∀ w ∈ s.pend.take i, fitsS s.sizes w = 0) (fun i => s.pend.length - i) 0 ⟨Nat.zero_le _, by simp⟩ (Sh.forget (by simp [go_sem]) (by rw [stoC, c1, c2, c4]) rfl) ?_
    rintro i ⟨hi, hp⟩
    dsimp only
    refine SWp.seq (SWp.seq (Wp.s ?_))
    simp -implicitDefEqProofs [go_sem, stoC]
    refine Wp.s ?_
    simp -implicitDefEqProofs [go_sem]
    refine ⟨fun h => ?_, fun h => ⟨by rwa [List.take_of_length_le h] at hp, Sh.forget (by simp [go_sem]) rfl rfl⟩⟩
    have hpl := hs.pl
    have hdl := hs.pd _ (List.getElem_mem h)
    have w5 : IntKind.i64.wrap ((i : Int) + 1) = (i : Int) + 1 := IntWalk.i64_in _ ⟨by omega, by omega⟩
    refine SWp.seq (SWp.block (SWp.seq (SWp.drawnT [] [] (.s 0 .pl <| .s 1 .pl <| .s 2 .pl <| .s 3 .pl <| .s 4 .pl <| .s 5 .pl <| .s 6 .pl <| .s 7 .pl <| .s 8 .pl <| .n) (by kernel_rfl) (by kernel_rfl) ?_)))
    simp -implicitDefEqProofs [go_sem, h]
    refine CC.mono (refFits_cc _ _ .sh s.sizes s.pend[i] (by omega) (fun n hn => (sizesE_0 h0).2.2 n hn) (by omega)) ?_
    rintro _ _ _ ⟨rfl, rfl, rfl⟩
    simp -implicitDefEqProofs [go_sem]
    refine SWp.seq (Wp.s ?_)
    by_cases he : fitsS s.sizes s.pend[i] = 0
    case neg =>
      simp -implicitDefEqProofs [go_sem, he]
      refine Wp.s ?_
      simp -implicitDefEqProofs [go_sem]
      have hbad : (apR (imOf s.sizes) s.pend).2.2 = fitsS s.sizes s.pend[i] := by
        have hsp : s.pend = s.pend.take i ++ s.pend[i] :: s.pend.drop (i + 1) := by rw [List.getElem_cons_drop, List.take_append_drop]
        rw [hap]
        have := apI_bad (s.pend.take i) s.pend[i] (s.pend.drop (i + 1)) (imOf s.sizes) 0 (by rw [hio]; exact hp) (by rw [hio]; exact he)
        rwa [← hsp, hio] at this
      exact fin _ _ _ (by rw [e1, hbad, if_pos he]) (by simp) (by simp)
    simp -implicitDefEqProofs [go_sem, he]
    refine Wp.s ?_
    simp -implicitDefEqProofs [go_sem]
    refine Wp.s ?_
    simp -implicitDefEqProofs [go_sem, w5]
    refine ⟨i + 1, ⟨by omega, fun w hw => ?_⟩, by omega, Sh.forget (by simp [go_sem]) rfl rfl⟩
    rw [List.take_succ_eq_append_getElem h, List.mem_append, List.mem_singleton] at hw
    rcases hw with hw | rfl
    · exact hp w hw
    · exact he
  rintro _ hall
  dsimp only
  have hap0 : (apR (imOf s.sizes) s.pend).2.2 = 0 := by rw [hap]; exact apI_all0 _ _ _ (by rw [hio]; exact hall)
  rw [if_neg (by simp [hap0])] at e1
  refine SWp.seq (Wp.s ?_)
  simp -implicitDefEqProofs [go_sem, stoC]
  refine CC.mono (rNew_cc _ _ s.sizes (by omega)) ?_
  rintro _ _ _ ⟨rfl, rfl, rfl⟩
  simp -implicitDefEqProofs [go_sem, h0]
  refine SWp.seq (SWp.seq (Wp.s ?_))
  simp -implicitDefEqProofs [go_sem]
  refine CC.mono (rImChk_cc _ _ .sh s.img (by have := hs.il; omega)) ?_
  rintro _ _ _ ⟨rfl, rfl, rfl⟩
  by_cases d1 : sizesE (imgSz s.img) = 0
  case neg =>
    have hne : imgSz s.img ≠ s.sizes := fun e => d1 (by rw [e]; exact h0)
    simp -implicitDefEqProofs [go_sem, d1]
    refine Wp.s ?_
    simp -implicitDefEqProofs [go_sem]
    exact fin _ _ _ (by rw [e1, if_pos hne]) (by simp) (by simp)
  simp -implicitDefEqProofs [go_sem, d1]
  refine Wp.s ?_
  simp -implicitDefEqProofs [go_sem]
  refine SWp.seq (SWp.seq (Wp.s ?_))
  simp -implicitDefEqProofs [go_sem]
  refine CC.mono (rDiffer_cc _ _ (imOf s.sizes) s.img (by rw [imOf_len]; omega) (by have := hs.il; omega)) ?_
  rintro _ _ _ ⟨rfl, rfl, rfl⟩
  simp -implicitDefEqProofs [go_sem]
  refine SWp.seq (Wp.s ?_)
  have hpe : pairE (imOf s.sizes) s.img = if s.sizes ≠ imgSz s.img then 22 else 0 := by
    rw [pairE, hio, if_neg (by simp [h0]), if_neg (by simp [d1])]
  by_cases d2 : s.sizes = imgSz s.img
  case neg =>
    rw [if_pos d2] at hpe
    simp -implicitDefEqProofs [go_sem, hpe]
    refine Wp.s ?_
    simp -implicitDefEqProofs [go_sem]
    exact fin _ _ _ (by rw [e1, if_pos (fun e => d2 e.symm)]) (by simp) (by simp)
  rw [if_neg (by simp [d2])] at hpe
  rw [if_neg (by simp [d2])] at e1
  simp -implicitDefEqProofs [go_sem, hpe]
  refine Wp.s ?_
  simp -implicitDefEqProofs [go_sem]
  refine SWp.seq (SWp.seq (Wp.s ?_))
  simp -implicitDefEqProofs [go_sem]
  refine CC.mono (rApply_cc _ _ s.img s.pend (by have := hs.il; omega) (by have := hs.pl; omega) (fun w hw => by have := hs.pd w hw; omega)) ?_
  rintro _ _ _ ⟨rfl, rfl, rfl⟩
  simp -implicitDefEqProofs [go_sem, apV]
  refine SWp.seq (Wp.s ?_)
  simp -implicitDefEqProofs [go_sem]
  have hb : (apR s.img s.pend).1.length ≤ 1000000000 ∧ ∀ v ∈ (apR s.img s.pend).1, v.length ≤ 1000000000 := by
    by_cases q : (apR s.img s.pend).2.2 = 0
    · exact img_small h0 ((apR_sz q).trans d2.symm)
    · rw [apR_err q]; exact ⟨by simp, by simp⟩
  refine CC.mono (SameImg_cc _ _ .sh .sh (apR s.img s.pend).1 s.img hb.1 hb.2) ?_
  rintro _ _ _ ⟨rfl, rfl, rfl⟩
  by_cases d3 : (apR s.img s.pend).1 = s.img
  case neg =>
    simp -implicitDefEqProofs [go_sem, d3]
    refine Wp.s ?_
    simp -implicitDefEqProofs [go_sem]
    exact fin _ _ _ (by rw [e1, if_pos (.inr d3)]) (by simp) (by simp)
  simp -implicitDefEqProofs [go_sem, d3]
  refine Wp.s ?_
  simp -implicitDefEqProofs [go_sem]
  have d4 : (apR s.img s.pend).2.2 = 0 := Classical.byContradiction fun q => by
    have := apR_err q
    rw [d3] at this
    have h2 := (sizesE_0 d1).1
    rw [imgSz_len, this] at h2
    exact absurd h2 (by decide)
  refine Wp.s ?_
  simp -implicitDefEqProofs [go_sem]
  exact fin _ _ _ (by rw [e1, if_neg (by simp [d3, d4])]) (by simp) (by simp)
end Go.Proofs.YtbnkggbpocaaiaaGreatDoor
namespace Go.Proofs.YtbnkggbpocaaiaaGreatDoor
open Go.Proofs
set_option maxRecDepth 8000 in
set_option maxHeartbeats 1600000 in
theorem rvWrite_cc (H : Hp) (V : List Nat) (s : Sto) (w : Wr) (hs : StS s) (hw : w.data.length ≤ 1000000) : CC Tryz.prog 20 [.agg (stoC s), .agg (wrC w)] H V (Pu (wtV (writeV s w)) H V) := by
  refine CC.of_swp Tryz.func20 rfl (by kernel_rfl) (by rw [Tryz.ntmps20]; exact len_le _ _ rfl) fun hok hokH => ?_
  clear hok
  have bad : ∀ (e : Nat) (H' : Hp) (V' : List Nat), writeV s w = (zsto, 0, [], e) → H'.take H.length = H → V'.take V.length = V → Fin H.length V.length (Pu (wtV (writeV s w)) H V) (.tup [.agg zstC, ci 0, .v (.slice none 0 0), er e]) H' V' := fun e H' V' h1 h2 h3 => by
    rw [h1]
    exact Fin.pu (.tup (.cons (.agg zsto_le) (.cons (.refl _) (.cons (.nil 3 (by decide)) (.cons (.refl _) .nil))))) (okV_wtV _ _ _) hokH h2 h3
  refine SWp.seq (Wp.s ?_)
  simp -implicitDefEqProofs [go_sem, args0]
  refine SWp.seq (Wp.s ?_)
  simp -implicitDefEqProofs [go_sem]
  refine CC.mono (rvCheck_cc _ _ s hs) ?_
  rintro _ _ _ ⟨rfl, rfl, rfl⟩
  simp -implicitDefEqProofs [go_sem]
  refine ⟨fun h0 => bad _ _ _ (by rw [writeV, if_pos h0]) (by simp) (by simp), fun h0 => ?_⟩
  have hok := chkV_ok h0
  have hJ := hok.A.j
  refine SWp.seq (SWp.seq (Wp.s ?_))
  simp -implicitDefEqProofs [go_sem, stoC]
  refine CC.mono (refFits_cc _ _ .sh s.sizes w (by have := hs.sl; omega) (fun n hn => (sizesE_0 hok.sz).2.2 n hn) (by omega)) ?_
  rintro _ _ _ ⟨rfl, rfl, rfl⟩
  simp -implicitDefEqProofs [go_sem]
  refine SWp.seq (Wp.s ?_)
  by_cases h1 : fitsS s.sizes w = 0
  case neg =>
    simp -implicitDefEqProofs [go_sem, h1]
    refine Wp.s ?_
    simp -implicitDefEqProofs [go_sem]
    exact bad _ _ _ (by rw [writeV, if_neg (by simp [h0]), if_pos h1]) (by simp) (by simp)
  simp -implicitDefEqProofs [go_sem, h1]
  refine Wp.s ?_
  simp -implicitDefEqProofs [go_sem]
  refine SWp.seq (SWp.drawnT [] [11] (.s 0 .pl <| .s 1 .pl <| .s 2 .pl <| .s 3 .pl <| .c 4 <| .c 5 <| .s 6 .pl <| .s 7 .pl <| .s 8 .pl <| .s 9 .pl <| .s 10 .pl <| .s 11 .st <| .s 12 .pl <| .s 13 .pl <| .n) (by kernel_rfl) (by kernel_rfl) ?_)
  simp -implicitDefEqProofs [go_sem, stoC]
  have hel : (encWrs [w]).length ≤ 900000000 := encW_le hw
  refine ⟨_, fun H V => CC.le (ys := [.sl .sh 1 (bs []), .sl .ti 3 ([w].map wrC)]) (.cons (.nil 1 (by decide)) (.cons (.refl _) .nil)) (refPutWrites_cc H V .sh .ti [] [w] (by simp) (by simpa using hel)), ?_⟩
  rw [List.nil_append]
  simp -implicitDefEqProofs [go_sem]
  refine ⟨_, fun H V => refAppend_cc H V s.jr 1 (encWrs [w]) hs.jl hel, ?_⟩
  simp -implicitDefEqProofs [go_sem, jtV]
  have hwv : writeV s w = if (appJ s.jr 1 (encWrs [w])).2.2 ≠ 0 then (zsto, 0, [], (appJ s.jr 1 (encWrs [w])).2.2) else (⟨s.sizes, (appJ s.jr 1 (encWrs [w])).1, s.data, s.applied, s.pend ++ [w], ap1 s.img w⟩, nextJ s.jr, (appJ s.jr 1 (encWrs [w])).2.1, 0) := by
    rw [writeV, if_neg (by simp [h0]), if_neg (by simp [h1])]
  generalize appJ s.jr 1 (encWrs [w]) = x at hwv ⊢
  obtain ⟨j, A, e⟩ := x
  dsimp only at hwv ⊢
  refine SWp.seq (SWp.seq (Wp.s ?_))
  by_cases he : e = 0
  case neg =>
    have he' : ¬ (e : Int) = 0 := by omega
    simp -implicitDefEqProofs [go_sem, he, he']
    refine Wp.s ?_
    simp -implicitDefEqProofs [go_sem]
    exact bad _ _ _ (by rw [hwv, if_pos he]) (by simp) (by simp)
  subst he
  rw [if_neg (by simp)] at hwv
  simp -implicitDefEqProofs [go_sem]
  refine Wp.s ?_
  simp -implicitDefEqProofs [go_sem]
  refine SWp.seq (Wp.s ?_)
  simp -implicitDefEqProofs [go_sem]
  refine CC.mono (refNext_cc _ _ s.jr hs.jl) ?_
  rintro _ _ _ ⟨rfl, rfl, rfl⟩
  rw [nxJ_ok hJ]
  simp -implicitDefEqProofs [go_sem]
  refine SWp.seq (Wp.s ?_)
  simp -implicitDefEqProofs [go_sem]
  refine CC.mono (copied_cc _ _ s hs (by rw [hok.im]; exact hok.sz)) ?_
  rintro _ _ V1 ⟨k, v, rfl, rfl, hV1, hV2, hV3⟩
  simp -implicitDefEqProofs [go_sem, stoT]
  refine SWp.seq (Wp.s ?_)
  simp -implicitDefEqProofs [go_sem]
  have hkV : k < V1.length := (List.getElem?_eq_some_iff.1 hV2).1
  have hpl := hs.pl
  have hV1l : V.length ≤ V1.length := by omega
  refine SWp.seq (SWp.drawnT [] [7] (.s 0 .pl <| .s 1 .pl <| .s 2 .pl <| .s 3 .pl <| .s 4 .pl <| .s 5 .pl <| .s 6 .pl <| .s 7 .st <| .n) (by kernel_rfl) (by kernel_rfl) ?_)
  simp -implicitDefEqProofs [go_sem]
  refine CC.le (ys := [.sl .sh 3 ([w].map wrC)]) (.cons (.sh _ _ _) .nil) ?_
  refine CC.mono (CopyWrites_cc _ _ [w] (by simp) (fun x hx => by rw [List.mem_singleton] at hx; subst hx; exact hw)) ?_
  rintro _ _ _ ⟨v2, rfl, rfl, rfl⟩
  simp -implicitDefEqProofs [go_sem]
  refine ⟨by rw [List.getElem?_append_left hkV]; exact hV2, by omega, ?_⟩
  refine SWp.seq (Wp.s ?_)
  simp -implicitDefEqProofs [go_sem]
  refine CC.le (ys := [.sl .sh 1 (s.img.map imE), .sl .sh 3 ([w].map wrC)]) (.cons (.refl _) (.cons (.sh _ _ _) .nil)) ?_
  have hw1 : ∀ x ∈ [w], x.data.length ≤ 1000000000 := fun x hx => by
    rw [List.mem_singleton] at hx; subst hx; omega
  refine CC.mono (rApply_cc _ _ s.img [w] (by have := hs.il; omega) (by simp) hw1) ?_
  rintro _ _ _ ⟨rfl, rfl, rfl⟩
  rw [apR_one (by rw [hok.im]; exact hok.sz) (by rw [hok.im]; exact h1)]
  simp -implicitDefEqProofs [go_sem, apV]
  refine SWp.seq (Wp.s ?_)
  simp -implicitDefEqProofs [go_sem]
  refine ⟨rfl, ?_⟩
  refine Wp.s ?_
  simp -implicitDefEqProofs [go_sem]
  rw [hwv]
  have hsn : List.map wrC s.pend ++ [wrC w] = (s.pend ++ [w]).map wrC := by rw [List.map_append]; rfl
  rw [hsn]
  refine Fin.pu ?_ (okV_wtV _ _ _) hokH (by simp) (by first | (rw [List.take_set_of_le hV3, List.take_append_of_le_length hV1l]; exact hV1) | (rw [List.take_append_of_le_length (by simpa using hV1l), List.take_set_of_le hV3]; exact hV1))
  refine .tup (.cons (.agg ?_) (.cons (.refl _) (.cons (.refl _) (.cons (.refl _) .nil))))
  show LeL [.sl .sh 1 (s.sizes.map ic), .v (.int .i64 j.start), .v (.int .i64 j.count), .v (.int .i64 j.head), .v (.int .i64 j.tail), .v (.int .i64 j.first), .sl .sh 1 (j.sizes.map ic), .v (.int .i64 s.data), .v (.int .i64 s.applied), .sl (.own k (v + 1)) 3 ((s.pend ++ [w]).map wrC), .sl .sh 1 ((ap1 s.img w).map imE)] _
  exact .cons (.refl _) (.cons (.refl _) (.cons (.refl _) (.cons (.refl _) (.cons (.refl _) (.cons (.refl _) (.cons (.refl _) (.cons (.refl _) (.cons (.refl _) (.cons (.sh _ _ _) (.cons (.refl _) .nil))))))))))
end Go.Proofs.YtbnkggbpocaaiaaGreatDoor
namespace Go.Proofs.YtbnkggbpocaaiaaGreatDoor
open Go.Proofs
theorem appJ_jl {j : Jrn} {k : Int} {p : List UInt8} (hl : j.sizes.length ≤ 1000000) : (appJ j k p).1.sizes.length ≤ 1000000000 := by
  by_cases h : chkJ j = true
  case neg => rw [appJ_bad h]; exact Nat.zero_le _
  cases he : encR ⟨k, nextJ j, p⟩ with
  | error e => rw [appJ_err h he]; exact Nat.zero_le _
  | ok l =>
    by_cases h1 : 1073741824 ≤ nextJ j
    · rw [appJ_many h he h1]; exact Nat.zero_le _
    by_cases h2 : freeJ j < l.length
    · rw [appJ_full h he h1 h2]; exact Nat.zero_le _
    rw [appJ_ok h he h1 h2]
    simp; omega
theorem wrapW_dl {s c p : Int} {l : List Sec} {n : Nat} (hl : l.length ≤ n) : ∀ o ∈ wrapW s c p l, o.data.length ≤ n := by
  by_cases h : kW c p l < l.length
  · rw [wrapW_1 h]
    intro o ho
    simp only [List.mem_cons, List.not_mem_nil, or_false] at ho
    rcases ho with rfl | rfl
    · show (l.take _).length ≤ n; rw [List.length_take]; omega
    · show (l.drop _).length ≤ n; rw [List.length_drop]; omega
  · rw [wrapW_0 h]
    intro o ho
    obtain rfl : o = _ := by simpa using ho
    show (l.take _).length ≤ n; rw [List.length_take]; omega
theorem appJ_ol (j : Jrn) (k : Int) (p : List UInt8) : (appJ j k p).2.1.length ≤ 900000000 ∧ ∀ o ∈ (appJ j k p).2.1, o.data.length ≤ 900000000 := by
  by_cases h : chkJ j = true
  case neg => rw [appJ_bad h]; exact ⟨Nat.zero_le _, by simp⟩
  cases he : encR ⟨k, nextJ j, p⟩ with
  | error e => rw [appJ_err h he]; exact ⟨Nat.zero_le _, by simp⟩
  | ok l =>
    have hle := enc_le he
    by_cases h1 : 1073741824 ≤ nextJ j
    · rw [appJ_many h he h1]; exact ⟨Nat.zero_le _, by simp⟩
    by_cases h2 : freeJ j < l.length
    · rw [appJ_full h he h1 h2]; exact ⟨Nat.zero_le _, by simp⟩
    rw [appJ_ok h he h1 h2]
    have := wrapW_len j.start j.count j.tail l
    refine ⟨by simp; omega, fun o ho => ?_⟩
    rcases List.mem_append.1 ho with ho | ho
    · exact wrapW_dl (by omega) o ho
    · obtain rfl : o = opS := by simpa using ho
      exact Nat.zero_le _
end Go.Proofs.YtbnkggbpocaaiaaGreatDoor
namespace Go.Proofs.YtbnkggbpocaaiaaGreatDoor
open Go.Proofs
theorem ap1_iv {l : Img} {w : Wr} {n : Nat} (hf : fitsS (imgSz l) w = 0) (h : ∀ v ∈ l, v.length ≤ n) : ∀ v ∈ ap1 l w, v.length ≤ n := fun v hv => by
  have e := ap1_sz hf
  have : v.length ∈ (ap1 l w).map List.length := List.mem_map.2 ⟨v, hv, rfl⟩
  rw [e] at this
  obtain ⟨u, hu, he⟩ := List.mem_map.1 this
  have := h u hu; omega
theorem writeV_S {s : Sto} {w : Wr} (hs : StS s) (hf : s.pend.length ≤ 1000) (hj : s.jr.sizes.length ≤ 1000) (hw : w.data.length ≤ 1000000) : StS (writeV s w).1 := by
  have hJ := appJ_jl (j := s.jr) (k := 1) (p := encWrs [w]) (by omega)
  unfold writeV
  split
  · exact zsto_S
  rename_i q0
  split
  · exact zsto_S
  rename_i q1
  split
  · exact zsto_S
  have hok := chkV_ok (s := s) (by simpa using q0)
  have hfit : fitsS (imgSz s.img) w = 0 := by rw [hok.im]; simpa using q1
  refine ⟨hs.sl, hJ, by simp; omega, fun x hx => ?_, by rw [ap1_len]; exact hs.il, ap1_iv hfit hs.iv⟩
  rcases List.mem_append.1 hx with hx | hx
  · exact hs.pd x hx
  · rw [List.mem_singleton] at hx; subst hx; exact hw
theorem writeV_O (s : Sto) (w : Wr) : (writeV s w).2.2.1.length ≤ 900000000 ∧ ∀ o ∈ (writeV s w).2.2.1, o.data.length ≤ 900000000 := by
  obtain ⟨o1, o2⟩ := appJ_ol s.jr 1 (encWrs [w])
  unfold writeV
  split
  · exact ⟨by simp, fun o ho => by cases ho⟩
  split
  · exact ⟨by simp, fun o ho => by cases ho⟩
  split
  · exact ⟨by simp, fun o ho => by cases ho⟩
  exact ⟨o1, o2⟩
set_option maxRecDepth 8000 in
theorem VWrites_law (H : Hp) (V : List Nat) (s : Sto) (w : Wr) (hp : s.pend.length ≤ 9223372036854775807) : CC Tryz.prog 4 [.agg (stoC s), .agg (wrC w)] H V (Pu (cb true) H V) := by
  refine CC.of_swp Tryz.func4 rfl (by kernel_rfl) (by rw [Tryz.ntmps4]; exact len_le _ _ rfl) fun hok hokH => ?_
  clear hok
  refine SWp.seq (Wp.s ?_)
  simp -implicitDefEqProofs [go_sem, args0]
  refine SWp.seq (Wp.s ?_)
  simp -implicitDefEqProofs [go_sem]
  refine CC.mono (fewV_cc _ _ s hp) ?_
  rintro _ _ _ ⟨rfl, rfl, rfl⟩
  have aw : ∀ (H0 : Hp) (V0 : List Nat), CC Tryz.prog 11 [] H0 V0 (Pu (cb true) H0 V0) := fun H0 V0 => vawake_cc H0 V0
  cases hf : fewV s with
  | false =>
    simp -implicitDefEqProofs [go_sem]
    refine CC.mono (aw _ _) ?_
    rintro _ _ _ ⟨rfl, rfl, rfl⟩
    simp -implicitDefEqProofs [go_sem]
    exact Fin.bool rfl hokH (by simp) (by simp)
  | true =>
    by_cases hw : 600 < w.data.length
    · have hw' : 600 < (w.data.length : Int) := by omega
      simp -implicitDefEqProofs [go_sem, hw']
      refine CC.mono (aw _ _) ?_
      rintro _ _ _ ⟨rfl, rfl, rfl⟩
      simp -implicitDefEqProofs [go_sem]
      exact Fin.bool rfl hokH (by simp) (by simp)
    have hw' : ¬ 600 < (w.data.length : Int) := by omega
    have hs := fewV_S hf
    obtain ⟨hpl, hjl⟩ : s.pend.length ≤ 1000 ∧ s.jr.sizes.length ≤ 1000 := by
      simp only [fewV, fewW, Bool.and_eq_true, decide_eq_true_eq] at hf
      exact ⟨by omega, by omega⟩
    have hWS := writeV_S hs hpl hjl (w := w) (by omega)
    have hWO := writeV_O s w
    simp -implicitDefEqProofs [go_sem, hw']
    refine SWp.seq (Wp.s ?_)
    simp -implicitDefEqProofs [go_sem]
    refine CC.mono (vWrite_cc _ _ s w hs (by omega)) ?_
    rintro _ _ _ ⟨rfl, rfl, rfl⟩
    simp -implicitDefEqProofs [go_sem, wtV]
    refine SWp.seq (Wp.s ?_)
    simp -implicitDefEqProofs [go_sem]
    refine CC.mono (rvWrite_cc _ _ s w hs (by omega)) ?_
    rintro _ _ _ ⟨rfl, rfl, rfl⟩
    simp -implicitDefEqProofs [go_sem, wtV]
    generalize writeV s w = x at hWS hWO ⊢
    obtain ⟨s', q, A, e⟩ := x
    dsimp only at hWS hWO ⊢
    refine SWp.seq (SWp.drawnT [] [] (.s 0 .pl <| .s 1 .pl <| .s 2 .pl <| .s 4 .pl <| .s 3 .pl <| .s 5 .pl <| .s 6 .pl <| .s 7 .pl <| .s 8 .pl <| .s 9 .pl <| .s 10 .pl <| .s 11 .pl <| .s 12 .pl <| .s 13 .pl <| .s 14 .pl <| .s 15 .pl <| .s 16 .pl <| .s 17 .pl <| .s 18 .pl <| .s 19 .pl <| .s 20 .pl <| .s 21 .pl <| .s 22 .pl <| .s 23 .pl <| .s 24 .pl <| .s 25 .pl <| .s 26 .pl <| .s 27 .pl <| .s 28 .pl <| .n) (by kernel_rfl) (by kernel_rfl) ?_)
    simp -implicitDefEqProofs [go_sem]
    refine CC.mono (aw _ _) ?_
    rintro _ _ _ ⟨rfl, rfl, rfl⟩
    simp -implicitDefEqProofs [go_sem]
    refine CC.mono (vCheck_cc _ _ s hs) ?_
    rintro _ _ _ ⟨rfl, rfl, rfl⟩
    simp -implicitDefEqProofs [go_sem]
    refine CC.mono (rvCheck_cc _ _ s hs) ?_
    rintro _ _ _ ⟨rfl, rfl, rfl⟩
    simp -implicitDefEqProofs [go_sem]
    refine CC.mono (vSame_cc _ _ s' hWS) ?_
    rintro _ _ _ ⟨rfl, rfl, rfl⟩
    simp -implicitDefEqProofs [go_sem]
    refine CC.mono (sSameOps_cc _ _ .sh .sh A (by omega) (fun o ho => hWO.2 o ho)) ?_
    rintro _ _ _ ⟨rfl, rfl, rfl⟩
    simp -implicitDefEqProofs [go_sem]
    refine Wp.s ?_
    simp -implicitDefEqProofs [go_sem]
    exact Fin.bool rfl hokH (by simp) (by simp)
end Go.Proofs.YtbnkggbpocaaiaaGreatDoor
namespace Go.Proofs.YtbnkggbpocaaiaaGreatDoor
open Go.Proofs
theorem opens_stoB : Opens Tryz.prog 37 fun cs => ∃ x : Sto, cs = stoC x ∧ x.pend.length ≤ 9223372036854775807 :=
  (Opens.struct Tryz.underlying37 (N := 11) (by kernel_rfl) (.cons rfl (n := 1) (by kernel_rfl) opens_ints (.cons rfl (n := 6) (by kernel_rfl) opens_jrn (.cons rfl (n := 1) (by kernel_rfl) opens_int (.cons rfl (n := 1) (by kernel_rfl) opens_int (.cons rfl (n := 1) (by kernel_rfl) opens_wrs (.cons rfl (n := 1) (by kernel_rfl) opens_img .nil))))))).mono fun cs h => by
    obtain ⟨_, _, rfl, ⟨a, rfl, _⟩, _, _, rfl, ⟨b, rfl⟩, _, _, rfl, ⟨c, rfl⟩, _, _, rfl, ⟨d, rfl⟩, _, _, rfl, ⟨e, rfl, he⟩, _, _, rfl, ⟨f, rfl, _⟩, rfl⟩ := h
    exact ⟨⟨a, b, c, d, e, f⟩, rfl, Nat.le_trans he (by decide)⟩
theorem opens_cach : Opens Tryz.prog 205 fun cs => ∃ x, cs = cachC x :=
  (Opens.struct Tryz.underlying205 (N := 9) (by kernel_rfl) (.cons rfl (n := 1) (by kernel_rfl) opens_int (.cons rfl (n := 8) (by kernel_rfl) opens_sec .nil))).mono fun cs h => by
    obtain ⟨_, _, rfl, ⟨a, rfl⟩, _, _, rfl, ⟨b, rfl⟩, rfl⟩ := h
    exact ⟨⟨a, b⟩, by rw [List.append_nil]; rfl⟩
theorem opens_cachs : Opens Tryz.prog 58 fun cs => ∃ l : List Cach, cs = [.sl .sh 9 (l.map cachC)] ∧ l.length ≤ maxLen := opens_sl Tryz.underlying58 (by kernel_rfl) (by decide) opens_cach
theorem opens_dk : Opens Tryz.prog 60 fun cs => ∃ d, cs = dkC d :=
  (Opens.struct Tryz.underlying60 (N := 2) (by kernel_rfl) (.cons rfl (n := 1) (by kernel_rfl) opens_secs (.cons rfl (n := 1) (by kernel_rfl) opens_cachs .nil))).mono fun cs h => by
    obtain ⟨_, _, rfl, ⟨a, rfl, _⟩, _, _, rfl, ⟨b, rfl, _⟩, rfl⟩ := h
    exact ⟨⟨a, b⟩, rfl⟩
end Go.Proofs.YtbnkggbpocaaiaaGreatDoor
