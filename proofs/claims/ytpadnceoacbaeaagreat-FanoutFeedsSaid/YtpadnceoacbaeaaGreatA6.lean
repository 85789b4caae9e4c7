import Derived.Test.YtpadnceoacbaeaaGreatA5
set_option linter.unusedSimpArgs false
set_option linter.unusedVariables false
set_option linter.unusedSectionVars false
namespace Go.Proofs.YtpadnceoacbaeaaGreat
open Go.Proofs
theorem CopR.elim {f : Fan} {G0 : Hp} {V : List Nat} {r : CV} {G : Hp} {V' : List Nat} (h : CopR f G0 V r G V') : ∃ b1 b2 v X, r = .agg [ci f.limit, .sl (.own V.length v) 5 (f.kept.map cycC), .bsl b1 0 f.app.length 1, .bsl b2 0 f.app.length 1] ∧ G = G0 ++ X ∧ V' = V ++ [v] ∧ G[b1]? = some (some (f.app.map ci)) ∧ G[b2]? = some (some (f.lost.map cbo)) ∧ b1 ≠ b2 ∧ G0.length ≤ b1 ∧ G0.length ≤ b2 := by
  obtain ⟨X, i, j, v, h1, h2, h3, h4, h5, h6⟩ := h
  subst h2
  exact ⟨_, _, v, X, h1, rfl, h3, by rw [hget]; exact h4, by rw [hget]; exact h5, by omega, by omega, by omega⟩
theorem CopR.zero {f : Fan} {H G X : Hp} (h : G = (H ++ [some (fanC f), some fanZ]) ++ X) : G[H.length + 1]? = some (some fanZ) ∧ G.take H.length = H ∧ H.length + 2 ≤ G.length := by
  subst h
  rw [List.append_assoc]
  refine ⟨by rw [hget]; rfl, by simp, by simp⟩
theorem set_ci {l : List Int} {k : Nat} (h : k < l.length) (n : Int) : List.take k (l.map ci) ++ ci n :: List.drop (k + 1) (l.map ci) = (l.set k n).map ci := by
  rw [List.map_set, List.set_eq_take_append_cons_drop, if_pos (by simpa using h)]
theorem set_cbo {l : List Bool} {k : Nat} (h : k < l.length) (n : Bool) : List.take k (l.map cbo) ++ cbo n :: List.drop (k + 1) (l.map cbo) = (l.set k n).map cbo := by
  rw [List.map_set, List.set_eq_take_append_cons_drop, if_pos (by simpa using h)]
theorem set_mci (l : List Int) (k : Nat) (n : Int) : (l.map ci).set k (ci n) = (l.set k n).map ci := List.map_set.symm
theorem set_mcbo (l : List Bool) (k : Nat) (n : Bool) : (l.map cbo).set k (cbo n) = (l.set k n).map cbo := List.map_set.symm
theorem Kp_tail {G1 G2 L : Hp} {n : Nat} (h1 : G1.length = n) (h2 : G2.length = n) : Kp [n] (G1 ++ L) (G2 ++ L) := Kp_one (by
  rw [List.getElem?_append_right (by omega), List.getElem?_append_right (by omega), h1, h2])
theorem chunk_ci (l : List Int) (n : Nat) (h : l.length = n) : chunks 1 n ((l.map ci).drop 0) = l.map ic := by
  have := chunks_1 (l.map ci)
  rw [List.length_map, h] at this
  rw [List.drop_zero, this, map_ci]
theorem chunk_bo (l : List Bool) (n : Nat) (h : l.length = n) : chunks 1 n ((l.map cbo).drop 0) = l.map boE := by
  have := chunks_1 (l.map cbo)
  rw [List.length_map, h] at this
  rw [List.drop_zero, this, map_cbo]
theorem chkF_pre {f : Fan} (h : chkF f = 0) : PreF f := by
  unfold chkF at h
  split at h
  · cases h
  · split at h
    · cases h
    · split at h
      · cases h
      · exact ⟨by assumption, by assumption, by assumption⟩
theorem chkF_lens {f : Fan} (h : chkF f = 0) : 1 ≤ f.app.length ∧ f.app.length ≤ 4 ∧ f.lost.length = f.app.length ∧ 1 ≤ f.limit ∧ f.limit ≤ 1024 ∧ f.kept.length ≤ 1024 := by
  obtain ⟨a, b, c⟩ := chkF_pre h
  have : ¬ (f.limit < 1 ∨ 1024 < f.limit) := fun q => b (by rcases q with q | q; exact .inl q; exact .inr (.inl q))
  omega
theorem chkF_cp {f : Fan} (h : chkF f = 0) : CpOk f := by
  have := chkF_lens h
  refine ⟨fun q => ?_, fun q => ?_, by omega⟩
  · rw [q] at this; simp at this
  · rw [q] at this; simp at this; omega
theorem chkF_ok {f : Fan} (hs : Sm f) (h : chkF f = 0) : FanOk f := by
  obtain ⟨a, b, c⟩ := chkF_pre h
  refine FanOk.of hs (by omega) ?_
  cases q : f.app.any badTime with
  | true => exact absurd (.inr (.inr q)) b
  | false => rfl
theorem existsF_chk {f : Fan} {t : Int} (h : chkF f ≠ 0) : existsF f t = chkF f := by rw [existsF, if_pos h]
theorem existsF_out {f : Fan} {t : Int} (h : chkF f = 0) (ht : t < 0 ∨ (f.app.length : Int) ≤ t) : existsF f t = 7 := by rw [existsF, if_neg (by simp [h]), if_pos ht]
theorem existsF_in {f : Fan} {t : Int} (h : chkF f = 0) (ht : ¬ (t < 0 ∨ (f.app.length : Int) ≤ t)) : existsF f t = 0 := by rw [existsF, if_neg (by simp [h]), if_neg ht]
theorem existsF_0 {f : Fan} {t : Int} (h : existsF f t = 0) : chkF f = 0 ∧ ∃ k : Nat, t = k ∧ k < f.app.length ∧ k < f.lost.length := by
  unfold existsF at h
  split at h
  · rename_i q; exact absurd h q
  · split at h
    · cases h
    · rename_i q1 q2
      have q1 : chkF f = 0 := by simpa using q1
      have := chkF_lens q1
      exact ⟨q1, t.toNat, by omega, by omega, by omega⟩
theorem exists_cc (H : Hp) (V : List Nat) (f : Fan) (t : Int) (hs : Sm f) : CC Tryz.prog 51 [.agg (fanC f), ci t] H V (Pu (er (existsF f t)) H V) := by
  refine CC.of_swp Tryz.func51 rfl (by kernel_rfl) (by rw [Tryz.ntmps51]; exact len_le _ _ rfl) fun hok hokH => ?_
  clear hok
  refine SWp.seq (Wp.s ?_)
  simp -implicitDefEqProofs [go_sem, args0]
  refine SWp.seq (SWp.seq (Wp.s ?_))
  simp -implicitDefEqProofs [go_sem]
  refine CC.mono (Check_cc _ _ f hs) ?_
  rintro _ _ _ ⟨rfl, rfl, rfl⟩
  by_cases hc : chkF f = 0
  case neg =>
    simp -implicitDefEqProofs [go_sem, hc]
    refine Wp.s ?_
    simp -implicitDefEqProofs [go_sem, hc]
    exact Fin.er (existsF_chk hc) hokH (by simp) (by simp)
  simp -implicitDefEqProofs [go_sem, hc]
  refine Wp.s ?_
  simp -implicitDefEqProofs [go_sem, hc]
  refine SWp.seq (SWp.seq (Wp.s ?_))
  by_cases h1 : t < 0
  · simp -implicitDefEqProofs [go_sem, h1]
    refine Wp.s ?_
    simp -implicitDefEqProofs [go_sem]
    exact Fin.er (existsF_out hc (.inl h1)) hokH (by simp) (by simp)
  by_cases h2 : (f.app.length : Int) ≤ t
  · simp -implicitDefEqProofs [go_sem, h1, h2]
    refine Wp.s ?_
    simp -implicitDefEqProofs [go_sem]
    exact Fin.er (existsF_out hc (.inr h2)) hokH (by simp) (by simp)
  simp -implicitDefEqProofs [go_sem, h1, h2]
  refine Wp.s ?_
  simp -implicitDefEqProofs [go_sem]
  refine Wp.s ?_
  simp -implicitDefEqProofs [go_sem]
  exact Fin.er (existsF_in hc (by omega)) hokH (by simp) (by simp)
theorem getD_at {α : Type} {l : List α} {k : Nat} (h : k < l.length) (d : α) : l.getD k d = l[k] := by rw [List.getD_eq_getElem?_getD, List.getElem?_eq_getElem h, Option.getD_some]
theorem getD_atI {α : Type} {l : List α} {k : Nat} (h : k < l.length) (d : α) : l.getD ((k : Int)).toNat d = l[k] := getD_at h d
theorem appF_in {f : Fan} {k : Nat} {n : Int} (h : existsF f k = 0) (h1 : k < f.app.length) (h2 : k < f.lost.length) : appF f k n = if f.lost[k] = true then .error 17 else if n < f.app[k] then .error 2 else if n ≠ f.app[k] ∧ numF f n = false then .error 15 else .ok (tidyF ⟨f.limit, f.kept, f.app.set k n, f.lost⟩) := by
  rw [appF, if_neg (by simp [h]), getD_atI h2, getD_atI h1]; rfl
theorem loseF_in {f : Fan} {k : Nat} (h : existsF f k = 0) (h2 : k < f.lost.length) : loseF f k = if f.lost[k] = true then .error 8 else .ok (tidyF ⟨f.limit, f.kept, f.app, f.lost.set k true⟩) := by
  rw [loseF, if_neg (by simp [h]), getD_atI h2]; rfl
theorem joinF_in {f : Fan} {k : Nat} {n : Int} (h : existsF f k = 0) (h2 : k < f.lost.length) : joinF f k n = if f.lost[k] = false then .error 12 else if 0 ≤ leastF f ∧ bndF f n = false then .error 15 else if leastF f < 0 ∧ (n < newF f ∨ 1073741824 < n) then .error 2 else .ok ⟨f.limit, f.kept, f.app.set k n, f.lost.set k false⟩ := by
  rw [joinF, if_neg (by simp [h]), getD_atI h2]; rfl
theorem Sm.mk' {f : Fan} (hs : Sm f) {a : List Int} {l : List Bool} (h1 : a.length = f.app.length) (h2 : l.length = f.lost.length) : Sm ⟨f.limit, f.kept, a, l⟩ := ⟨hs.kl, by rw [h1]; exact hs.al, by rw [h2]; exact hs.ll, hs.kc⟩
theorem Lose_cc (H : Hp) (V : List Nat) (f : Fan) (t : Int) (hs : Sm f) : CC Tryz.prog 20 [.agg (fanC f), ci t] H V (Pu (dvF (loseF f t)) H V) := by
  refine CC.of_swp Tryz.func20 rfl (by kernel_rfl) (by rw [Tryz.ntmps20]; exact len_le _ _ rfl) fun hok hokH => ?_
  clear hok
  have stop : ∀ {e : Nat} {H' : Hp} {V' : List Nat}, loseF f t = .error e → H'.take H.length = H → V'.take V.length = V → Fin H.length V.length (Pu (dvF (loseF f t)) H V) (.tup [.agg fanZ, er e]) H' V' := fun h1 h2 h3 => by
    rw [h1]; exact Fin.pu (.tup (.cons Le_zfan (.cons (.refl _) .nil))) (by simp [go_sem, dvF]) hokH h2 h3
  refine SWp.seq (Wp.s ?_)
  simp -implicitDefEqProofs [go_sem, args0]
  refine SWp.seq (SWp.seq (Wp.s ?_))
  simp -implicitDefEqProofs [go_sem]
  refine CC.mono (exists_cc _ _ f t hs) ?_
  rintro _ _ _ ⟨rfl, rfl, rfl⟩
  by_cases hx : existsF f t = 0
  case neg =>
    simp -implicitDefEqProofs [go_sem, hx]
    refine Wp.s ?_
    simp -implicitDefEqProofs [go_sem, hx]
    exact stop (by rw [loseF, if_pos hx]) (by simp) (by simp)
  simp -implicitDefEqProofs [go_sem, hx]
  refine Wp.s ?_
  simp -implicitDefEqProofs [go_sem, hx]
  obtain ⟨hc, k, rfl, hk1, hk2⟩ := existsF_0 hx
  have hl : f.lost.length = f.app.length := (chkF_lens hc).2.2.1
  have e0 := loseF_in hx hk2
  refine SWp.seq (SWp.seq (Wp.s ?_))
  cases hb : f.lost[k] with
  | true =>
    rw [if_pos hb] at e0
    simp -implicitDefEqProofs [go_sem, hk2, hb]
    refine Wp.s ?_
    simp -implicitDefEqProofs [go_sem]
    exact stop (e0) (by simp) (by simp)
  | false =>
  rw [if_neg (by simp [hb])] at e0
  simp -implicitDefEqProofs [go_sem, hk2, hb]
  refine Wp.s ?_
  simp -implicitDefEqProofs [go_sem]
  refine SWp.seq (Wp.s ?_)
  simp -implicitDefEqProofs [go_sem]
  refine CC.mono (copied_cc _ _ f hs (chkF_cp hc)) ?_
  rintro _ G _ hR
  obtain ⟨b1, b2, v, X, rfl, hX, rfl, g1, g2, hne, l1, l2⟩ := hR.elim
  obtain ⟨gz, gt, gl⟩ := CopR.zero hX
  rw [List.length_append] at l1 l2
  simp only [List.length_cons, List.length_nil] at l1 l2
  simp -implicitDefEqProofs [go_sem]
  refine SWp.seq (Wp.s ?_)
  simp -implicitDefEqProofs [go_sem, hbx_of (at_old _ [some [ci f.limit, .sl (.own V.length v) 5 (f.kept.map cycC), .bsl b1 0 f.app.length 1, .bsl b2 0 f.app.length 1]] g2), set_old _ _ _ g2, hk1, hk2, show k + 1 ≤ f.lost.length by omega, set_cbo hk2 true]
  refine SWp.seq (Wp.s ?_)
  simp -implicitDefEqProofs [go_sem]
  refine CC.letFan (app := f.app) (lost := (f.lost.set k true)) (by simp) (by simp [hl]) (by rw [List.getElem?_append_left (by simp; exact (List.getElem?_eq_some_iff.1 g1).1), List.getElem?_set_ne (by omega)]; exact g1) (by rw [List.getElem?_append_left (by simp; exact (List.getElem?_eq_some_iff.1 g2).1), List.getElem?_set_self (List.getElem?_eq_some_iff.1 g2).1, List.map_set]) hne ?_
  refine CC.mono (tidy_cc _ _ ⟨f.limit, f.kept, f.app, (f.lost.set k true)⟩ (hs.mk' (by simp) (by simp)) (by simp [hl])) ?_
  rintro _ K _ ⟨rfl, hK, rfl⟩
  have kz : K[H.length + 1]? = some (some fanZ) := by
    rw [← hK, List.getElem?_set_ne (by omega), List.getElem?_set_ne (by omega), List.getElem?_append_left (by simp; omega)]
    simpa [List.getElem?_set_ne (show b1 ≠ H.length + 1 by omega), List.getElem?_set_ne (show b2 ≠ H.length + 1 by omega)] using gz
  have kl : H.length + 1 < K.length := (List.getElem?_eq_some_iff.1 kz).1
  have kt : K.take H.length = H := by
    rw [← hK, List.take_set_of_le (by omega), List.take_set_of_le (by omega), List.take_append_of_le_length (by simp; omega)]
    simpa [List.take_set_of_le (show H.length ≤ b1 by omega), List.take_set_of_le (show H.length ≤ b2 by omega)] using gt
  simp -implicitDefEqProofs [go_sem, hbx_of kz]
  refine ⟨by decide, ?_⟩
  refine Wp.s ?_
  simp -implicitDefEqProofs [go_sem, hbx_s kl]
  rw [e0]
  exact Fin.pu (r0 := dvF (.ok _)) (.tup (.cons (.refl _) (.cons (.refl _) .nil))) (by simp [go_sem, dvF]) hokH (by rw [List.take_set_of_le (show H.length ≤ H.length + 1 by omega)]; exact kt) (by simp)
theorem refLose_cc (H : Hp) (V : List Nat) (f : Fan) (t : Int) (hs : Sm f) : CC Tryz.prog 21 [.agg (fanC f), ci t] H V (Pu (dvF (loseF f t)) H V) := by
  refine CC.of_swp Tryz.func21 rfl (by kernel_rfl) (by rw [Tryz.ntmps21]; exact len_le _ _ rfl) fun hok hokH => ?_
  clear hok
  have stop : ∀ {e : Nat} {H' : Hp} {V' : List Nat}, loseF f t = .error e → H'.take H.length = H → V'.take V.length = V → Fin H.length V.length (Pu (dvF (loseF f t)) H V) (.tup [.agg fanZ, er e]) H' V' := fun h1 h2 h3 => by
    rw [h1]; exact Fin.pu (.tup (.cons Le_zfan (.cons (.refl _) .nil))) (by simp [go_sem, dvF]) hokH h2 h3
  refine SWp.seq (Wp.s ?_)
  simp -implicitDefEqProofs [go_sem, args0]
  refine SWp.seq (SWp.seq (Wp.s ?_))
  simp -implicitDefEqProofs [go_sem]
  refine CC.mono (refCheck_cc _ _ f hs) ?_
  rintro _ _ _ ⟨rfl, rfl, rfl⟩
  by_cases hc : chkF f = 0
  case neg =>
    simp -implicitDefEqProofs [go_sem, hc]
    refine Wp.s ?_
    simp -implicitDefEqProofs [go_sem, hc]
    exact stop (by rw [loseF, existsF_chk hc, if_pos hc]) (by simp) (by simp)
  simp -implicitDefEqProofs [go_sem, hc]
  refine Wp.s ?_
  simp -implicitDefEqProofs [go_sem, hc]
  refine SWp.seq (SWp.seq (Wp.s ?_))
  by_cases h1 : t < 0
  · simp -implicitDefEqProofs [go_sem, h1]
    refine Wp.s ?_
    simp -implicitDefEqProofs [go_sem]
    exact stop (by rw [loseF, existsF_out hc (.inl h1), if_pos (by decide)]) (by simp) (by simp)
  by_cases h2 : (f.app.length : Int) ≤ t
  · simp -implicitDefEqProofs [go_sem, h1, h2]
    refine Wp.s ?_
    simp -implicitDefEqProofs [go_sem]
    exact stop (by rw [loseF, existsF_out hc (.inr h2), if_pos (by decide)]) (by simp) (by simp)
  simp -implicitDefEqProofs [go_sem, h1, h2]
  refine Wp.s ?_
  simp -implicitDefEqProofs [go_sem]
  have hx := existsF_in hc (t := t) (by omega)
  obtain ⟨_, k, rfl, hk1, hk2⟩ := existsF_0 hx
  have hl : f.lost.length = f.app.length := (chkF_lens hc).2.2.1
  have e0 := loseF_in hx hk2
  refine SWp.seq (SWp.seq (Wp.s ?_))
  cases hb : f.lost[k] with
  | true =>
    rw [if_pos hb] at e0
    simp -implicitDefEqProofs [go_sem, hk2, hb]
    refine Wp.s ?_
    simp -implicitDefEqProofs [go_sem]
    exact stop (e0) (by simp) (by simp)
  | false =>
  rw [if_neg (by simp [hb])] at e0
  simp -implicitDefEqProofs [go_sem, hk2, hb]
  refine Wp.s ?_
  simp -implicitDefEqProofs [go_sem]
  refine SWp.seq (Wp.s ?_)
  simp -implicitDefEqProofs [go_sem]
  refine CC.mono (refCopy_cc _ _ f hs (chkF_cp hc)) ?_
  rintro _ G _ hR
  obtain ⟨b1, b2, v, X, rfl, hX, rfl, g1, g2, hne, l1, l2⟩ := hR.elim
  obtain ⟨gz, gt, gl⟩ := CopR.zero hX
  rw [List.length_append] at l1 l2
  simp only [List.length_cons, List.length_nil] at l1 l2
  simp -implicitDefEqProofs [go_sem]
  refine SWp.seq (Wp.s ?_)
  simp -implicitDefEqProofs [go_sem, hbx_of (at_old _ [some [ci f.limit, .sl (.own V.length v) 5 (f.kept.map cycC), .bsl b1 0 f.app.length 1, .bsl b2 0 f.app.length 1]] g2), set_old _ _ _ g2, hk1, hk2, show k + 1 ≤ f.lost.length by omega, set_cbo hk2 true]
  refine SWp.seq (Wp.s ?_)
  simp -implicitDefEqProofs [go_sem]
  refine CC.letFan (app := f.app) (lost := (f.lost.set k true)) (by simp) (by simp [hl]) (by rw [List.getElem?_append_left (by simp; exact (List.getElem?_eq_some_iff.1 g1).1), List.getElem?_set_ne (by omega)]; exact g1) (by rw [List.getElem?_append_left (by simp; exact (List.getElem?_eq_some_iff.1 g2).1), List.getElem?_set_self (List.getElem?_eq_some_iff.1 g2).1, List.map_set]) hne ?_
  refine CC.mono (refTidy_cc _ _ ⟨f.limit, f.kept, f.app, (f.lost.set k true)⟩ (hs.mk' (by simp) (by simp)) (by simp [hl])) ?_
  rintro _ K _ ⟨rfl, hK, rfl⟩
  have kz : K[H.length + 1]? = some (some fanZ) := by
    rw [← hK, List.getElem?_set_ne (by omega), List.getElem?_set_ne (by omega), List.getElem?_append_left (by simp; omega)]
    simpa [List.getElem?_set_ne (show b1 ≠ H.length + 1 by omega), List.getElem?_set_ne (show b2 ≠ H.length + 1 by omega)] using gz
  have kl : H.length + 1 < K.length := (List.getElem?_eq_some_iff.1 kz).1
  have kt : K.take H.length = H := by
    rw [← hK, List.take_set_of_le (by omega), List.take_set_of_le (by omega), List.take_append_of_le_length (by simp; omega)]
    simpa [List.take_set_of_le (show H.length ≤ b1 by omega), List.take_set_of_le (show H.length ≤ b2 by omega)] using gt
  simp -implicitDefEqProofs [go_sem, hbx_of kz]
  refine ⟨by decide, ?_⟩
  refine Wp.s ?_
  simp -implicitDefEqProofs [go_sem, hbx_s kl]
  rw [e0]
  exact Fin.pu (r0 := dvF (.ok _)) (.tup (.cons (.refl _) (.cons (.refl _) .nil))) (by simp [go_sem, dvF]) hokH (by rw [List.take_set_of_le (show H.length ≤ H.length + 1 by omega)]; exact kt) (by simp)
theorem Applied_cc (H : Hp) (V : List Nat) (f : Fan) (t n : Int) (hs : Sm f) : CC Tryz.prog 18 [.agg (fanC f), ci t, ci n] H V (Pu (dvF (appF f t n)) H V) := by
  refine CC.of_swp Tryz.func18 rfl (by kernel_rfl) (by rw [Tryz.ntmps18]; exact len_le _ _ rfl) fun hok hokH => ?_
  clear hok
  have stop : ∀ {e : Nat} {H' : Hp} {V' : List Nat}, appF f t n = .error e → H'.take H.length = H → V'.take V.length = V → Fin H.length V.length (Pu (dvF (appF f t n)) H V) (.tup [.agg fanZ, er e]) H' V' := fun h1 h2 h3 => by
    rw [h1]; exact Fin.pu (.tup (.cons Le_zfan (.cons (.refl _) .nil))) (by simp [go_sem, dvF]) hokH h2 h3
  refine SWp.seq (Wp.s ?_)
  simp -implicitDefEqProofs [go_sem, args0]
  refine SWp.seq (SWp.seq (Wp.s ?_))
  simp -implicitDefEqProofs [go_sem]
  refine CC.mono (exists_cc _ _ f t hs) ?_
  rintro _ _ _ ⟨rfl, rfl, rfl⟩
  by_cases hx : existsF f t = 0
  case neg =>
    simp -implicitDefEqProofs [go_sem, hx]
    refine Wp.s ?_
    simp -implicitDefEqProofs [go_sem, hx]
    exact stop (by rw [appF, if_pos hx]) (by simp) (by simp)
  simp -implicitDefEqProofs [go_sem, hx]
  refine Wp.s ?_
  simp -implicitDefEqProofs [go_sem, hx]
  obtain ⟨hc, k, rfl, hk1, hk2⟩ := existsF_0 hx
  have hl : f.lost.length = f.app.length := (chkF_lens hc).2.2.1
  have e0 := appF_in (n := n) hx hk1 hk2
  refine SWp.join (α := Unit) (fun _ => ([(1, ci k), (2, ci n), (3, .ptr H.length 0), (6, .ptr (H.length + 1) 0)], H ++ [some (fanC f), some fanZ], V)) (fun _ => appF f k n = .ok (tidyF ⟨f.limit, f.kept, f.app.set k n, f.lost⟩)) ?_ ?_
  · refine SWp.block (SWp.seq (Wp.s ?_))
    cases hb : f.lost[k] with
    | true =>
      rw [if_pos hb] at e0
      simp -implicitDefEqProofs [go_sem, hk2, hb]
      refine Wp.s ?_
      simp -implicitDefEqProofs [go_sem]
      exact stop (e0) (by simp) (by simp)
    | false =>
    rw [if_neg (by simp [hb])] at e0
    by_cases c1 : n < f.app[k]
    · rw [if_pos c1] at e0
      simp -implicitDefEqProofs [go_sem, hk2, hb, hk1]
      refine Wp.s ?_
      simp -implicitDefEqProofs [go_sem, hk1, c1]
      exact stop (e0) (by simp) (by simp)
    rw [if_neg c1] at e0
    by_cases c2 : n = f.app[k]
    · rw [if_neg (by simp [c2])] at e0
      simp -implicitDefEqProofs [go_sem, hk2, hb, hk1]
      refine Wp.s ?_
      simp -implicitDefEqProofs [go_sem, hk1, c1, c2]
      subst c2
      exact ⟨by simpa using e0, Sh.forget (by simp [go_sem]) rfl rfl⟩
    simp -implicitDefEqProofs [go_sem, hk2, hb, hk1]
    refine Wp.s ?_
    simp -implicitDefEqProofs [go_sem, hk1, c1, c2]
    refine CC.mono (numbered_cc _ _ f n hs.kl) ?_
    rintro _ _ _ ⟨rfl, rfl, rfl⟩
    cases c3 : numF f n with
    | true =>
      rw [if_neg (by simp [c3])] at e0
      simp -implicitDefEqProofs [go_sem, hk1, c1, c2, c3]
      exact ⟨e0, Sh.forget (by simp [go_sem]) rfl rfl⟩
    | false =>
      rw [if_pos ⟨c2, c3⟩] at e0
      simp -implicitDefEqProofs [go_sem, hk1, c1, c2, c3]
      exact stop (e0) (by simp) (by simp)
  clear e0
  rintro _ e0
  dsimp only
  refine SWp.seq (Wp.s ?_)
  simp -implicitDefEqProofs [go_sem]
  refine CC.mono (copied_cc _ _ f hs (chkF_cp hc)) ?_
  rintro _ G _ hR
  obtain ⟨b1, b2, v, X, rfl, hX, rfl, g1, g2, hne, l1, l2⟩ := hR.elim
  obtain ⟨gz, gt, gl⟩ := CopR.zero hX
  rw [List.length_append] at l1 l2
  simp only [List.length_cons, List.length_nil] at l1 l2
  simp -implicitDefEqProofs [go_sem]
  refine SWp.seq (Wp.s ?_)
  simp -implicitDefEqProofs [go_sem, hbx_of (at_old _ [some [ci f.limit, .sl (.own V.length v) 5 (f.kept.map cycC), .bsl b1 0 f.app.length 1, .bsl b2 0 f.app.length 1]] g1), set_old _ _ _ g1, hk1, hk2, show k + 1 ≤ f.app.length by omega, set_ci hk1 n]
  refine SWp.seq (Wp.s ?_)
  simp -implicitDefEqProofs [go_sem]
  refine CC.letFan (app := (f.app.set k n)) (lost := f.lost) (by simp) (by simp [hl]) (by rw [List.getElem?_append_left (by simp; exact (List.getElem?_eq_some_iff.1 g1).1), List.getElem?_set_self (List.getElem?_eq_some_iff.1 g1).1, List.map_set]) (by rw [List.getElem?_append_left (by simp; exact (List.getElem?_eq_some_iff.1 g2).1), List.getElem?_set_ne (by omega)]; exact g2) hne ?_
  refine CC.mono (tidy_cc _ _ ⟨f.limit, f.kept, (f.app.set k n), f.lost⟩ (hs.mk' (by simp) (by simp)) (by simp [hl])) ?_
  rintro _ K _ ⟨rfl, hK, rfl⟩
  have kz : K[H.length + 1]? = some (some fanZ) := by
    rw [← hK, List.getElem?_set_ne (by omega), List.getElem?_set_ne (by omega), List.getElem?_append_left (by simp; omega)]
    simpa [List.getElem?_set_ne (show b1 ≠ H.length + 1 by omega), List.getElem?_set_ne (show b2 ≠ H.length + 1 by omega)] using gz
  have kl : H.length + 1 < K.length := (List.getElem?_eq_some_iff.1 kz).1
  have kt : K.take H.length = H := by
    rw [← hK, List.take_set_of_le (by omega), List.take_set_of_le (by omega), List.take_append_of_le_length (by simp; omega)]
    simpa [List.take_set_of_le (show H.length ≤ b1 by omega), List.take_set_of_le (show H.length ≤ b2 by omega)] using gt
  simp -implicitDefEqProofs [go_sem, hbx_of kz]
  refine ⟨by decide, ?_⟩
  refine Wp.s ?_
  simp -implicitDefEqProofs [go_sem, hbx_s kl]
  rw [e0]
  exact Fin.pu (r0 := dvF (.ok _)) (.tup (.cons (.refl _) (.cons (.refl _) .nil))) (by simp [go_sem, dvF]) hokH (by rw [List.take_set_of_le (show H.length ≤ H.length + 1 by omega)]; exact kt) (by simp)
theorem refApplied_cc (H : Hp) (V : List Nat) (f : Fan) (t n : Int) (hs : Sm f) : CC Tryz.prog 19 [.agg (fanC f), ci t, ci n] H V (Pu (dvF (appF f t n)) H V) := by
  refine CC.of_swp Tryz.func19 rfl (by kernel_rfl) (by rw [Tryz.ntmps19]; exact len_le _ _ rfl) fun hok hokH => ?_
  clear hok
  have stop : ∀ {e : Nat} {H' : Hp} {V' : List Nat}, appF f t n = .error e → H'.take H.length = H → V'.take V.length = V → Fin H.length V.length (Pu (dvF (appF f t n)) H V) (.tup [.agg fanZ, er e]) H' V' := fun h1 h2 h3 => by
    rw [h1]; exact Fin.pu (.tup (.cons Le_zfan (.cons (.refl _) .nil))) (by simp [go_sem, dvF]) hokH h2 h3
  refine SWp.seq (Wp.s ?_)
  simp -implicitDefEqProofs [go_sem, args0]
  refine SWp.seq (SWp.seq (Wp.s ?_))
  simp -implicitDefEqProofs [go_sem]
  refine CC.mono (refCheck_cc _ _ f hs) ?_
  rintro _ _ _ ⟨rfl, rfl, rfl⟩
  by_cases hc : chkF f = 0
  case neg =>
    simp -implicitDefEqProofs [go_sem, hc]
    refine Wp.s ?_
    simp -implicitDefEqProofs [go_sem, hc]
    exact stop (by rw [appF, existsF_chk hc, if_pos hc]) (by simp) (by simp)
  simp -implicitDefEqProofs [go_sem, hc]
  refine Wp.s ?_
  simp -implicitDefEqProofs [go_sem, hc]
  refine SWp.seq (SWp.seq (Wp.s ?_))
  by_cases h1 : t < 0
  · simp -implicitDefEqProofs [go_sem, h1]
    refine Wp.s ?_
    simp -implicitDefEqProofs [go_sem]
    exact stop (by rw [appF, existsF_out hc (.inl h1), if_pos (by decide)]) (by simp) (by simp)
  by_cases h2 : (f.app.length : Int) ≤ t
  · simp -implicitDefEqProofs [go_sem, h1, h2]
    refine Wp.s ?_
    simp -implicitDefEqProofs [go_sem]
    exact stop (by rw [appF, existsF_out hc (.inr h2), if_pos (by decide)]) (by simp) (by simp)
  simp -implicitDefEqProofs [go_sem, h1, h2]
  refine Wp.s ?_
  simp -implicitDefEqProofs [go_sem]
  have hx := existsF_in hc (t := t) (by omega)
  obtain ⟨_, k, rfl, hk1, hk2⟩ := existsF_0 hx
  have hl : f.lost.length = f.app.length := (chkF_lens hc).2.2.1
  have e0 := appF_in (n := n) hx hk1 hk2
  refine SWp.seq (SWp.seq (Wp.s ?_))
  cases hb : f.lost[k] with
  | true =>
    rw [if_pos hb] at e0
    simp -implicitDefEqProofs [go_sem, hk2, hb]
    refine Wp.s ?_
    simp -implicitDefEqProofs [go_sem]
    exact stop (e0) (by simp) (by simp)
  | false =>
  rw [if_neg (by simp [hb])] at e0
  simp -implicitDefEqProofs [go_sem, hk2, hb]
  refine Wp.s ?_
  simp -implicitDefEqProofs [go_sem]
  refine SWp.seq (SWp.seq (Wp.s ?_))
  by_cases c1 : n < f.app[k]
  · rw [if_pos c1] at e0
    simp -implicitDefEqProofs [go_sem, hk1, c1]
    refine Wp.s ?_
    simp -implicitDefEqProofs [go_sem]
    exact stop (e0) (by simp) (by simp)
  rw [if_neg c1] at e0
  simp -implicitDefEqProofs [go_sem, hk1, c1]
  refine Wp.s ?_
  simp -implicitDefEqProofs [go_sem]
  refine SWp.join (α := Unit) (fun _ => ([(1, ci k), (2, ci n), (3, .ptr H.length 0), (6, .ptr (H.length + 1) 0)], H ++ [some (fanC f), some fanZ], V)) (fun _ => appF f k n = .ok (tidyF ⟨f.limit, f.kept, f.app.set k n, f.lost⟩)) ?_ ?_
  · refine SWp.seq (Wp.s ?_)
    by_cases c2 : n = f.app[k]
    · rw [if_neg (by simp [c2])] at e0
      simp -implicitDefEqProofs [go_sem, hk1, c2]
      refine Wp.s ?_
      simp -implicitDefEqProofs [go_sem]
      subst c2
      exact ⟨by simpa using e0, Sh.forget (by simp [go_sem]) rfl rfl⟩
    simp -implicitDefEqProofs [go_sem, hk1, c2]
    refine CC.mono (refNumbered_cc _ _ f n hs) ?_
    rintro _ _ _ ⟨rfl, rfl, rfl⟩
    cases c3 : numF f n with
    | true =>
      rw [if_neg (by simp [c3])] at e0
      simp -implicitDefEqProofs [go_sem, c3]
      refine Wp.s ?_
      simp -implicitDefEqProofs [go_sem]
      exact ⟨e0, Sh.forget (by simp [go_sem]) rfl rfl⟩
    | false =>
      rw [if_pos ⟨c2, c3⟩] at e0
      simp -implicitDefEqProofs [go_sem, c3]
      refine Wp.s ?_
      simp -implicitDefEqProofs [go_sem]
      exact stop (e0) (by simp) (by simp)
  clear e0
  rintro _ e0
  dsimp only
  refine SWp.seq (Wp.s ?_)
  simp -implicitDefEqProofs [go_sem]
  refine CC.mono (refCopy_cc _ _ f hs (chkF_cp hc)) ?_
  rintro _ G _ hR
  obtain ⟨b1, b2, v, X, rfl, hX, rfl, g1, g2, hne, l1, l2⟩ := hR.elim
  obtain ⟨gz, gt, gl⟩ := CopR.zero hX
  rw [List.length_append] at l1 l2
  simp only [List.length_cons, List.length_nil] at l1 l2
  simp -implicitDefEqProofs [go_sem]
  refine SWp.seq (Wp.s ?_)
  simp -implicitDefEqProofs [go_sem, hbx_of (at_old _ [some [ci f.limit, .sl (.own V.length v) 5 (f.kept.map cycC), .bsl b1 0 f.app.length 1, .bsl b2 0 f.app.length 1]] g1), set_old _ _ _ g1, hk1, hk2, show k + 1 ≤ f.app.length by omega, set_ci hk1 n]
  refine SWp.seq (Wp.s ?_)
  simp -implicitDefEqProofs [go_sem]
  refine CC.letFan (app := (f.app.set k n)) (lost := f.lost) (by simp) (by simp [hl]) (by rw [List.getElem?_append_left (by simp; exact (List.getElem?_eq_some_iff.1 g1).1), List.getElem?_set_self (List.getElem?_eq_some_iff.1 g1).1, List.map_set]) (by rw [List.getElem?_append_left (by simp; exact (List.getElem?_eq_some_iff.1 g2).1), List.getElem?_set_ne (by omega)]; exact g2) hne ?_
  refine CC.mono (refTidy_cc _ _ ⟨f.limit, f.kept, (f.app.set k n), f.lost⟩ (hs.mk' (by simp) (by simp)) (by simp [hl])) ?_
  rintro _ K _ ⟨rfl, hK, rfl⟩
  have kz : K[H.length + 1]? = some (some fanZ) := by
    rw [← hK, List.getElem?_set_ne (by omega), List.getElem?_set_ne (by omega), List.getElem?_append_left (by simp; omega)]
    simpa [List.getElem?_set_ne (show b1 ≠ H.length + 1 by omega), List.getElem?_set_ne (show b2 ≠ H.length + 1 by omega)] using gz
  have kl : H.length + 1 < K.length := (List.getElem?_eq_some_iff.1 kz).1
  have kt : K.take H.length = H := by
    rw [← hK, List.take_set_of_le (by omega), List.take_set_of_le (by omega), List.take_append_of_le_length (by simp; omega)]
    simpa [List.take_set_of_le (show H.length ≤ b1 by omega), List.take_set_of_le (show H.length ≤ b2 by omega)] using gt
  simp -implicitDefEqProofs [go_sem, hbx_of kz]
  refine ⟨by decide, ?_⟩
  refine Wp.s ?_
  simp -implicitDefEqProofs [go_sem, hbx_s kl]
  rw [e0]
  exact Fin.pu (r0 := dvF (.ok _)) (.tup (.cons (.refl _) (.cons (.refl _) .nil))) (by simp [go_sem, dvF]) hokH (by rw [List.take_set_of_le (show H.length ≤ H.length + 1 by omega)]; exact kt) (by simp)
theorem Join_cc (H : Hp) (V : List Nat) (f : Fan) (t n : Int) (hs : Sm f) : CC Tryz.prog 22 [.agg (fanC f), ci t, ci n] H V (Pu (dvF (joinF f t n)) H V) := by
  refine CC.of_swp Tryz.func22 rfl (by kernel_rfl) (by rw [Tryz.ntmps22]; exact len_le _ _ rfl) fun hok hokH => ?_
  clear hok
  have stop : ∀ {e : Nat} {H' : Hp} {V' : List Nat}, joinF f t n = .error e → H'.take H.length = H → V'.take V.length = V → Fin H.length V.length (Pu (dvF (joinF f t n)) H V) (.tup [.agg fanZ, er e]) H' V' := fun h1 h2 h3 => by
    rw [h1]; exact Fin.pu (.tup (.cons Le_zfan (.cons (.refl _) .nil))) (by simp [go_sem, dvF]) hokH h2 h3
  refine SWp.seq (Wp.s ?_)
  simp -implicitDefEqProofs [go_sem, args0]
  refine SWp.seq (SWp.seq (Wp.s ?_))
  simp -implicitDefEqProofs [go_sem]
  refine CC.mono (exists_cc _ _ f t hs) ?_
  rintro _ _ _ ⟨rfl, rfl, rfl⟩
  by_cases hx : existsF f t = 0
  case neg =>
    simp -implicitDefEqProofs [go_sem, hx]
    refine Wp.s ?_
    simp -implicitDefEqProofs [go_sem, hx]
    exact stop (by rw [joinF, if_pos hx]) (by simp) (by simp)
  simp -implicitDefEqProofs [go_sem, hx]
  refine Wp.s ?_
  simp -implicitDefEqProofs [go_sem, hx]
  obtain ⟨hc, k, rfl, hk1, hk2⟩ := existsF_0 hx
  have hl : f.lost.length = f.app.length := (chkF_lens hc).2.2.1
  have hal := hs.al
  have e0 := joinF_in (n := n) hx hk2
  refine SWp.seq (Wp.s ?_)
  simp -implicitDefEqProofs [go_sem]
  refine CC.mono (oldest_cc _ _ .sh .sh .sh f.limit f.kept f.app f.lost hl hal) ?_
  rintro _ _ _ ⟨rfl, rfl, rfl⟩
  rw [← leastF_eq]
  simp -implicitDefEqProofs [go_sem]
  refine SWp.join (α := Unit) (fun _ => ([(1, ci k), (2, ci n), (3, .ptr H.length 0), (6, .ptr (H.length + 1) 0)], H ++ [some (fanC f), some fanZ], V)) (fun _ => joinF f k n = .ok ⟨f.limit, f.kept, f.app.set k n, f.lost.set k false⟩) ?_ ?_
  · refine SWp.block (SWp.seq (Wp.s ?_))
    cases hb : f.lost[k] with
    | false =>
      rw [if_pos hb] at e0
      simp -implicitDefEqProofs [go_sem, hk2, hb]
      refine Wp.s ?_
      simp -implicitDefEqProofs [go_sem]
      exact stop (e0) (by simp) (by simp)
    | true =>
    rw [if_neg (by simp [hb])] at e0
    by_cases c1 : leastF f < 0
    · rw [if_neg (by omega)] at e0
      simp -implicitDefEqProofs [go_sem, hk2, hb]
      refine Wp.s ?_
      simp -implicitDefEqProofs [go_sem, c1]
      refine CC.mono (newest_cc _ _ f (chkF_ok hs hc)) ?_
      rintro _ _ _ ⟨rfl, rfl, rfl⟩
      by_cases c2 : n < newF f
      · rw [if_pos ⟨c1, .inl c2⟩] at e0
        simp -implicitDefEqProofs [go_sem, c1, c2]
        exact stop (e0) (by simp) (by simp)
      by_cases c3 : 1073741824 < n
      · rw [if_pos ⟨c1, .inr c3⟩] at e0
        simp -implicitDefEqProofs [go_sem, c1, c2, c3]
        exact stop (e0) (by simp) (by simp)
      rw [if_neg (by omega)] at e0
      simp -implicitDefEqProofs [go_sem, c1, c2, c3]
      exact ⟨e0, Sh.forget (by simp [go_sem]) rfl rfl⟩
    · simp -implicitDefEqProofs [go_sem, hk2, hb]
      refine Wp.s ?_
      simp -implicitDefEqProofs [go_sem, c1]
      refine CC.mono (bnd_cc _ _ f n (chkF_ok hs hc)) ?_
      rintro _ _ _ ⟨rfl, rfl, rfl⟩
      cases c2 : bndF f n with
      | false =>
        rw [if_pos ⟨by omega, c2⟩] at e0
        simp -implicitDefEqProofs [go_sem, c1, c2]
        exact stop (e0) (by simp) (by simp)
      | true =>
        rw [if_neg (by simp [c2]), if_neg (by omega)] at e0
        simp -implicitDefEqProofs [go_sem, c1, c2]
        exact ⟨e0, Sh.forget (by simp [go_sem]) rfl rfl⟩
  clear e0
  rintro _ e0
  dsimp only
  refine SWp.seq (Wp.s ?_)
  simp -implicitDefEqProofs [go_sem]
  refine CC.mono (copied_cc _ _ f hs (chkF_cp hc)) ?_
  rintro _ G _ hR
  obtain ⟨b1, b2, v, X, rfl, hX, rfl, g1, g2, hne, l1, l2⟩ := hR.elim
  obtain ⟨gz, gt, gl⟩ := CopR.zero hX
  rw [List.length_append] at l1 l2
  simp only [List.length_cons, List.length_nil] at l1 l2
  simp -implicitDefEqProofs [go_sem]
  have g2' : (G.set b1 (some ((f.app.map ci).set k (ci n))))[b2]? = some (some (f.lost.map cbo)) := by rw [List.getElem?_set_ne hne]; exact g2
  have n1 : b1 < G.length := (List.getElem?_eq_some_iff.1 g1).1
  have n2 : b2 < G.length := (List.getElem?_eq_some_iff.1 g2).1
  refine SWp.seq (SWp.drawnT [G.length] [8, 10] (.s 0 .pl <| .s 1 .pl <| .s 2 .pl <| .s 3 .pl <| .s 4 .ld <| .s 5 .pl <| .s 6 .pl <| .s 7 .pl <| .s 8 .st <| .s 9 .pl <| .s 10 .st <| .n) (by kernel_rfl) (by kernel_rfl) ?_)
  simp -implicitDefEqProofs [go_sem, hbx_of (at_old _ [some [ci f.limit, .sl (.own V.length v) 5 (f.kept.map cycC), .bsl b1 0 f.app.length 1, .bsl b2 0 f.app.length 1]] g1), set_old _ _ _ g1, hbx_of (at_old _ [some [ci f.limit, .sl (.own V.length v) 5 (f.kept.map cycC), .bsl b1 0 f.app.length 1, .bsl b2 0 f.app.length 1]] g2'), set_old _ _ _ g2', hk1, hk2, show k + 1 ≤ f.app.length by omega, show k + 1 ≤ f.lost.length by omega, set_ci hk1 n, set_cbo hk2 false, show k < f.app.length by omega]
  refine ⟨Kp_tail rfl (by simp), Kp_tail (by simp) (by simp), ?_⟩
  obtain ⟨M, hM⟩ : ∃ M, M = (List.set G b1 (some ((List.map ci f.app).set k (ci n)))).set b2 (some ((List.map cbo f.lost).set k (cbo false))) := ⟨_, rfl⟩
  have ml : G.length = M.length := by rw [hM]; simp
  rw [← hM, ml]
  have m1 : M[b1]? = some (some ((f.app.set k n).map ci)) := by rw [hM, List.getElem?_set_ne (by omega), List.getElem?_set_self n1, List.map_set]
  have m2 : M[b2]? = some (some ((f.lost.set k false).map cbo)) := by rw [hM, List.getElem?_set_self (by simpa using n2), List.map_set]
  have mt : M.take H.length = H := by rw [hM, List.take_set_of_le (by omega), List.take_set_of_le (by omega)]; exact gt
  have mz : M[H.length + 1]? = some (some fanZ) := by rw [hM, List.getElem?_set_ne (by omega), List.getElem?_set_ne (by omega)]; exact gz
  have mz1 : H.length + 1 < M.length := by omega
  rw [ml] at n1 n2
  clear hM g2' g1 g2 gz gt hX hR
  refine Wp.s ?_
  simp -implicitDefEqProofs [go_sem, hbx_of (at_old _ [some [ci f.limit, .sl (.own V.length v) 5 (f.kept.map cycC), .bsl b1 0 f.app.length 1, .bsl b2 0 f.app.length 1]] mz), set_old _ [some [ci f.limit, .sl (.own V.length v) 5 (f.kept.map cycC), .bsl b1 0 f.app.length 1, .bsl b2 0 f.app.length 1]] _ mz]
  refine ⟨by decide, ?_⟩
  rw [hbx_sa mz1, e0]
  refine ⟨by simp, ?_⟩
  have e1 := chunk_ci (f.app.set k n) f.app.length (by simp)
  have e2 := chunk_bo (f.lost.set k false) f.app.length (by simp [hl])
  refine Fin.froz2 (b := b1) (b' := b2) (cs := (f.app.set k n).map ci) (cs' := (f.lost.set k false).map cbo) (r4 := dvF (.ok ⟨f.limit, f.kept, f.app.set k n, f.lost.set k false⟩)) (r3 := .tup [.agg [ci f.limit, .sl (.own V.length v) 5 (f.kept.map cycC), .sl .sh 1 ((f.app.set k n).map ic), .sl .sh 1 ((f.lost.set k false).map boE)], er 0]) (r2 := .tup [.agg [ci f.limit, .sl (.own V.length v) 5 (f.kept.map cycC), .sl .sh 1 ((f.app.set k n).map ic), .bsl b2 0 f.app.length 1], er 0]) ⟨rfl, rfl, rfl⟩ (.refl _) ?_ (.tup (.cons (.agg (.cons (.refl _) (.cons (.refl _) (.cons ?_ (.cons (.refl _) .nil))))) (.cons (.refl _) .nil))) ?_ (.tup (.cons (.agg (.cons (.refl _) (.cons (.refl _) (.cons (.refl _) (.cons ?_ .nil))))) (.cons (.refl _) .nil))) (.tup (.cons (.agg (.cons (.refl _) (.cons (.sh ..) (.cons (.refl _) (.cons (.refl _) .nil))))) (.cons (.refl _) .nil))) (by omega) (by omega) (by simp [go_sem, dvF]) hokH ?_ (by simp)
  · rw [List.getElem?_append_left (by simpa using n1), List.getElem?_set_ne (by omega)]; exact m1
  · rw [← e1]; exact .bsl 0 _ 1 (by simp)
  · rw [List.getElem?_set_ne hne, List.getElem?_append_left (by simpa using n2), List.getElem?_set_ne (by omega)]; exact m2
  · rw [← e2]; exact .bsl 0 _ 1 (by simp [hl])
  · rw [List.take_append_of_le_length (by simp; omega), List.take_set_of_le (by omega)]; exact mt
theorem refJoin_cc (H : Hp) (V : List Nat) (f : Fan) (t n : Int) (hs : Sm f) : CC Tryz.prog 23 [.agg (fanC f), ci t, ci n] H V (Pu (dvF (joinF f t n)) H V) := by
  refine CC.of_swp Tryz.func23 rfl (by kernel_rfl) (by rw [Tryz.ntmps23]; exact len_le _ _ rfl) fun hok hokH => ?_
  clear hok
  have stop : ∀ {e : Nat} {H' : Hp} {V' : List Nat}, joinF f t n = .error e → H'.take H.length = H → V'.take V.length = V → Fin H.length V.length (Pu (dvF (joinF f t n)) H V) (.tup [.agg fanZ, er e]) H' V' := fun h1 h2 h3 => by
    rw [h1]; exact Fin.pu (.tup (.cons Le_zfan (.cons (.refl _) .nil))) (by simp [go_sem, dvF]) hokH h2 h3
  refine SWp.seq (Wp.s ?_)
  simp -implicitDefEqProofs [go_sem, args0]
  refine SWp.seq (SWp.seq (Wp.s ?_))
  simp -implicitDefEqProofs [go_sem]
  refine CC.mono (refCheck_cc _ _ f hs) ?_
  rintro _ _ _ ⟨rfl, rfl, rfl⟩
  by_cases hc : chkF f = 0
  case neg =>
    simp -implicitDefEqProofs [go_sem, hc]
    refine Wp.s ?_
    simp -implicitDefEqProofs [go_sem, hc]
    exact stop (by rw [joinF, existsF_chk hc, if_pos hc]) (by simp) (by simp)
  simp -implicitDefEqProofs [go_sem, hc]
  refine Wp.s ?_
  simp -implicitDefEqProofs [go_sem, hc]
  refine SWp.seq (SWp.seq (Wp.s ?_))
  by_cases h1 : t < 0
  · simp -implicitDefEqProofs [go_sem, h1]
    refine Wp.s ?_
    simp -implicitDefEqProofs [go_sem]
    exact stop (by rw [joinF, existsF_out hc (.inl h1), if_pos (by decide)]) (by simp) (by simp)
  by_cases h2 : (f.app.length : Int) ≤ t
  · simp -implicitDefEqProofs [go_sem, h1, h2]
    refine Wp.s ?_
    simp -implicitDefEqProofs [go_sem]
    exact stop (by rw [joinF, existsF_out hc (.inr h2), if_pos (by decide)]) (by simp) (by simp)
  simp -implicitDefEqProofs [go_sem, h1, h2]
  refine Wp.s ?_
  simp -implicitDefEqProofs [go_sem]
  have hx := existsF_in hc (t := t) (by omega)
  obtain ⟨_, k, rfl, hk1, hk2⟩ := existsF_0 hx
  have hl : f.lost.length = f.app.length := (chkF_lens hc).2.2.1
  have hal := hs.al
  have e0 := joinF_in (n := n) hx hk2
  refine SWp.seq (SWp.seq (Wp.s ?_))
  cases hb : f.lost[k] with
  | false =>
    rw [if_pos hb] at e0
    simp -implicitDefEqProofs [go_sem, hk2, hb]
    refine Wp.s ?_
    simp -implicitDefEqProofs [go_sem]
    exact stop (e0) (by simp) (by simp)
  | true =>
  rw [if_neg (by simp [hb])] at e0
  simp -implicitDefEqProofs [go_sem, hk2, hb]
  refine Wp.s ?_
  simp -implicitDefEqProofs [go_sem]
  refine SWp.join (α := Unit) (fun _ => ([(1, ci k), (2, ci n), (3, .ptr H.length 0), (6, .ptr (H.length + 1) 0)], H ++ [some (fanC f), some fanZ], V)) (fun _ => joinF f k n = .ok ⟨f.limit, f.kept, f.app.set k n, f.lost.set k false⟩) ?_ ?_
  · refine SWp.seq (Wp.s ?_)
    simp -implicitDefEqProofs [go_sem]
    refine CC.mono (refLeast_cc _ _ .sh .sh .sh f.limit f.kept f.app f.lost hl hal) ?_
    rintro _ _ _ ⟨rfl, rfl, rfl⟩
    rw [← leastF_eq]
    by_cases c1 : leastF f < 0
    · rw [if_neg (by omega)] at e0
      simp -implicitDefEqProofs [go_sem, show ¬ (0 ≤ leastF f) by omega]
      refine Wp.s ?_
      simp -implicitDefEqProofs [go_sem]
      refine CC.mono (refNewest_cc _ _ f hs) ?_
      rintro _ _ _ ⟨rfl, rfl, rfl⟩
      by_cases c2 : n < newF f
      · rw [if_pos ⟨c1, .inl c2⟩] at e0
        simp -implicitDefEqProofs [go_sem, c2]
        exact stop (e0) (by simp) (by simp)
      by_cases c3 : 1073741824 < n
      · rw [if_pos ⟨c1, .inr c3⟩] at e0
        simp -implicitDefEqProofs [go_sem, c2, c3]
        exact stop (e0) (by simp) (by simp)
      rw [if_neg (by omega)] at e0
      simp -implicitDefEqProofs [go_sem, c2, c3]
      exact ⟨e0, Sh.forget (by simp [go_sem]) rfl rfl⟩
    · simp -implicitDefEqProofs [go_sem, show 0 ≤ leastF f by omega]
      refine Wp.s ?_
      simp -implicitDefEqProofs [go_sem]
      refine CC.mono (refBnd_cc _ _ f n hs) ?_
      rintro _ _ _ ⟨rfl, rfl, rfl⟩
      cases c2 : bndF f n with
      | false =>
        rw [if_pos ⟨by omega, c2⟩] at e0
        simp -implicitDefEqProofs [go_sem, c2]
        exact stop (e0) (by simp) (by simp)
      | true =>
        rw [if_neg (by simp [c2]), if_neg (by omega)] at e0
        simp -implicitDefEqProofs [go_sem, c2]
        exact ⟨e0, Sh.forget (by simp [go_sem]) rfl rfl⟩
  clear e0
  rintro _ e0
  dsimp only
  refine SWp.seq (Wp.s ?_)
  simp -implicitDefEqProofs [go_sem]
  refine CC.mono (refCopy_cc _ _ f hs (chkF_cp hc)) ?_
  rintro _ G _ hR
  obtain ⟨b1, b2, v, X, rfl, hX, rfl, g1, g2, hne, l1, l2⟩ := hR.elim
  obtain ⟨gz, gt, gl⟩ := CopR.zero hX
  rw [List.length_append] at l1 l2
  simp only [List.length_cons, List.length_nil] at l1 l2
  simp -implicitDefEqProofs [go_sem]
  have g2' : (G.set b1 (some ((f.app.map ci).set k (ci n))))[b2]? = some (some (f.lost.map cbo)) := by rw [List.getElem?_set_ne hne]; exact g2
  have n1 : b1 < G.length := (List.getElem?_eq_some_iff.1 g1).1
  have n2 : b2 < G.length := (List.getElem?_eq_some_iff.1 g2).1
  refine SWp.seq (SWp.drawnT [G.length] [8, 10] (.s 0 .pl <| .s 1 .pl <| .s 2 .pl <| .s 3 .pl <| .s 4 .ld <| .s 5 .pl <| .s 6 .pl <| .s 7 .pl <| .s 8 .st <| .s 9 .pl <| .s 10 .st <| .n) (by kernel_rfl) (by kernel_rfl) ?_)
  simp -implicitDefEqProofs [go_sem, hbx_of (at_old _ [some [ci f.limit, .sl (.own V.length v) 5 (f.kept.map cycC), .bsl b1 0 f.app.length 1, .bsl b2 0 f.app.length 1]] g1), set_old _ _ _ g1, hbx_of (at_old _ [some [ci f.limit, .sl (.own V.length v) 5 (f.kept.map cycC), .bsl b1 0 f.app.length 1, .bsl b2 0 f.app.length 1]] g2'), set_old _ _ _ g2', hk1, hk2, show k + 1 ≤ f.app.length by omega, show k + 1 ≤ f.lost.length by omega, set_ci hk1 n, set_cbo hk2 false, show k < f.app.length by omega]
  refine ⟨Kp_tail rfl (by simp), Kp_tail (by simp) (by simp), ?_⟩
  obtain ⟨M, hM⟩ : ∃ M, M = (List.set G b1 (some ((List.map ci f.app).set k (ci n)))).set b2 (some ((List.map cbo f.lost).set k (cbo false))) := ⟨_, rfl⟩
  have ml : G.length = M.length := by rw [hM]; simp
  rw [← hM, ml]
  have m1 : M[b1]? = some (some ((f.app.set k n).map ci)) := by rw [hM, List.getElem?_set_ne (by omega), List.getElem?_set_self n1, List.map_set]
  have m2 : M[b2]? = some (some ((f.lost.set k false).map cbo)) := by rw [hM, List.getElem?_set_self (by simpa using n2), List.map_set]
  have mt : M.take H.length = H := by rw [hM, List.take_set_of_le (by omega), List.take_set_of_le (by omega)]; exact gt
  have mz : M[H.length + 1]? = some (some fanZ) := by rw [hM, List.getElem?_set_ne (by omega), List.getElem?_set_ne (by omega)]; exact gz
  have mz1 : H.length + 1 < M.length := by omega
  rw [ml] at n1 n2
  clear hM g2' g1 g2 gz gt hX hR
  refine Wp.s ?_
  simp -implicitDefEqProofs [go_sem, hbx_of (at_old _ [some [ci f.limit, .sl (.own V.length v) 5 (f.kept.map cycC), .bsl b1 0 f.app.length 1, .bsl b2 0 f.app.length 1]] mz), set_old _ [some [ci f.limit, .sl (.own V.length v) 5 (f.kept.map cycC), .bsl b1 0 f.app.length 1, .bsl b2 0 f.app.length 1]] _ mz]
  refine ⟨by decide, ?_⟩
  rw [hbx_sa mz1, e0]
  refine ⟨by simp, ?_⟩
  have e1 := chunk_ci (f.app.set k n) f.app.length (by simp)
  have e2 := chunk_bo (f.lost.set k false) f.app.length (by simp [hl])
  refine Fin.froz2 (b := b1) (b' := b2) (cs := (f.app.set k n).map ci) (cs' := (f.lost.set k false).map cbo) (r4 := dvF (.ok ⟨f.limit, f.kept, f.app.set k n, f.lost.set k false⟩)) (r3 := .tup [.agg [ci f.limit, .sl (.own V.length v) 5 (f.kept.map cycC), .sl .sh 1 ((f.app.set k n).map ic), .sl .sh 1 ((f.lost.set k false).map boE)], er 0]) (r2 := .tup [.agg [ci f.limit, .sl (.own V.length v) 5 (f.kept.map cycC), .sl .sh 1 ((f.app.set k n).map ic), .bsl b2 0 f.app.length 1], er 0]) ⟨rfl, rfl, rfl⟩ (.refl _) ?_ (.tup (.cons (.agg (.cons (.refl _) (.cons (.refl _) (.cons ?_ (.cons (.refl _) .nil))))) (.cons (.refl _) .nil))) ?_ (.tup (.cons (.agg (.cons (.refl _) (.cons (.refl _) (.cons (.refl _) (.cons ?_ .nil))))) (.cons (.refl _) .nil))) (.tup (.cons (.agg (.cons (.refl _) (.cons (.sh ..) (.cons (.refl _) (.cons (.refl _) .nil))))) (.cons (.refl _) .nil))) (by omega) (by omega) (by simp [go_sem, dvF]) hokH ?_ (by simp)
  · rw [List.getElem?_append_left (by simpa using n1), List.getElem?_set_ne (by omega)]; exact m1
  · rw [← e1]; exact .bsl 0 _ 1 (by simp)
  · rw [List.getElem?_set_ne hne, List.getElem?_append_left (by simpa using n2), List.getElem?_set_ne (by omega)]; exact m2
  · rw [← e2]; exact .bsl 0 _ 1 (by simp [hl])
  · rw [List.take_append_of_le_length (by simp; omega), List.take_set_of_le (by omega)]; exact mt
theorem Oldest_cc (H : Hp) (V : List Nat) (f : Fan) (hs : Sm f) : CC Tryz.prog 26 [.agg (fanC f)] H V (Pu (ci (oldF f)) H V) := by
  refine CC.of_swp Tryz.func26 rfl (by kernel_rfl) (by rw [Tryz.ntmps26]; exact len_le _ _ rfl) fun hok hokH => ?_
  clear hok
  refine SWp.seq (Wp.s ?_)
  simp -implicitDefEqProofs [go_sem, args0]
  refine SWp.seq (SWp.seq (Wp.s ?_))
  simp -implicitDefEqProofs [go_sem]
  refine CC.mono (Check_cc _ _ f hs) ?_
  rintro _ _ _ ⟨rfl, rfl, rfl⟩
  by_cases hc : chkF f = 0
  case neg =>
    simp -implicitDefEqProofs [go_sem, hc]
    refine Wp.s ?_
    simp -implicitDefEqProofs [go_sem, hc]
    exact Fin.int (by rw [oldF, if_pos hc]) hokH (by simp) (by simp)
  simp -implicitDefEqProofs [go_sem, hc]
  refine Wp.s ?_
  simp -implicitDefEqProofs [go_sem, hc]
  refine Wp.s ?_
  simp -implicitDefEqProofs [go_sem]
  refine CC.mono (oldest_cc _ _ .sh .sh .sh f.limit f.kept f.app f.lost (chkF_lens hc).2.2.1 hs.al) ?_
  rintro _ _ _ ⟨rfl, rfl, rfl⟩
  simp -implicitDefEqProofs [go_sem]
  exact Fin.int (by rw [oldF, if_neg (by simp [hc]), leastF_eq]) hokH (by simp) (by simp)
end Go.Proofs.YtpadnceoacbaeaaGreat
namespace Go.Proofs.YtpadnceoacbaeaaGreat
open Go.Proofs
/-! ### Sorting what is sorted -/
theorem nan_cc (H : Hp) (V : List Nat) (a : Int) : CC Tryz.prog 133 [ci a] H V (Pu (cb false) H V) := by
  refine CC.of_swp Tryz.func133 rfl (by kernel_rfl) (by rw [Tryz.ntmps133]; exact len_le _ _ rfl) fun hok hokH => ?_
  clear hok
  refine SWp.seq (Wp.s ?_)
  simp -implicitDefEqProofs [go_sem, args0]
  refine Wp.s ?_
  simp -implicitDefEqProofs [go_sem]
  exact Fin.bool rfl hokH (by simp) (by simp)
theorem less_cc (H : Hp) (V : List Nat) (a b : Int) : CC Tryz.prog 112 [ci a, ci b] H V (Pu (cb (decide (a < b))) H V) := by
  refine CC.of_swp Tryz.func112 rfl (by kernel_rfl) (by rw [Tryz.ntmps112]; exact len_le _ _ rfl) fun hok hokH => ?_
  clear hok
  refine SWp.seq (Wp.s ?_)
  simp -implicitDefEqProofs [go_sem, args0]
  refine SWp.seq (Wp.s ?_)
  simp -implicitDefEqProofs [go_sem]
  refine CC.mono (nan_cc _ _ a) ?_
  rintro _ _ _ ⟨rfl, rfl, rfl⟩
  simp -implicitDefEqProofs [go_sem]
  refine Wp.s ?_
  simp -implicitDefEqProofs [go_sem]
  exact Fin.bool rfl hokH (by simp) (by simp)
theorem ins_cc (H : Hp) (V : List Nat) (tk : Tk) (l : List Int) (hl : l.length ≤ 1000000) (hs : ∀ i (h : i + 1 < l.length), l[i] ≤ l[i + 1]) : CC Tryz.prog 106 [.sl tk 1 (l.map ic), ci 0, ci l.length] H V (Pu (.tup []) H V) := by
  refine CC.of_swp Tryz.func106 rfl (by kernel_rfl) (by rw [Tryz.ntmps106]; exact len_le _ _ rfl) fun hok hokH => ?_
  clear hok
  have w0 : IntKind.i64.wrap 1 = 1 := by kernel_rfl
  refine SWp.seq (Wp.s ?_)
  simp -implicitDefEqProofs [go_sem, args0]
  refine SWp.block ?_
  refine SWp.loop (α := Nat) (fun i => ([(0, .sl tk 1 (l.map ic)), (1, ci 0), (2, ci l.length), (6, ci i)], H, V)) (fun i => 1 ≤ i) (fun i => l.length - i) 1 (Nat.le_refl _) (Sh.forget (by simp [go_sem, w0]) rfl rfl) ?_
  intro i hi
  dsimp only
  refine SWp.seq (SWp.seq (Wp.s ?_))
  simp -implicitDefEqProofs [go_sem]
  refine Wp.s ?_
  simp -implicitDefEqProofs [go_sem]
  refine ⟨fun h => ?_, fun h => ?_⟩
  case refine_2 => exact Fin.self ⟨rfl, rfl, rfl⟩
  refine SWp.seq (SWp.block (SWp.seq (Wp.s ?_)))
  simp -implicitDefEqProofs [go_sem]
  refine SWp.block ?_
  refine SWp.loop (α := Unit) (fun _ => ([(0, .sl tk 1 (l.map ic)), (1, ci 0), (2, ci l.length), (6, ci i), (7, ci i)], H, V)) (fun _ => True) (fun _ => 0) () trivial (Sh.forget (by simp [go_sem]) rfl rfl) ?_
  rintro _ -
  dsimp only
  obtain ⟨j, rfl⟩ : ∃ j, i = j + 1 := ⟨i - 1, by omega⟩
  have hj : j < l.length := by omega
  have hle := hs j h
  have w1 : IntKind.i64.wrap (j : Int) = j := IntWalk.i64_in _ ⟨by omega, by omega⟩
  have w2 : IntKind.i64.wrap ((j : Int) + 1 + 1) = ((j + 1 + 1 : Nat) : Int) := by
    rw [show (j : Int) + 1 + 1 = ((j + 1 + 1 : Nat) : Int) by omega]
    exact IntWalk.i64_in _ ⟨by omega, by omega⟩
  refine SWp.seq (SWp.seq (SWp.drawnT [] [] (.s 0 .pl <| .s 1 .pl <| .s 2 .pl <| .s 3 .pl <| .s 4 .pl <| .s 5 .pl <| .s 6 .pl <| .s 7 .pl <| .s 8 .pl <| .s 9 .pl <| .s 10 .pl <| .s 11 .pl <| .s 12 .pl <| .s 13 .pl <| .s 14 .pl <| .n) (by kernel_rfl) (by kernel_rfl) ?_))
  simp -implicitDefEqProofs [go_sem, h, hj, w1, show (0 : Int) < (j : Int) + 1 by omega, show (0 : Int) ≤ (j : Int) + 1 by omega]
  refine CC.mono (less_cc _ _ l[j + 1] l[j]) ?_
  rintro _ _ _ ⟨rfl, rfl, rfl⟩
  simp -implicitDefEqProofs [go_sem, show ¬ (l[j + 1] < l[j]) by omega]
  refine Wp.s ?_
  simp -implicitDefEqProofs [go_sem]
  refine Wp.s ?_
  simp -implicitDefEqProofs [go_sem]
  refine ⟨j + 1 + 1, by omega, by omega, Sh.forget ?_ rfl rfl⟩
  simp [go_sem, w2]
theorem len64_cc (H : Hp) (V : List Nat) (n : Nat) (h : n < 256) : CC Tryz.prog 116 [.v (.int .u64 (n : Int))] H V (fun r H' V' => (∃ k : Int, r = ci k) ∧ H = H' ∧ V = V') := by
  refine CC.of_swp Tryz.func116 rfl (by kernel_rfl) (by rw [Tryz.ntmps116]; exact len_le _ _ rfl) fun hok hokH => ?_
  clear hok
  have w1 : IntKind.u8.wrap (n : Int) = n := by rw [IntKind.wrap_u8]; omega
  refine SWp.seq (Wp.s ?_)
  simp -implicitDefEqProofs [go_sem, args0]
  generalize hX : ByteArray.mk _ = X
  have hsz : Nat.ble 256 X.size = true := by rw [← hX]; kernel_rfl
  have hsz' : n < X.size := Nat.lt_of_lt_of_le h (Nat.le_of_ble_eq_true hsz)
  clear hX
  refine SWp.seq (SWp.seq (Wp.s ?_))
  simp -implicitDefEqProofs [go_sem, show ¬ (4294967296 : Int) ≤ n by omega]
  refine Wp.s ?_
  simp -implicitDefEqProofs [go_sem]
  refine SWp.seq (SWp.seq (Wp.s ?_))
  simp -implicitDefEqProofs [go_sem, show ¬ (65536 : Int) ≤ n by omega]
  refine Wp.s ?_
  simp -implicitDefEqProofs [go_sem]
  refine SWp.seq (SWp.seq (Wp.s ?_))
  simp -implicitDefEqProofs [go_sem, show ¬ (256 : Int) ≤ n by omega]
  refine Wp.s ?_
  simp -implicitDefEqProofs [go_sem]
  refine SWp.seq (Wp.s ?_)
  simp -implicitDefEqProofs [go_sem, w1, hsz']
  refine Wp.s ?_
  simp -implicitDefEqProofs [go_sem]
  exact Fin.cut H.length V.length ⟨⟨_, rfl⟩, rfl, rfl⟩ (Nat.le_refl _) (Nat.le_refl _) (by simp) (by simp) (.refl _) (by simp [go_sem]) hokH
theorem len_cc (H : Hp) (V : List Nat) (n : Nat) (h : n < 256) : CC Tryz.prog 83 [.v (.int .u64 (n : Int))] H V (fun r H' V' => (∃ k : Int, r = ci k) ∧ H = H' ∧ V = V') := by
  refine CC.of_swp Tryz.func83 rfl (by kernel_rfl) (by rw [Tryz.ntmps83]; exact len_le _ _ rfl) fun hok hokH => ?_
  clear hok
  refine SWp.seq (Wp.s ?_)
  simp -implicitDefEqProofs [go_sem, args0]
  refine Wp.s ?_
  simp -implicitDefEqProofs [go_sem]
  refine CC.mono (len64_cc _ _ n h) ?_
  rintro _ _ _ ⟨⟨k, rfl⟩, rfl, rfl⟩
  simp -implicitDefEqProofs [go_sem]
  exact Fin.cut H.length V.length ⟨⟨_, rfl⟩, rfl, rfl⟩ (Nat.le_refl _) (Nat.le_refl _) (by simp) (by simp) (.refl _) (by simp [go_sem]) hokH
theorem pdq_cc (H : Hp) (V : List Nat) (tk : Tk) (l : List Int) (k : Int) (hl : l.length ≤ 12) (hs : ∀ i (h : i + 1 < l.length), l[i] ≤ l[i + 1]) : CC Tryz.prog 82 [.sl tk 1 (l.map ic), ci 0, ci l.length, ci k] H V (Pu (.tup []) H V) := by
  refine CC.of_swp Tryz.func82 rfl (by kernel_rfl) (by rw [Tryz.ntmps82]; exact len_le _ _ rfl) fun hok hokH => ?_
  clear hok
  refine SWp.seq (Wp.s ?_)
  simp -implicitDefEqProofs [go_sem, args0]
  refine SWp.seq (Wp.s ?_)
  simp -implicitDefEqProofs [go_sem]
  refine SWp.block ?_
  refine SWp.loop (α := Unit) (fun _ => ([(0, .sl tk 1 (l.map ic)), (1, ci 0), (2, ci l.length)], H, V)) (fun _ => True) (fun _ => 0) () trivial (Sh.forget (by simp [go_sem]) rfl rfl) ?_
  rintro _ -
  dsimp only
  refine SWp.block ?_
  have w1 : IntKind.i64.wrap (l.length : Int) = l.length := IntWalk.i64_in _ ⟨by omega, by omega⟩
  refine SWp.seq (Wp.s ?_)
  simp -implicitDefEqProofs [go_sem, w1]
  refine SWp.seq (SWp.seq (Wp.s ?_))
  simp -implicitDefEqProofs [go_sem, show (l.length : Int) ≤ 12 by omega]
  refine Wp.s ?_
  simp -implicitDefEqProofs [go_sem]
  refine CC.mono (ins_cc _ _ tk l (by omega) hs) ?_
  rintro _ _ _ ⟨rfl, rfl, rfl⟩
  simp -implicitDefEqProofs [go_sem]
  exact Fin.self ⟨rfl, rfl, rfl⟩
theorem sort_cc (H : Hp) (V : List Nat) (tk : Tk) (l : List Int) (hl : l.length ≤ 12) (hs : ∀ i (h : i + 1 < l.length), l[i] ≤ l[i + 1]) : CC Tryz.prog 42 [.sl tk 1 (l.map ic)] H V (Pu (.tup []) H V) := by
  refine CC.of_swp Tryz.func42 rfl (by kernel_rfl) (by rw [Tryz.ntmps42]; exact len_le _ _ rfl) fun hok hokH => ?_
  clear hok
  have w1 : IntKind.u64.wrap (l.length : Int) = l.length := by rw [IntKind.wrap_u64]; omega
  refine SWp.seq (Wp.s ?_)
  simp -implicitDefEqProofs [go_sem, args0]
  refine Wp.s ?_
  simp -implicitDefEqProofs [go_sem, w1]
  refine CC.mono (len_cc _ _ l.length (by omega)) ?_
  rintro _ _ _ ⟨⟨k, rfl⟩, rfl, rfl⟩
  simp -implicitDefEqProofs [go_sem]
  refine CC.mono (pdq_cc _ _ tk l k hl hs) ?_
  rintro _ _ _ ⟨rfl, rfl, rfl⟩
  simp -implicitDefEqProofs [go_sem]
  exact Fin.self ⟨rfl, rfl, rfl⟩
theorem sortNil_cc (H : Hp) (V : List Nat) : CC Tryz.prog 42 [.v (.slice none 0 0)] H V (Pu (.tup []) H V) :=
  CC.le (.cons (.nil 1 (by decide)) .nil) (sort_cc H V .sh [] (by simp) (fun i h => by simp at h))
end Go.Proofs.YtpadnceoacbaeaaGreat
namespace Go.Proofs.YtpadnceoacbaeaaGreat
open Go.Proofs
section
variable (n : Int) (app : List Int) (lost : List Bool)
@[simp] theorem markU_len : ∀ i, (markU n app lost i).length = lost.length
  | 0 => rfl
  | i + 1 => by
    rw [markU]
    split
    · rw [List.length_set, markU_len i]
    · exact markU_len i
theorem markU_get : ∀ (i j : Nat), i ≤ j → (markU n app lost i)[j]? = lost[j]?
  | 0, j, _ => rfl
  | i + 1, j, h => by
    rw [markU]
    split
    · rw [List.getElem?_set_ne (by omega), markU_get i j (by omega)]
    · exact markU_get i j (by omega)
theorem markU_lt : ∀ (i j : Nat), j < i → (markU n app lost i)[j]? = (lost[j]?).map fun b => b || decide (app[j]? = some n)
  | i + 1, j, h => by
    rw [markU]
    by_cases e : j = i
    · subst e
      split
      · rename_i q
        rw [List.getElem?_set, if_pos rfl, markU_len]
        by_cases hl : j < lost.length
        · rw [if_pos hl, List.getElem?_eq_getElem hl]; simp [q]
        · rw [if_neg hl, List.getElem?_eq_none (l := lost) (by omega)]; rfl
      · rename_i q
        rw [markU_get _ _ _ j j (Nat.le_refl _)]
        cases lost[j]? <;> simp [q]
    · split
      · rw [List.getElem?_set_ne (by omega), markU_lt i j (by omega)]
      · exact markU_lt i j (by omega)
theorem markU_keep {i : Nat} (h : lost[i]? = some true) : (markU n app lost i).set i true = markU n app lost i := by
  refine List.ext_getElem? fun j => ?_
  by_cases e : i = j
  · subst e
    rw [List.getElem?_set, if_pos rfl, markU_get _ _ _ _ _ (Nat.le_refl _), h, if_pos]
    rw [markU_len]; exact (List.getElem?_eq_some_iff.1 h).1
  · rw [List.getElem?_set_ne e]
theorem lostU_le : ∀ i, (lostU n app lost i).length ≤ i
  | 0 => Nat.le_refl _
  | i + 1 => by
    have := lostU_le i
    rw [lostU]
    split
    · rw [List.length_append, List.length_singleton]; omega
    · omega
theorem lostU_lt : ∀ i, ∀ x ∈ lostU n app lost i, x < i
  | 0, x, h => by cases h
  | i + 1, x, h => by
    rw [lostU] at h
    split at h
    · rcases List.mem_append.1 h with h | h
      · have := lostU_lt i x h; omega
      · rw [List.mem_singleton] at h; omega
    · have := lostU_lt i x h; omega
def Srt (l : List Int) : Prop := ∀ i (h : i + 1 < l.length), l[i] ≤ l[i + 1]
theorem lostU_srt : ∀ i, Srt (lostU n app lost i)
  | 0 => fun i h => by simp [lostU] at h
  | i + 1 => by
    rw [lostU]
    split
    · intro k h
      rw [List.length_append, List.length_singleton] at h
      by_cases e : k + 1 = (lostU n app lost i).length
      · have hk : k < (lostU n app lost i).length := by omega
        rw [List.getElem_append_left hk, List.getElem_append_right (by omega)]
        have := lostU_lt n app lost i _ (List.getElem_mem hk)
        simp only [List.getElem_singleton]
        omega
      · rw [List.getElem_append_left (by omega), List.getElem_append_left (by omega)]
        exact lostU_srt i k (by omega)
    · exact lostU_srt i
end
theorem leastI_mem : ∀ (l : List (Int × Bool)) (z : Int), l.foldl leastS z = z ∨ ∃ x ∈ l, x.2 = false ∧ l.foldl leastS z = x.1
  | [], z => .inl rfl
  | x :: l, z => by
    rw [List.foldl_cons]
    rcases leastI_mem l (leastS z x) with h | ⟨y, hy, h1, h2⟩
    · rw [h, leastS]
      split
      · rename_i q; exact .inr ⟨x, List.mem_cons_self, q.1, rfl⟩
      · exact .inl rfl
    · exact .inr ⟨y, List.mem_cons_of_mem _ hy, h1, h2⟩
theorem kErr_0 {k : List Cyc} {i : Nat} (h : i < k.length) (hk : kErr k i = 0) : chkC k[i] mostS = 0 := by
  apply Classical.byContradiction
  intro q
  rw [kErr_chk h q] at hk; exact q hk
theorem chkC_lt {c : Cyc} {s : List Int} (h : chkC c s = 0) : c.base < c.number ∧ 0 ≤ c.base := by
  unfold chkC at h
  split at h
  · rename_i q; exact absurd h q
  · split at h
    · cases h
    · omega
theorem kept_mono {k : List Cyc} (hk : fstE (kErr k) k.length = 0) : ∀ (i : Nat) (h : i < k.length), (k[0]'(by omega)).number ≤ k[i].number
  | 0, h => Int.le_refl _
  | i + 1, h => by
    have h1 := kept_mono hk i (by omega)
    have h2 := fstE_0 hk (i + 1) h
    have h3 := kErr_0 h h2
    have h4 := chkC_lt h3
    rw [kErr_s h h3] at h2
    split at h2
    · rename_i e; omega
    · cases h2
theorem chkF_rest {f : Fan} (h : chkF f = 0) : fstE (kErr f.kept) f.kept.length = 0 ∧ (f.app.zip f.lost).any (badT f) = false ∧ headE f = 0 := by
  unfold chkF at h
  split at h
  · cases h
  · split at h
    · cases h
    · split at h
      · cases h
      · split at h
        · rename_i q; exact absurd h q
        · rename_i q
          split at h
          · cases h
          · rename_i q2
            exact ⟨by simpa using q, by simpa using q2, h⟩
theorem dropWhile_len {α : Type} (p : α → Bool) : ∀ l : List α, (l.dropWhile p).length ≤ l.length
  | [] => Nat.le_refl _
  | a :: l => by
    rw [List.dropWhile_cons]
    split
    · have := dropWhile_len p l; rw [List.length_cons]; omega
    · exact Nat.le_refl _
/-- One round is enough. -/
theorem evict_len {f : Fan} {c : Cyc} (h : chkF f = 0) (hl : f.limit < f.kept.length + 1) : ((tidyF ⟨f.limit, f.kept ++ [c], f.app, markU (leastF f) f.app f.lost f.app.length⟩).kept.length : Int) ≤ f.limit := by
  obtain ⟨l1, l2, l3, l4, l5, l6⟩ := chkF_lens h
  obtain ⟨a, b, hp⟩ := chkF_pre h
  obtain ⟨r1, r2, r3⟩ := chkF_rest h
  have hk0 : 0 < f.kept.length := by omega
  obtain ⟨c0, rest, hk⟩ : ∃ c0 rest, f.kept = c0 :: rest := by
    cases hq : f.kept with
    | nil => rw [hq] at hk0; simp at hk0
    | cons c0 rest => exact ⟨c0, rest, rfl⟩
  have hb : leastF f = c0.base := by
    rw [headE, hk] at r3
    dsimp only at r3
    split at r3
    · assumption
    · cases r3
  have e0 : f.kept[0] = c0 := by simp [hk]
  suffices hn : needK (leastF ⟨f.limit, f.kept ++ [c], f.app, markU (leastF f) f.app f.lost f.app.length⟩) c0 = false by
    show ((tidyK (leastF ⟨f.limit, f.kept ++ [c], f.app, markU (leastF f) f.app f.lost f.app.length⟩) (f.kept ++ [c])).length : Int) ≤ f.limit
    generalize leastF ⟨f.limit, f.kept ++ [c], f.app, markU (leastF f) f.app f.lost f.app.length⟩ = n' at hn ⊢
    rw [tidyK, hk, List.cons_append, List.dropWhile_cons, if_pos (by rw [hn]; rfl)]
    have := dropWhile_len (fun x => !needK n' x) (rest ++ [c])
    rw [hk, List.length_cons] at hp hl
    rw [List.length_append, List.length_singleton] at this
    omega
  rcases leastI_mem (f.app.zip (markU (leastF f) f.app f.lost f.app.length)) (-1) with q | ⟨x, hx, x1, x2⟩
  · have : leastF ⟨f.limit, f.kept ++ [c], f.app, markU (leastF f) f.app f.lost f.app.length⟩ = -1 := q
    rw [this, needK]; rfl
  · have e : leastF ⟨f.limit, f.kept ++ [c], f.app, markU (leastF f) f.app f.lost f.app.length⟩ = x.1 := x2
    rw [e]
    obtain ⟨j, hj, rfl⟩ := List.getElem_of_mem hx
    rw [List.length_zip, markU_len] at hj
    have ha : j < f.app.length := by omega
    have hlo : j < f.lost.length := by omega
    rw [List.getElem_zip] at x1 ⊢
    dsimp only at x1 ⊢
    have m := markU_lt (leastF f) f.app f.lost f.app.length j ha
    rw [List.getElem?_eq_getElem (by rw [markU_len]; exact hlo), List.getElem?_eq_getElem hlo, List.getElem?_eq_getElem ha, x1] at m
    have m1 : f.lost[j] = false ∧ f.app[j] ≠ leastF f := by
      simp at m
      exact ⟨m.1.symm ▸ rfl, m.2⟩
    have nb := List.any_eq_false.1 r2 (f.app[j], f.lost[j]) (by
      have : (f.app.zip f.lost)[j]'(by rw [List.length_zip]; omega) = (f.app[j], f.lost[j]) := List.getElem_zip
      rw [← this]; exact List.getElem_mem _)
    have bd : bndF f f.app[j] = true := by
      simp [badT, m1.1] at nb
      exact nb.2
    have : ∃ (i : Nat) (hi : i < f.kept.length), f.kept[i].number = f.app[j] := by
      rw [bndF, hk, ← hk] at bd
      have bd : (f.app[j] = newF f ∨ numF f f.app[j] = true) ∨ c0.base = f.app[j] := by simpa [hk] using bd
      rcases bd with (bd | bd) | bd
      · refine ⟨f.kept.length - 1, by omega, ?_⟩
        rw [bd, newF, List.getLast?_eq_getElem?, List.getElem?_eq_getElem (by omega)]
      · rw [numF, List.any_eq_true] at bd
        obtain ⟨d, hd, e⟩ := bd
        obtain ⟨i, hi, rfl⟩ := List.getElem_of_mem hd
        exact ⟨i, hi, by simpa using e⟩
      · exact absurd (by rw [hb]; exact bd.symm) m1.2
    obtain ⟨i, hi, e2⟩ := this
    have := kept_mono r1 i hi
    rw [e0] at this
    simp [needK]
    omega
end Go.Proofs.YtpadnceoacbaeaaGreat
namespace Go.Proofs.YtpadnceoacbaeaaGreat
open Go.Proofs
theorem set_same {G : Hp} {b : Nat} {x : Option (List CV)} (h : G[b]? = some x) : G.set b x = G := by
  obtain ⟨h1, h2⟩ := List.getElem?_eq_some_iff.1 h
  rw [← h2, List.set_getElem_self]
theorem CopR.zeroP {f : Fan} {c : Cyc} {H G X : Hp} (h : G = (H ++ [some (fanC f), some (cycC c), some fanZ]) ++ X) : G[H.length]? = some (some (fanC f)) ∧ G[H.length + 1]? = some (some (cycC c)) ∧ G[H.length + 2]? = some (some fanZ) ∧ G.take H.length = H ∧ H.length + 3 ≤ G.length := by
  subst h
  rw [List.append_assoc]
  refine ⟨by rw [at_len]; rfl, by rw [hget]; rfl, by rw [hget]; rfl, by simp, by simp⟩
theorem pushF_no {f : Fan} {c : Cyc} {k : List Cyc} (hk : k = f.kept ++ [c]) (h0 : chkF f = 0) (h1 : ¬ leastF f < 0) (h2 : chkC c mostS = 0) (h3 : c.base = newF f) (hev : ¬ f.limit < (f.kept.length : Int) + 1) : pushF f c = .ok (⟨f.limit, k, f.app, f.lost⟩, []) := by
  subst hk
  rw [pushF, if_neg (by simp [h0]), if_neg h1, if_neg (by simp [h2]), if_neg (by simp [h3]), evict, if_neg (by simp; omega)]
theorem pushF_ev {f : Fan} {c : Cyc} {k : List Cyc} (hk : k = f.kept ++ [c]) (h0 : chkF f = 0) (h1 : ¬ leastF f < 0) (h2 : chkC c mostS = 0) (h3 : c.base = newF f) (hev : f.limit < (f.kept.length : Int) + 1) : pushF f c = .ok (tidyF ⟨f.limit, k, f.app, markU (leastF f) f.app f.lost f.app.length⟩, lostU (leastF f) f.app f.lost f.app.length) := by
  subst hk
  rw [pushF, if_neg (by simp [h0]), if_neg h1, if_neg (by simp [h2]), if_neg (by simp [h3]), evict, if_pos (by simp; omega)]; rfl
theorem map_snoc_cyc (k : List Cyc) (c : Cyc) : k.map cycC ++ [cycC c] = (k ++ [c]).map cycC := by rw [List.map_append]; rfl
section
variable {n : Int} {app : List Int} {lost : List Bool} {i : Nat}
theorem markU_y (h : i < app.length) (h1 : app[i] = n) : markU n app lost (i + 1) = (markU n app lost i).set i true := by rw [markU, if_pos (by rw [List.getElem?_eq_getElem h, h1])]
theorem markU_n (h : i < app.length) (h1 : ¬ app[i] = n) : markU n app lost (i + 1) = markU n app lost i := by rw [markU, if_neg (by rw [List.getElem?_eq_getElem h]; simpa using h1)]
theorem lostU_y (h : i < app.length) (hl : i < lost.length) (h1 : app[i] = n) (h2 : lost[i] = false) : lostU n app lost (i + 1) = lostU n app lost i ++ [(i : Int)] := by rw [lostU, if_pos ⟨by rw [List.getElem?_eq_getElem h, h1], by rw [List.getElem?_eq_getElem hl, h2]⟩]
theorem lostU_n (h : i < app.length) (h1 : ¬ app[i] = n) : lostU n app lost (i + 1) = lostU n app lost i := by rw [lostU, if_neg (by rw [List.getElem?_eq_getElem h]; simp [h1])]
theorem lostU_t (hl : i < lost.length) (h2 : lost[i] = true) : lostU n app lost (i + 1) = lostU n app lost i := by rw [lostU, if_neg (by rw [List.getElem?_eq_getElem hl, h2]; simp)]
theorem markU_at (hl : i < lost.length) (h : i < (markU n app lost i).length) : (markU n app lost i)[i] = lost[i] := by
  have := markU_get n app lost i i (Nat.le_refl _)
  rw [List.getElem?_eq_getElem h, List.getElem?_eq_getElem hl] at this
  simpa using this
end
theorem Push_cc (H : Hp) (V : List Nat) (f : Fan) (c : Cyc) (hs : Sm f) (hc : CySm c) : CC Tryz.prog 11 [.agg (fanC f), .agg (cycC c)] H V (Pu (dvP (pushF f c)) H V) := by
  refine CC.of_swp Tryz.func11 rfl (by kernel_rfl) (by rw [Tryz.ntmps11]; exact len_le _ _ rfl) fun hok hokH => ?_
  clear hok
  have stop : ∀ {e : Nat} {H' : Hp} {V' : List Nat}, pushF f c = .error e → H'.take H.length = H → V'.take V.length = V → Fin H.length V.length (Pu (dvP (pushF f c)) H V) (.tup [.agg fanZ, nilS, er e]) H' V' := fun h1 h2 h3 => by
    rw [h1]; exact Fin.pu (.tup (.cons Le_zfan (.cons (.nil 1 (by decide)) (.cons (.refl _) .nil)))) (by simp [go_sem, dvP]) hokH h2 h3
  refine SWp.seq (Wp.s ?_)
  simp -implicitDefEqProofs [go_sem, args0]
  refine SWp.seq (SWp.seq (Wp.s ?_))
  simp -implicitDefEqProofs [go_sem]
  refine CC.mono (Check_cc _ _ f hs) ?_
  rintro _ _ _ ⟨rfl, rfl, rfl⟩
  by_cases h0 : chkF f = 0
  case neg =>
    simp -implicitDefEqProofs [go_sem, h0]
    refine Wp.s ?_
    simp -implicitDefEqProofs [go_sem, h0]
    exact stop (by rw [pushF, if_pos h0]) (by simp) (by simp)
  simp -implicitDefEqProofs [go_sem, h0]
  refine Wp.s ?_
  simp -implicitDefEqProofs [go_sem, h0]
  have hl : f.lost.length = f.app.length := (chkF_lens h0).2.2.1
  have hal := hs.al
  have hkl := hs.kl
  refine SWp.seq (SWp.seq (Wp.s ?_))
  simp -implicitDefEqProofs [go_sem]
  refine CC.mono (oldest_cc _ _ .sh .sh .sh f.limit f.kept f.app f.lost hl hal) ?_
  rintro _ _ _ ⟨rfl, rfl, rfl⟩
  rw [← leastF_eq]
  by_cases h1 : leastF f < 0
  · simp -implicitDefEqProofs [go_sem, h1]
    refine Wp.s ?_
    simp -implicitDefEqProofs [go_sem]
    exact stop (by rw [pushF, if_neg (by simp [h0]), if_pos h1]) (by simp) (by simp)
  simp -implicitDefEqProofs [go_sem, h1]
  refine Wp.s ?_
  simp -implicitDefEqProofs [go_sem]
  refine SWp.join (α := Unit) (fun _ => ([(2, .ptr H.length 0), (3, .ptr (H.length + 1) 0), (4, .ptr (H.length + 2) 0)], H ++ [some (fanC f), some (cycC c), some fanZ], V)) (fun _ => chkC c mostS = 0) ?_ ?_
  · refine SWp.seq (SWp.drawnT [] [] (.s 0 .pl <| .s 1 .pl <| .s 2 .pl <| .s 3 .pl <| .n) (by kernel_rfl) (by kernel_rfl) ?_)
    simp -implicitDefEqProofs [go_sem]
    refine CC.mono (most_f_cc _ _) ?_
    rintro _ _ _ ⟨rfl, rfl, rfl⟩
    simp -implicitDefEqProofs [go_sem]
    refine CC.mono (cCheck_cc _ _ .sh c mostS (by have := hc.wl; omega) hc.ws (by simp [mostS]) (by have := hc.pl; omega)) ?_
    rintro _ _ _ ⟨rfl, rfl, rfl⟩
    by_cases h2 : chkC c mostS = 0
    case neg =>
      simp -implicitDefEqProofs [go_sem, h2]
      refine Wp.s ?_
      simp -implicitDefEqProofs [go_sem, h2]
      exact stop (by rw [pushF, if_neg (by simp [h0]), if_neg h1, if_pos h2]) (by simp) (by simp)
    simp -implicitDefEqProofs [go_sem, h2]
    refine Wp.s ?_
    simp -implicitDefEqProofs [go_sem, h2]
    exact Sh.trim (by simp [go_sem]) (by simp [go_sem]) hokH (by simp [go_sem, fanZ]) (by simp) (by simp [fanZ]) (by simp)
  rintro _ h2
  dsimp only
  refine SWp.seq (SWp.seq (SWp.drawnT [] [] (.s 0 .pl <| .s 1 .pl <| .s 2 .pl <| .s 3 .pl <| .s 4 .pl <| .n) (by kernel_rfl) (by kernel_rfl) ?_))
  simp -implicitDefEqProofs [go_sem]
  refine CC.mono (newest_cc _ _ f (chkF_ok hs h0)) ?_
  rintro _ _ _ ⟨rfl, rfl, rfl⟩
  by_cases h3 : c.base = newF f
  case neg =>
    simp -implicitDefEqProofs [go_sem, h3]
    refine Wp.s ?_
    simp -implicitDefEqProofs [go_sem]
    refine ⟨by decide, ?_⟩
    exact stop (by rw [pushF, if_neg (by simp [h0]), if_neg h1, if_neg (by simp [h2]), if_pos h3]) (by simp) (by simp)
  simp -implicitDefEqProofs [go_sem, h3]
  refine Wp.s ?_
  simp -implicitDefEqProofs [go_sem]
  refine SWp.seq (Wp.s ?_)
  simp -implicitDefEqProofs [go_sem]
  refine CC.mono (copied_cc _ _ f hs (chkF_cp h0)) ?_
  rintro _ G _ hR
  obtain ⟨b1, b2, v, X, rfl, hX, rfl, g1, g2, hne, l1, l2⟩ := hR.elim
  obtain ⟨gf, gc, gz, gt, gl⟩ := CopR.zeroP hX
  rw [List.length_append] at l1 l2
  simp only [List.length_cons, List.length_nil] at l1 l2
  clear hX hR stop
  obtain ⟨k, hk⟩ : ∃ k, k = f.kept ++ [c] := ⟨_, rfl⟩
  have hkm : f.kept.map cycC ++ [cycC c] = k.map cycC := by rw [hk, List.map_append]; rfl
  have hkk : k.length = f.kept.length + 1 := by rw [hk, List.length_append]; rfl
  have n1 : b1 < G.length := (List.getElem?_eq_some_iff.1 g1).1
  have n2 : b2 < G.length := (List.getElem?_eq_some_iff.1 g2).1
  simp -implicitDefEqProofs [go_sem]
  refine SWp.join (α := Unit) (fun _ => ([(2, .ptr H.length 0), (4, .ptr (H.length + 2) 0), (9, .ptr G.length 0)], G ++ [some [ci f.limit, .sl (.own V.length (v + 1)) 5 (k.map cycC), .bsl b1 0 f.app.length 1, .bsl b2 0 f.app.length 1]], V ++ [v + 1])) (fun _ => True) ?_ ?_
  · refine SWp.drawnT [H.length + 1] [7] (.s 0 .pl <| .s 1 .pl <| .s 2 .pl <| .s 3 .pl <| .s 4 .pl <| .s 5 .pl <| .s 6 .pl <| .s 7 .st <| .n) (by kernel_rfl) (by kernel_rfl) ?_
    simp -implicitDefEqProofs [go_sem, hbx_of (at_old _ [some [ci f.limit, .sl (.own V.length v) 5 (f.kept.map cycC), .bsl b1 0 f.app.length 1, .bsl b2 0 f.app.length 1]] gc)]
    refine CC.mono (copyCyc_cc _ _ c hc) ?_
    rintro _ _ _ ⟨rfl, rfl, rfl⟩
    simp -implicitDefEqProofs [go_sem]
    refine ⟨by omega, Kp_one (by rw [List.getElem?_append_left (by omega), List.getElem?_append_left (by omega)]), ?_⟩
    exact Sh.forget (by simp [go_sem]) (by rw [← hkm]) rfl
  rintro _ -
  dsimp only
  refine SWp.seq (Wp.s ?_)
  simp -implicitDefEqProofs [go_sem]
  by_cases hev : f.limit < (f.kept.length : Int) + 1
  case neg =>
    rw [pushF_no hk h0 h1 h2 h3 hev]
    have gzo := at_old G [some [ci f.limit, .sl (.own V.length (v + 1)) 5 (k.map cycC), .bsl b1 0 f.app.length 1, .bsl b2 0 f.app.length 1]] gz
    refine SWp.join (α := Unit) (fun _ => ([(2, .ptr H.length 0), (4, .ptr (H.length + 2) 0), (9, .ptr G.length 0), (10, nilS)], G ++ [some [ci f.limit, .sl (.own V.length (v + 1)) 5 (k.map cycC), .bsl b1 0 f.app.length 1, .bsl b2 0 f.app.length 1]], V ++ [v + 1])) (fun _ => True) ?_ ?_
    · refine SWp.block ?_
      refine SWp.loop (α := Unit) (fun _ => ([(2, .ptr H.length 0), (4, .ptr (H.length + 2) 0), (9, .ptr G.length 0), (10, nilS)], G ++ [some [ci f.limit, .sl (.own V.length (v + 1)) 5 (k.map cycC), .bsl b1 0 f.app.length 1, .bsl b2 0 f.app.length 1]], V ++ [v + 1])) (fun _ => True) (fun _ => 0) () trivial (Sh.forget (by simp [go_sem]) rfl rfl) ?_
      rintro _ -
      dsimp only
      refine SWp.seq (SWp.seq (Wp.s ?_))
      simp -implicitDefEqProofs [go_sem, hkk, hev]
      refine Wp.s ?_
      simp -implicitDefEqProofs [go_sem]
      exact Sh.forget (by simp [go_sem]) rfl rfl
    rintro _ -
    dsimp only
    refine SWp.seq (Wp.s ?_)
    simp -implicitDefEqProofs [go_sem]
    refine CC.mono (sortNil_cc _ _) ?_
    rintro _ _ _ ⟨rfl, rfl, rfl⟩
    simp -implicitDefEqProofs [go_sem]
    refine SWp.seq (Wp.s ?_)
    simp -implicitDefEqProofs [go_sem, hbx_of gzo, set_old _ _ _ gz]
    refine ⟨by decide, ?_⟩
    refine Wp.s ?_
    simp -implicitDefEqProofs [go_sem, hbx_sa (show H.length + 2 < G.length by omega)]
    have e1 := chunk_ci f.app f.app.length rfl
    have e2 := chunk_bo f.lost f.app.length hl
    refine Fin.froz2 (b := b1) (b' := b2) (cs := f.app.map ci) (cs' := f.lost.map cbo) (r4 := dvP (.ok (⟨f.limit, k, f.app, f.lost⟩, []))) (r3 := .tup [.agg [ci f.limit, .sl (.own V.length (v + 1)) 5 (k.map cycC), .sl .sh 1 (f.app.map ic), .sl .sh 1 (f.lost.map boE)], nilS, er 0]) (r2 := .tup [.agg [ci f.limit, .sl (.own V.length (v + 1)) 5 (k.map cycC), .sl .sh 1 (f.app.map ic), .bsl b2 0 f.app.length 1], nilS, er 0]) (r1 := .tup [.agg [ci f.limit, .sl (.own V.length (v + 1)) 5 (k.map cycC), .bsl b1 0 f.app.length 1, .bsl b2 0 f.app.length 1], nilS, er 0]) ⟨rfl, rfl, rfl⟩ ?_ ?_ (.tup (.cons (.agg (.cons (.refl _) (.cons (.refl _) (.cons ?_ (.cons (.refl _) .nil))))) (.cons (.refl _) (.cons (.refl _) .nil)))) ?_ (.tup (.cons (.agg (.cons (.refl _) (.cons (.refl _) (.cons (.refl _) (.cons ?_ .nil))))) (.cons (.refl _) (.cons (.refl _) .nil)))) (.tup (.cons (.agg (.cons (.refl _) (.cons (.sh ..) (.cons (.refl _) (.cons (.refl _) .nil))))) (.cons (.nil 1 (by decide)) (.cons (.refl _) .nil)))) (by omega) (by omega) (by simp [go_sem, dvP]) hokH ?_ (by simp)
    · exact .refl _
    · rw [List.getElem?_append_left (by simpa using n1), List.getElem?_set_ne (by omega)]; exact g1
    · rw [← e1]; exact .bsl 0 _ 1 (by simp)
    · rw [List.getElem?_set_ne hne, List.getElem?_append_left (by simpa using n2), List.getElem?_set_ne (by omega)]; exact g2
    · rw [← e2]; exact .bsl 0 _ 1 (by simp [hl])
    · rw [List.take_append_of_le_length (by simp; omega), List.take_set_of_le (by omega)]; exact gt
  obtain ⟨g, hg⟩ : ∃ g, g = tidyF ⟨f.limit, k, f.app, markU (leastF f) f.app f.lost f.app.length⟩ := ⟨_, rfl⟩
  have gl1 : g.limit = f.limit := by rw [hg]; rfl
  have gl2 : ¬ f.limit < (g.kept.length : Int) := by
    have := evict_len (c := c) h0 hev
    rw [← hk, ← hg] at this
    omega
  have e0 := pushF_ev hk h0 h1 h2 h3 hev
  rw [← hg] at e0
  have hsk : Sm ⟨f.limit, k, f.app, markU (leastF f) f.app f.lost f.app.length⟩ := ⟨by show k.length ≤ 1000000; have := (chkF_lens h0).2.2.2.2.2; omega, hal, by rw [markU_len]; exact hs.ll, fun d hd => by
    rw [hk] at hd
    rcases List.mem_append.1 hd with hd | hd
    · exact hs.kc d hd
    · rw [List.mem_singleton] at hd; subst hd; exact ⟨hc.wl, hc.ws, hc.pl⟩⟩
  refine SWp.join (α := Option Hp) (fun x => match x with
    | none => ([(2, .ptr H.length 0), (4, .ptr (H.length + 2) 0), (9, .ptr G.length 0)], G, V)
    | some K => ([(2, .ptr H.length 0), (4, .ptr (H.length + 2) 0), (9, .ptr G.length 0), (10, .sl (.own (V.length + 1) (lostU (leastF f) f.app f.lost f.app.length).length) 1 ((lostU (leastF f) f.app f.lost f.app.length).map ic))], K, V ++ [v + 1, (lostU (leastF f) f.app f.lost f.app.length).length])) (fun x => x ≠ none ∧ ((fun (x : Option Hp) => ∀ K, x = some K → K.take H.length = H ∧ K[H.length]? = some (some (fanC f)) ∧ K[H.length + 2]? = some (some fanZ) ∧ K[G.length]? = some (some (fanC g)) ∧ H.length + 2 < K.length) x)) ?_ ?_
  · refine SWp.block ?_
    refine SWp.loop (α := Option Hp) (fun x => match x with
      | none => ([(2, .ptr H.length 0), (4, .ptr (H.length + 2) 0), (9, .ptr G.length 0), (10, .sl (.own (V.length + 1) 0) 1 [])], G ++ [some [ci f.limit, .sl (.own V.length (v + 1)) 5 (k.map cycC), .bsl b1 0 f.app.length 1, .bsl b2 0 f.app.length 1]], V ++ [v + 1, 0])
      | some K => ([(2, .ptr H.length 0), (4, .ptr (H.length + 2) 0), (9, .ptr G.length 0), (10, .sl (.own (V.length + 1) (lostU (leastF f) f.app f.lost f.app.length).length) 1 ((lostU (leastF f) f.app f.lost f.app.length).map ic))], K, V ++ [v + 1, (lostU (leastF f) f.app f.lost f.app.length).length])) (fun (x : Option Hp) => ∀ K, x = some K → K.take H.length = H ∧ K[H.length]? = some (some (fanC f)) ∧ K[H.length + 2]? = some (some fanZ) ∧ K[G.length]? = some (some (fanC g)) ∧ H.length + 2 < K.length) (fun x => match x with | none => 1 | some _ => 0) none (fun K h => by cases h) (Sh.tokT (by simp [go_sem]) rfl (by simp)) ?_
    intro x hx
    match x with
    | some K =>
      obtain ⟨k1, k2, k3, k4, k5⟩ := hx K rfl
      dsimp only
      refine SWp.seq (SWp.seq (Wp.s ?_))
      simp -implicitDefEqProofs [go_sem, hbx_of k4, gl1, gl2]
      refine Wp.s ?_
      simp -implicitDefEqProofs [go_sem]
      exact ⟨some K, ⟨by simp, hx⟩, Sh.forget (by simp [go_sem]) rfl rfl⟩
    | none =>
    dsimp only
    refine SWp.seq (SWp.seq (Wp.s ?_))
    simp -implicitDefEqProofs [go_sem, hkk, hev]
    refine Wp.s ?_
    simp -implicitDefEqProofs [go_sem]
    refine SWp.block (SWp.seq (Wp.s ?_))
    simp -implicitDefEqProofs [go_sem]
    refine CC.mono (oldestB_cc _ _ _ f.limit k f.app f.lost b1 b2 f.app.length rfl hl hal (at_old _ _ g1) (at_old _ _ g2)) ?_
    rintro _ _ _ ⟨rfl, rfl, rfl⟩
    rw [← leastF_eq]
    simp -implicitDefEqProofs [go_sem]
    refine SWp.join (α := Unit) (fun _ => ([(2, .ptr H.length 0), (4, .ptr (H.length + 2) 0), (9, .ptr G.length 0), (10, .sl (.own (V.length + 1) (lostU (leastF f) f.app f.lost f.app.length).length) 1 ((lostU (leastF f) f.app f.lost f.app.length).map ic))], G.set b2 (some ((markU (leastF f) f.app f.lost f.app.length).map cbo)) ++ [some [ci f.limit, .sl (.own V.length (v + 1)) 5 (k.map cycC), .bsl b1 0 f.app.length 1, .bsl b2 0 f.app.length 1]], V ++ [v + 1, (lostU (leastF f) f.app f.lost f.app.length).length])) (fun _ => True) ?_ ?_
    · refine SWp.seq (Wp.s ?_)
      simp -implicitDefEqProofs [go_sem]
      refine SWp.block ?_
      refine SWp.loop (α := Nat) (fun i => ([(2, .ptr H.length 0), (4, .ptr (H.length + 2) 0), (9, .ptr G.length 0), (10, .sl (.own (V.length + 1) (lostU (leastF f) f.app f.lost i).length) 1 ((lostU (leastF f) f.app f.lost i).map ic)), (11, ci (leastF f)), (55, .bsl b1 0 f.app.length 1), (56, ci f.app.length), (57, ci i)], G.set b2 (some ((markU (leastF f) f.app f.lost i).map cbo)) ++ [some [ci f.limit, .sl (.own V.length (v + 1)) 5 (k.map cycC), .bsl b1 0 f.app.length 1, .bsl b2 0 f.app.length 1]], V ++ [v + 1, (lostU (leastF f) f.app f.lost i).length])) (fun i => i ≤ f.app.length) (fun i => f.app.length - i) 0 (Nat.zero_le _) (Sh.forget (by simp [go_sem, lostU]) (by rw [markU, set_same g2]) rfl) ?_
      intro i hi
      dsimp only
      have g1' : (G.set b2 (some ((markU (leastF f) f.app f.lost i).map cbo)))[b1]? = some (some (f.app.map ci)) := by rw [List.getElem?_set_ne (by omega)]; exact g1
      have g2' : (G.set b2 (some ((markU (leastF f) f.app f.lost i).map cbo)))[b2]? = some (some ((markU (leastF f) f.app f.lost i).map cbo)) := by rw [List.getElem?_set_self n2]
      have gB : (G.set b2 (some ((markU (leastF f) f.app f.lost i).map cbo)) ++ [some [ci f.limit, .sl (.own V.length (v + 1)) 5 (k.map cycC), .bsl b1 0 f.app.length 1, .bsl b2 0 f.app.length 1]])[G.length]? = some (some [ci f.limit, .sl (.own V.length (v + 1)) 5 (k.map cycC), .bsl b1 0 f.app.length 1, .bsl b2 0 f.app.length 1]) := by rw [List.getElem?_append_right (by simp)]; simp
      have q1 := at_old _ [some [ci f.limit, .sl (.own V.length (v + 1)) 5 (k.map cycC), .bsl b1 0 f.app.length 1, .bsl b2 0 f.app.length 1]] g1'
      have q2 := at_old _ [some [ci f.limit, .sl (.own V.length (v + 1)) 5 (k.map cycC), .bsl b1 0 f.app.length 1, .bsl b2 0 f.app.length 1]] g2'
      have ml : (markU (leastF f) f.app f.lost i).length = f.app.length := by rw [markU_len, hl]
      refine SWp.seq (Wp.s ?_)
      simp -implicitDefEqProofs [go_sem]
      refine SWp.seq (Wp.s ?_)
      simp -implicitDefEqProofs [go_sem]
      refine ⟨fun h => ?_, fun h => ?_⟩
      case refine_2 =>
        obtain rfl : i = f.app.length := by omega
        exact Sh.forget (by simp [go_sem]) rfl rfl
      have hm : i < (markU (leastF f) f.app f.lost i).length := by omega
      have hlo : i < f.lost.length := by omega
      have hat := markU_at (n := leastF f) (app := f.app) hlo hm
      refine SWp.seq (SWp.block (SWp.seq (Wp.s ?_)))
      simp -implicitDefEqProofs [go_sem, hbx_of q1, h]
      refine SWp.seq (Wp.s ?_)
      by_cases c1 : f.app[i] = leastF f
      case neg =>
        simp -implicitDefEqProofs [go_sem, c1]
        refine Wp.s ?_
        simp -implicitDefEqProofs [go_sem]
        refine Wp.s ?_
        simp -implicitDefEqProofs [go_sem]
        refine ⟨i + 1, by omega, by omega, Sh.forget ?_ ?_ ?_⟩
        · simp [go_sem, wrap_succ (show i ≤ 1000000000 by omega), lostU_n h c1]
        · rw [markU_n h c1]
        · rw [lostU_n h c1]
      cases c2 : f.lost[i] with
      | true =>
        rw [c2] at hat
        simp -implicitDefEqProofs [go_sem, c1, hbx_of gB, hbx_of q2, h, hm, hlo, hat]
        refine Wp.s ?_
        simp -implicitDefEqProofs [go_sem]
        refine Wp.s ?_
        simp -implicitDefEqProofs [go_sem]
        refine ⟨i + 1, by omega, by omega, Sh.forget ?_ ?_ ?_⟩
        · simp [go_sem, wrap_succ (show i ≤ 1000000000 by omega), lostU_t hlo c2]
        · rw [markU_y h c1, markU_keep _ _ _ (by rw [List.getElem?_eq_getElem hlo, c2])]
        · rw [lostU_t hlo c2]
      | false =>
        rw [c2] at hat
        have hll := lostU_le (leastF f) f.app f.lost i
        simp -implicitDefEqProofs [go_sem, c1, hbx_of gB, hbx_of q2, h, hm, hlo, hat]
        refine Wp.s ?_
        simp -implicitDefEqProofs [go_sem, hbx_of gB, hbx_of q2, h, hm, hlo, set_old _ _ _ g2', set_cbo hm true, show i + 1 ≤ f.lost.length by omega]
        refine ⟨by omega, ?_⟩
        refine Wp.s ?_
        simp -implicitDefEqProofs [go_sem]
        refine ⟨i + 1, by omega, by omega, Sh.forget ?_ ?_ ?_⟩
        · simp [go_sem, wrap_succ (show i ≤ 1000000000 by omega), lostU_y h hlo c1 c2]
          exact .refl _
        · rw [markU_y h c1, List.map_set]
        · rw [lostU_y h hlo c1 c2, List.length_append]; rfl
    rintro _ -
    dsimp only
    have g1' : (G.set b2 (some ((markU (leastF f) f.app f.lost f.app.length).map cbo)))[b1]? = some (some (f.app.map ci)) := by rw [List.getElem?_set_ne (by omega)]; exact g1
    have g2' : (G.set b2 (some ((markU (leastF f) f.app f.lost f.app.length).map cbo)))[b2]? = some (some ((markU (leastF f) f.app f.lost f.app.length).map cbo)) := by rw [List.getElem?_set_self n2]
    have gB : (G.set b2 (some ((markU (leastF f) f.app f.lost f.app.length).map cbo)) ++ [some [ci f.limit, .sl (.own V.length (v + 1)) 5 (k.map cycC), .bsl b1 0 f.app.length 1, .bsl b2 0 f.app.length 1]])[G.length]? = some (some [ci f.limit, .sl (.own V.length (v + 1)) 5 (k.map cycC), .bsl b1 0 f.app.length 1, .bsl b2 0 f.app.length 1]) := by rw [List.getElem?_append_right (by simp)]; simp
    refine Wp.s ?_
    simp -implicitDefEqProofs [go_sem, hbx_of gB]
    refine CC.letFan (app := f.app) (lost := markU (leastF f) f.app f.lost f.app.length) rfl (by rw [markU_len]; exact hl) (at_old _ _ g1') (at_old _ _ g2') hne ?_
    refine CC.mono (tidy_cc _ _ ⟨f.limit, k, f.app, markU (leastF f) f.app f.lost f.app.length⟩ hsk (by rw [markU_len]; exact hl)) ?_
    rintro _ K _ ⟨rfl, hK, rfl⟩
    rw [← hg]
    have kx : ∀ (z : Nat) y, z < G.length → z ≠ b1 → z ≠ b2 → G[z]? = y → K[z]? = y := fun z y p1 p2 p3 p4 => by
      rw [← hK, List.getElem?_set_ne (by omega), List.getElem?_set_ne (by omega), List.getElem?_append_left (by simp; omega), List.getElem?_set_ne (by omega)]; exact p4
    have k9 : K[G.length]? = some (some [ci f.limit, .sl (.own V.length (v + 1)) 5 (k.map cycC), .bsl b1 0 f.app.length 1, .bsl b2 0 f.app.length 1]) := by
      rw [← hK, List.getElem?_set_ne (by omega), List.getElem?_set_ne (by omega)]; exact gB
    have kl : G.length < K.length := (List.getElem?_eq_some_iff.1 k9).1
    have kt : K.take H.length = H := by
      rw [← hK, List.take_set_of_le (by omega), List.take_set_of_le (by omega), List.take_append_of_le_length (by simp; omega), List.take_set_of_le (by omega)]; exact gt
    simp -implicitDefEqProofs [go_sem, hbx_of k9]
    refine ⟨some (K.set G.length (some (fanC g))), ?_, rfl, Sh.forget (by simp [go_sem]) rfl rfl⟩
    intro K' hK'
    obtain rfl : K.set G.length (some (fanC g)) = K' := by simpa using hK'
    refine ⟨by rw [List.take_set_of_le (by omega)]; exact kt, by rw [List.getElem?_set_ne (by omega)]; exact kx _ _ (by omega) (by omega) (by omega) gf, by rw [List.getElem?_set_ne (by omega)]; exact kx _ _ (by omega) (by omega) (by omega) gz, by rw [List.getElem?_set_self kl], by rw [List.length_set]; omega⟩
  rintro x ⟨hx0, hx⟩
  match x with
  | none => exact absurd rfl hx0
  | some K =>
  obtain ⟨k1, k2, k3, k4, k5⟩ := hx K rfl
  dsimp only
  have hle := lostU_le (leastF f) f.app f.lost f.app.length
  have hla := (chkF_lens h0).2.1
  refine SWp.seq (Wp.s ?_)
  simp -implicitDefEqProofs [go_sem]
  refine CC.mono (sort_cc _ _ _ (lostU (leastF f) f.app f.lost f.app.length) (by omega) (lostU_srt _ _ _ _)) ?_
  rintro _ _ _ ⟨rfl, rfl, rfl⟩
  simp -implicitDefEqProofs [go_sem]
  refine SWp.seq (Wp.s ?_)
  simp -implicitDefEqProofs [go_sem, hbx_of k4, hbx_of k3]
  refine ⟨by decide, ?_⟩
  refine Wp.s ?_
  simp -implicitDefEqProofs [go_sem, hbx_s k5]
  rw [e0]
  exact Fin.pu (r0 := dvP (.ok _)) (.tup (.cons (.refl _) (.cons (.sh ..) (.cons (.refl _) .nil)))) (by simp [go_sem, dvP, okE_ints]) hokH (by rw [List.take_set_of_le (show H.length ≤ H.length + 2 by omega)]; exact k1) (by simp)
theorem refPush_cc (H : Hp) (V : List Nat) (f : Fan) (c : Cyc) (hs : Sm f) (hc : CySm c) : CC Tryz.prog 12 [.agg (fanC f), .agg (cycC c)] H V (Pu (dvP (pushF f c)) H V) := by
  refine CC.of_swp Tryz.func12 rfl (by kernel_rfl) (by rw [Tryz.ntmps12]; exact len_le _ _ rfl) fun hok hokH => ?_
  clear hok
  have stop : ∀ {e : Nat} {H' : Hp} {V' : List Nat}, pushF f c = .error e → H'.take H.length = H → V'.take V.length = V → Fin H.length V.length (Pu (dvP (pushF f c)) H V) (.tup [.agg fanZ, nilS, er e]) H' V' := fun h1 h2 h3 => by
    rw [h1]; exact Fin.pu (.tup (.cons Le_zfan (.cons (.nil 1 (by decide)) (.cons (.refl _) .nil)))) (by simp [go_sem, dvP]) hokH h2 h3
  refine SWp.seq (Wp.s ?_)
  simp -implicitDefEqProofs [go_sem, args0]
  refine SWp.seq (SWp.seq (Wp.s ?_))
  simp -implicitDefEqProofs [go_sem]
  refine CC.mono (refCheck_cc _ _ f hs) ?_
  rintro _ _ _ ⟨rfl, rfl, rfl⟩
  by_cases h0 : chkF f = 0
  case neg =>
    simp -implicitDefEqProofs [go_sem, h0]
    refine Wp.s ?_
    simp -implicitDefEqProofs [go_sem, h0]
    exact stop (by rw [pushF, if_pos h0]) (by simp) (by simp)
  simp -implicitDefEqProofs [go_sem, h0]
  refine Wp.s ?_
  simp -implicitDefEqProofs [go_sem, h0]
  have hl : f.lost.length = f.app.length := (chkF_lens h0).2.2.1
  have hal := hs.al
  have hkl := hs.kl
  refine SWp.seq (SWp.seq (Wp.s ?_))
  simp -implicitDefEqProofs [go_sem]
  refine CC.mono (refLeast_cc _ _ .sh .sh .sh f.limit f.kept f.app f.lost hl hal) ?_
  rintro _ _ _ ⟨rfl, rfl, rfl⟩
  rw [← leastF_eq]
  by_cases h1 : leastF f < 0
  · simp -implicitDefEqProofs [go_sem, h1]
    refine Wp.s ?_
    simp -implicitDefEqProofs [go_sem]
    exact stop (by rw [pushF, if_neg (by simp [h0]), if_pos h1]) (by simp) (by simp)
  simp -implicitDefEqProofs [go_sem, h1]
  refine Wp.s ?_
  simp -implicitDefEqProofs [go_sem]
  refine SWp.join (α := Unit) (fun _ => ([(2, .ptr H.length 0), (3, .ptr (H.length + 1) 0), (4, .ptr (H.length + 2) 0)], H ++ [some (fanC f), some (cycC c), some fanZ], V)) (fun _ => chkC c mostS = 0) ?_ ?_
  · refine SWp.seq (SWp.drawnT [] [] (.s 0 .pl <| .s 1 .pl <| .s 2 .pl <| .s 3 .pl <| .n) (by kernel_rfl) (by kernel_rfl) ?_)
    simp -implicitDefEqProofs [go_sem]
    refine CC.mono (most_cc _ _) ?_
    rintro _ _ _ ⟨v0, rfl, rfl, rfl⟩
    simp -implicitDefEqProofs [go_sem]
    refine CC.mono (refCChk_cc _ _ _ c mostS (by have := hc.wl; omega) hc.ws (by simp [mostS]) (by have := hc.pl; omega)) ?_
    rintro _ _ _ ⟨rfl, rfl, rfl⟩
    by_cases h2 : chkC c mostS = 0
    case neg =>
      simp -implicitDefEqProofs [go_sem, h2]
      refine Wp.s ?_
      simp -implicitDefEqProofs [go_sem, h2]
      exact stop (by rw [pushF, if_neg (by simp [h0]), if_neg h1, if_pos h2]) (by simp) (by simp)
    simp -implicitDefEqProofs [go_sem, h2]
    refine Wp.s ?_
    simp -implicitDefEqProofs [go_sem, h2]
    exact Sh.trim (by simp [go_sem]) (by simp [go_sem]) hokH (by simp [go_sem, fanZ]) (by simp) (by simp [fanZ]) (by simp)
  rintro _ h2
  dsimp only
  refine SWp.seq (SWp.seq (SWp.drawnT [] [] (.s 0 .pl <| .s 1 .pl <| .s 2 .pl <| .s 3 .pl <| .s 4 .pl <| .n) (by kernel_rfl) (by kernel_rfl) ?_))
  simp -implicitDefEqProofs [go_sem]
  refine CC.mono (refNewest_cc _ _ f hs) ?_
  rintro _ _ _ ⟨rfl, rfl, rfl⟩
  by_cases h3 : c.base = newF f
  case neg =>
    simp -implicitDefEqProofs [go_sem, h3]
    refine Wp.s ?_
    simp -implicitDefEqProofs [go_sem]
    refine ⟨by decide, ?_⟩
    exact stop (by rw [pushF, if_neg (by simp [h0]), if_neg h1, if_neg (by simp [h2]), if_pos h3]) (by simp) (by simp)
  simp -implicitDefEqProofs [go_sem, h3]
  refine Wp.s ?_
  simp -implicitDefEqProofs [go_sem]
  refine SWp.seq (Wp.s ?_)
  simp -implicitDefEqProofs [go_sem]
  refine CC.mono (refCopy_cc _ _ f hs (chkF_cp h0)) ?_
  rintro _ G _ hR
  obtain ⟨b1, b2, v, X, rfl, hX, rfl, g1, g2, hne, l1, l2⟩ := hR.elim
  obtain ⟨gf, gc, gz, gt, gl⟩ := CopR.zeroP hX
  rw [List.length_append] at l1 l2
  simp only [List.length_cons, List.length_nil] at l1 l2
  clear hX hR stop
  obtain ⟨k, hk⟩ : ∃ k, k = f.kept ++ [c] := ⟨_, rfl⟩
  have hkm : f.kept.map cycC ++ [cycC c] = k.map cycC := by rw [hk, List.map_append]; rfl
  have hkk : k.length = f.kept.length + 1 := by rw [hk, List.length_append]; rfl
  have n1 : b1 < G.length := (List.getElem?_eq_some_iff.1 g1).1
  have n2 : b2 < G.length := (List.getElem?_eq_some_iff.1 g2).1
  simp -implicitDefEqProofs [go_sem]
  refine SWp.join (α := Unit) (fun _ => ([(2, .ptr H.length 0), (4, .ptr (H.length + 2) 0), (9, .ptr G.length 0)], G ++ [some [ci f.limit, .sl (.own V.length (v + 1)) 5 (k.map cycC), .bsl b1 0 f.app.length 1, .bsl b2 0 f.app.length 1]], V ++ [v + 1])) (fun _ => True) ?_ ?_
  · refine SWp.drawnT [H.length + 1] [7] (.s 0 .pl <| .s 1 .pl <| .s 2 .pl <| .s 3 .pl <| .s 4 .pl <| .s 5 .pl <| .s 6 .pl <| .s 7 .st <| .n) (by kernel_rfl) (by kernel_rfl) ?_
    simp -implicitDefEqProofs [go_sem, hbx_of (at_old _ [some [ci f.limit, .sl (.own V.length v) 5 (f.kept.map cycC), .bsl b1 0 f.app.length 1, .bsl b2 0 f.app.length 1]] gc)]
    refine CC.mono (refCopyC_cc _ _ c hc) ?_
    rintro _ _ _ ⟨rfl, rfl, rfl⟩
    simp -implicitDefEqProofs [go_sem]
    refine ⟨by omega, Kp_one (by rw [List.getElem?_append_left (by omega), List.getElem?_append_left (by omega)]), ?_⟩
    exact Sh.forget (by simp [go_sem]) (by rw [← hkm]) rfl
  rintro _ -
  dsimp only
  by_cases hev : f.limit < (f.kept.length : Int) + 1
  case neg =>
    rw [pushF_no hk h0 h1 h2 h3 hev]
    have gzo := at_old G [some [ci f.limit, .sl (.own V.length (v + 1)) 5 (k.map cycC), .bsl b1 0 f.app.length 1, .bsl b2 0 f.app.length 1]] gz
    refine SWp.join (α := Unit) (fun _ => ([(2, .ptr H.length 0), (4, .ptr (H.length + 2) 0), (9, .ptr G.length 0)], G ++ [some [ci f.limit, .sl (.own V.length (v + 1)) 5 (k.map cycC), .bsl b1 0 f.app.length 1, .bsl b2 0 f.app.length 1]], V ++ [v + 1])) (fun _ => True) ?_ ?_
    · refine SWp.block ?_
      refine SWp.loop (α := Unit) (fun _ => ([(2, .ptr H.length 0), (4, .ptr (H.length + 2) 0), (9, .ptr G.length 0)], G ++ [some [ci f.limit, .sl (.own V.length (v + 1)) 5 (k.map cycC), .bsl b1 0 f.app.length 1, .bsl b2 0 f.app.length 1]], V ++ [v + 1])) (fun _ => True) (fun _ => 0) () trivial (Sh.forget (by simp [go_sem]) rfl rfl) ?_
      rintro _ -
      dsimp only
      refine SWp.seq (SWp.seq (Wp.s ?_))
      simp -implicitDefEqProofs [go_sem, hkk, hev]
      refine Wp.s ?_
      simp -implicitDefEqProofs [go_sem]
      exact Sh.forget (by simp [go_sem]) rfl rfl
    rintro _ -
    dsimp only
    refine SWp.seq (Wp.s ?_)
    simp -implicitDefEqProofs [go_sem]
    have q2 := at_old _ [some [ci f.limit, .sl (.own V.length (v + 1)) 5 (k.map cycC), .bsl b1 0 f.app.length 1, .bsl b2 0 f.app.length 1]] g2
    have qf := at_old _ [some [ci f.limit, .sl (.own V.length (v + 1)) 5 (k.map cycC), .bsl b1 0 f.app.length 1, .bsl b2 0 f.app.length 1]] gf
    refine SWp.join (α := Unit) (fun _ => ([(4, .ptr (H.length + 2) 0), (9, .ptr G.length 0), (12, nilS)], G ++ [some [ci f.limit, .sl (.own V.length (v + 1)) 5 (k.map cycC), .bsl b1 0 f.app.length 1, .bsl b2 0 f.app.length 1]], V ++ [v + 1])) (fun _ => True) ?_ ?_
    · refine SWp.seq (Wp.s ?_)
      simp -implicitDefEqProofs [go_sem]
      refine SWp.block ?_
      refine SWp.loop (α := Nat) (fun i => ([(2, .ptr H.length 0), (4, .ptr (H.length + 2) 0), (9, .ptr G.length 0), (12, nilS), (13, ci i)], G ++ [some [ci f.limit, .sl (.own V.length (v + 1)) 5 (k.map cycC), .bsl b1 0 f.app.length 1, .bsl b2 0 f.app.length 1]], V ++ [v + 1])) (fun i => i ≤ f.app.length) (fun i => f.app.length - i) 0 (Nat.zero_le _) (Sh.forget (by simp [go_sem]) rfl rfl) ?_
      intro i hi
      dsimp only
      refine SWp.seq (SWp.seq (Wp.s ?_))
      simp -implicitDefEqProofs [go_sem]
      refine Wp.s ?_
      simp -implicitDefEqProofs [go_sem]
      refine ⟨fun h => ?_, fun h => Sh.forget (by simp [go_sem]) rfl rfl⟩
      have hlo : i < f.lost.length := by omega
      refine SWp.seq (SWp.block (SWp.seq (Wp.s ?_)))
      cases c2 : f.lost[i] with
      | true =>
        simp -implicitDefEqProofs [go_sem, h, hlo, c2, hbx_of q2, hbx_of qf]
        refine Wp.s ?_
        simp -implicitDefEqProofs [go_sem]
        refine Wp.s ?_
        simp -implicitDefEqProofs [go_sem]
        refine ⟨i + 1, by omega, by omega, Sh.forget ?_ rfl rfl⟩
        simp [go_sem, wrap_succ (show i ≤ 1000000000 by omega)]
      | false =>
        simp -implicitDefEqProofs [go_sem, h, hlo, c2, hbx_of q2, hbx_of qf]
        refine Wp.s ?_
        simp -implicitDefEqProofs [go_sem]
        refine Wp.s ?_
        simp -implicitDefEqProofs [go_sem]
        refine ⟨i + 1, by omega, by omega, Sh.forget ?_ rfl rfl⟩
        simp [go_sem, wrap_succ (show i ≤ 1000000000 by omega)]
    rintro _ -
    dsimp only
    refine SWp.seq (Wp.s ?_)
    simp -implicitDefEqProofs [go_sem, hbx_of gzo, set_old _ _ _ gz]
    refine ⟨by decide, ?_⟩
    refine Wp.s ?_
    simp -implicitDefEqProofs [go_sem, hbx_sa (show H.length + 2 < G.length by omega)]
    have e1 := chunk_ci f.app f.app.length rfl
    have e2 := chunk_bo f.lost f.app.length hl
    refine Fin.froz2 (b := b1) (b' := b2) (cs := f.app.map ci) (cs' := f.lost.map cbo) (r4 := dvP (.ok (⟨f.limit, k, f.app, f.lost⟩, []))) (r3 := .tup [.agg [ci f.limit, .sl (.own V.length (v + 1)) 5 (k.map cycC), .sl .sh 1 (f.app.map ic), .sl .sh 1 (f.lost.map boE)], nilS, er 0]) (r2 := .tup [.agg [ci f.limit, .sl (.own V.length (v + 1)) 5 (k.map cycC), .sl .sh 1 (f.app.map ic), .bsl b2 0 f.app.length 1], nilS, er 0]) (r1 := .tup [.agg [ci f.limit, .sl (.own V.length (v + 1)) 5 (k.map cycC), .bsl b1 0 f.app.length 1, .bsl b2 0 f.app.length 1], nilS, er 0]) ⟨rfl, rfl, rfl⟩ ?_ ?_ (.tup (.cons (.agg (.cons (.refl _) (.cons (.refl _) (.cons ?_ (.cons (.refl _) .nil))))) (.cons (.refl _) (.cons (.refl _) .nil)))) ?_ (.tup (.cons (.agg (.cons (.refl _) (.cons (.refl _) (.cons (.refl _) (.cons ?_ .nil))))) (.cons (.refl _) (.cons (.refl _) .nil)))) (.tup (.cons (.agg (.cons (.refl _) (.cons (.sh ..) (.cons (.refl _) (.cons (.refl _) .nil))))) (.cons (.nil 1 (by decide)) (.cons (.refl _) .nil)))) (by omega) (by omega) (by simp [go_sem, dvP]) hokH ?_ (by simp)
    · exact .refl _
    · rw [List.getElem?_append_left (by simpa using n1), List.getElem?_set_ne (by omega)]; exact g1
    · rw [← e1]; exact .bsl 0 _ 1 (by simp)
    · rw [List.getElem?_set_ne hne, List.getElem?_append_left (by simpa using n2), List.getElem?_set_ne (by omega)]; exact g2
    · rw [← e2]; exact .bsl 0 _ 1 (by simp [hl])
    · rw [List.take_append_of_le_length (by simp; omega), List.take_set_of_le (by omega)]; exact gt
  obtain ⟨g, hg⟩ : ∃ g, g = tidyF ⟨f.limit, k, f.app, markU (leastF f) f.app f.lost f.app.length⟩ := ⟨_, rfl⟩
  have gl1 : g.limit = f.limit := by rw [hg]; rfl
  have gl2 : ¬ f.limit < (g.kept.length : Int) := by
    have := evict_len (c := c) h0 hev
    rw [← hk, ← hg] at this
    omega
  have e0 := pushF_ev hk h0 h1 h2 h3 hev
  rw [← hg] at e0
  have hsk : Sm ⟨f.limit, k, f.app, markU (leastF f) f.app f.lost f.app.length⟩ := ⟨by show k.length ≤ 1000000; have := (chkF_lens h0).2.2.2.2.2; omega, hal, by rw [markU_len]; exact hs.ll, fun d hd => by
    rw [hk] at hd
    rcases List.mem_append.1 hd with hd | hd
    · exact hs.kc d hd
    · rw [List.mem_singleton] at hd; subst hd; exact ⟨hc.wl, hc.ws, hc.pl⟩⟩
  refine SWp.join (α := Option Hp) (fun x => match x with
    | none => ([(2, .ptr H.length 0), (4, .ptr (H.length + 2) 0), (9, .ptr G.length 0)], G, V)
    | some K => ([(2, .ptr H.length 0), (4, .ptr (H.length + 2) 0), (9, .ptr G.length 0)], K, V ++ [v + 1])) (fun x => x ≠ none ∧ ((fun (x : Option Hp) => ∀ K, x = some K → K.take H.length = H ∧ K[H.length]? = some (some (fanC f)) ∧ K[H.length + 2]? = some (some fanZ) ∧ K[G.length]? = some (some (fanC g)) ∧ H.length + 2 < K.length) x)) ?_ ?_
  · refine SWp.block ?_
    refine SWp.loop (α := Option Hp) (fun x => match x with
      | none => ([(2, .ptr H.length 0), (4, .ptr (H.length + 2) 0), (9, .ptr G.length 0)], G ++ [some [ci f.limit, .sl (.own V.length (v + 1)) 5 (k.map cycC), .bsl b1 0 f.app.length 1, .bsl b2 0 f.app.length 1]], V ++ [v + 1])
      | some K => ([(2, .ptr H.length 0), (4, .ptr (H.length + 2) 0), (9, .ptr G.length 0)], K, V ++ [v + 1])) (fun (x : Option Hp) => ∀ K, x = some K → K.take H.length = H ∧ K[H.length]? = some (some (fanC f)) ∧ K[H.length + 2]? = some (some fanZ) ∧ K[G.length]? = some (some (fanC g)) ∧ H.length + 2 < K.length) (fun x => match x with | none => 1 | some _ => 0) none (fun K h => by cases h) (Sh.forget (by simp [go_sem]) rfl rfl) ?_
    intro x hx
    match x with
    | some K =>
      obtain ⟨k1, k2, k3, k4, k5⟩ := hx K rfl
      dsimp only
      refine SWp.seq (SWp.seq (Wp.s ?_))
      simp -implicitDefEqProofs [go_sem, hbx_of k4, gl1, gl2]
      refine Wp.s ?_
      simp -implicitDefEqProofs [go_sem]
      exact ⟨some K, ⟨by simp, hx⟩, Sh.forget (by simp [go_sem]) rfl rfl⟩
    | none =>
    dsimp only
    refine SWp.seq (SWp.seq (Wp.s ?_))
    simp -implicitDefEqProofs [go_sem, hkk, hev]
    refine Wp.s ?_
    simp -implicitDefEqProofs [go_sem]
    refine SWp.block (SWp.seq (Wp.s ?_))
    simp -implicitDefEqProofs [go_sem]
    refine CC.mono (refLeastB_cc _ _ _ f.limit k f.app f.lost b1 b2 f.app.length rfl hl hal (at_old _ _ g1) (at_old _ _ g2)) ?_
    rintro _ _ _ ⟨rfl, rfl, rfl⟩
    rw [← leastF_eq]
    simp -implicitDefEqProofs [go_sem]
    refine SWp.join (α := Unit) (fun _ => ([(2, .ptr H.length 0), (4, .ptr (H.length + 2) 0), (9, .ptr G.length 0)], G.set b2 (some ((markU (leastF f) f.app f.lost f.app.length).map cbo)) ++ [some [ci f.limit, .sl (.own V.length (v + 1)) 5 (k.map cycC), .bsl b1 0 f.app.length 1, .bsl b2 0 f.app.length 1]], V ++ [v + 1])) (fun _ => True) ?_ ?_
    · refine SWp.seq (Wp.s ?_)
      simp -implicitDefEqProofs [go_sem]
      refine SWp.block ?_
      refine SWp.loop (α := Nat) (fun i => ([(2, .ptr H.length 0), (4, .ptr (H.length + 2) 0), (9, .ptr G.length 0), (10, ci (leastF f)), (11, ci i)], G.set b2 (some ((markU (leastF f) f.app f.lost i).map cbo)) ++ [some [ci f.limit, .sl (.own V.length (v + 1)) 5 (k.map cycC), .bsl b1 0 f.app.length 1, .bsl b2 0 f.app.length 1]], V ++ [v + 1])) (fun i => i ≤ f.app.length) (fun i => f.app.length - i) 0 (Nat.zero_le _) (Sh.forget (by simp [go_sem, lostU]) (by rw [markU, set_same g2]) rfl) ?_
      intro i hi
      dsimp only
      have g1' : (G.set b2 (some ((markU (leastF f) f.app f.lost i).map cbo)))[b1]? = some (some (f.app.map ci)) := by rw [List.getElem?_set_ne (by omega)]; exact g1
      have g2' : (G.set b2 (some ((markU (leastF f) f.app f.lost i).map cbo)))[b2]? = some (some ((markU (leastF f) f.app f.lost i).map cbo)) := by rw [List.getElem?_set_self n2]
      have gB : (G.set b2 (some ((markU (leastF f) f.app f.lost i).map cbo)) ++ [some [ci f.limit, .sl (.own V.length (v + 1)) 5 (k.map cycC), .bsl b1 0 f.app.length 1, .bsl b2 0 f.app.length 1]])[G.length]? = some (some [ci f.limit, .sl (.own V.length (v + 1)) 5 (k.map cycC), .bsl b1 0 f.app.length 1, .bsl b2 0 f.app.length 1]) := by rw [List.getElem?_append_right (by simp)]; simp
      have q1 := at_old _ [some [ci f.limit, .sl (.own V.length (v + 1)) 5 (k.map cycC), .bsl b1 0 f.app.length 1, .bsl b2 0 f.app.length 1]] g1'
      have q2 := at_old _ [some [ci f.limit, .sl (.own V.length (v + 1)) 5 (k.map cycC), .bsl b1 0 f.app.length 1, .bsl b2 0 f.app.length 1]] g2'
      have ml : (markU (leastF f) f.app f.lost i).length = f.app.length := by rw [markU_len, hl]
      refine SWp.seq (SWp.seq (Wp.s ?_))
      simp -implicitDefEqProofs [go_sem, hbx_of gB]
      refine Wp.s ?_
      simp -implicitDefEqProofs [go_sem]
      refine ⟨fun h => ?_, fun h => ?_⟩
      case refine_2 =>
        obtain rfl : i = f.app.length := by omega
        exact Sh.forget (by simp [go_sem]) rfl rfl
      have hm : i < (markU (leastF f) f.app f.lost i).length := by omega
      have hlo : i < f.lost.length := by omega
      refine SWp.seq (SWp.block (SWp.seq (Wp.s ?_)))
      by_cases c1 : f.app[i] = leastF f
      case neg =>
        simp -implicitDefEqProofs [go_sem, hbx_of gB, hbx_of q1, h, c1]
        refine Wp.s ?_
        simp -implicitDefEqProofs [go_sem]
        refine Wp.s ?_
        simp -implicitDefEqProofs [go_sem]
        refine ⟨i + 1, by omega, by omega, Sh.forget ?_ ?_ ?_⟩
        · simp [go_sem, wrap_succ (show i ≤ 1000000000 by omega)]
        · rw [markU_n h c1]
        · rfl
      simp -implicitDefEqProofs [go_sem, hbx_of gB, hbx_of q1, h, c1]
      refine Wp.s ?_
      simp -implicitDefEqProofs [go_sem, hbx_of gB, hbx_of q2, h, hm, hlo, set_old _ _ _ g2', set_cbo hm true, show i + 1 ≤ f.lost.length by omega]
      refine Wp.s ?_
      simp -implicitDefEqProofs [go_sem]
      refine ⟨i + 1, by omega, by omega, Sh.forget ?_ ?_ ?_⟩
      · simp [go_sem, wrap_succ (show i ≤ 1000000000 by omega)]
      · rw [markU_y h c1, List.map_set]
      · rfl
    rintro _ -
    dsimp only
    have g1' : (G.set b2 (some ((markU (leastF f) f.app f.lost f.app.length).map cbo)))[b1]? = some (some (f.app.map ci)) := by rw [List.getElem?_set_ne (by omega)]; exact g1
    have g2' : (G.set b2 (some ((markU (leastF f) f.app f.lost f.app.length).map cbo)))[b2]? = some (some ((markU (leastF f) f.app f.lost f.app.length).map cbo)) := by rw [List.getElem?_set_self n2]
    have gB : (G.set b2 (some ((markU (leastF f) f.app f.lost f.app.length).map cbo)) ++ [some [ci f.limit, .sl (.own V.length (v + 1)) 5 (k.map cycC), .bsl b1 0 f.app.length 1, .bsl b2 0 f.app.length 1]])[G.length]? = some (some [ci f.limit, .sl (.own V.length (v + 1)) 5 (k.map cycC), .bsl b1 0 f.app.length 1, .bsl b2 0 f.app.length 1]) := by rw [List.getElem?_append_right (by simp)]; simp
    refine Wp.s ?_
    simp -implicitDefEqProofs [go_sem, hbx_of gB]
    refine CC.letFan (app := f.app) (lost := markU (leastF f) f.app f.lost f.app.length) rfl (by rw [markU_len]; exact hl) (at_old _ _ g1') (at_old _ _ g2') hne ?_
    refine CC.mono (refTidy_cc _ _ ⟨f.limit, k, f.app, markU (leastF f) f.app f.lost f.app.length⟩ hsk (by rw [markU_len]; exact hl)) ?_
    rintro _ K _ ⟨rfl, hK, rfl⟩
    rw [← hg]
    have kx : ∀ (z : Nat) y, z < G.length → z ≠ b1 → z ≠ b2 → G[z]? = y → K[z]? = y := fun z y p1 p2 p3 p4 => by
      rw [← hK, List.getElem?_set_ne (by omega), List.getElem?_set_ne (by omega), List.getElem?_append_left (by simp; omega), List.getElem?_set_ne (by omega)]; exact p4
    have k9 : K[G.length]? = some (some [ci f.limit, .sl (.own V.length (v + 1)) 5 (k.map cycC), .bsl b1 0 f.app.length 1, .bsl b2 0 f.app.length 1]) := by
      rw [← hK, List.getElem?_set_ne (by omega), List.getElem?_set_ne (by omega)]; exact gB
    have kl : G.length < K.length := (List.getElem?_eq_some_iff.1 k9).1
    have kt : K.take H.length = H := by
      rw [← hK, List.take_set_of_le (by omega), List.take_set_of_le (by omega), List.take_append_of_le_length (by simp; omega), List.take_set_of_le (by omega)]; exact gt
    simp -implicitDefEqProofs [go_sem, hbx_of k9]
    refine ⟨some (K.set G.length (some (fanC g))), ?_, rfl, Sh.forget (by simp [go_sem]) rfl rfl⟩
    intro K' hK'
    obtain rfl : K.set G.length (some (fanC g)) = K' := by simpa using hK'
    refine ⟨by rw [List.take_set_of_le (by omega)]; exact kt, by rw [List.getElem?_set_ne (by omega)]; exact kx _ _ (by omega) (by omega) (by omega) gf, by rw [List.getElem?_set_ne (by omega)]; exact kx _ _ (by omega) (by omega) (by omega) gz, by rw [List.getElem?_set_self kl], by rw [List.length_set]; omega⟩
  rintro x ⟨hx0, hx⟩
  match x with
  | none => exact absurd rfl hx0
  | some K =>
  obtain ⟨k1, k2, k3, k4, k5⟩ := hx K rfl
  dsimp only
  refine SWp.seq (Wp.s ?_)
  simp -implicitDefEqProofs [go_sem]
  have gll : g.lost = markU (leastF f) f.app f.lost f.app.length := by rw [hg]; rfl
  refine SWp.join (α := Unit) (fun _ => ([(4, .ptr (H.length + 2) 0), (9, .ptr G.length 0), (12, .sl (.own (V.length + 1) (lostU (leastF f) f.app f.lost f.app.length).length) 1 ((lostU (leastF f) f.app f.lost f.app.length).map ic))], K, V ++ [v + 1, (lostU (leastF f) f.app f.lost f.app.length).length])) (fun _ => True) ?_ ?_
  · refine SWp.seq (Wp.s ?_)
    simp -implicitDefEqProofs [go_sem]
    refine SWp.block ?_
    refine SWp.loop (α := Nat) (fun i => ([(2, .ptr H.length 0), (4, .ptr (H.length + 2) 0), (9, .ptr G.length 0), (12, .sl (.own (V.length + 1) (lostU (leastF f) f.app f.lost i).length) 1 ((lostU (leastF f) f.app f.lost i).map ic)), (13, ci i)], K, V ++ [v + 1, (lostU (leastF f) f.app f.lost i).length])) (fun i => i ≤ f.app.length) (fun i => f.app.length - i) 0 (Nat.zero_le _) (Sh.tokT (by simp [go_sem, lostU]) rfl (by simp [lostU])) ?_
    intro i hi
    dsimp only
    have gln : g.lost.length = f.app.length := by rw [gll, markU_len, hl]
    refine SWp.seq (SWp.seq (Wp.s ?_))
    simp -implicitDefEqProofs [go_sem, hbx_of k4, gln]
    refine Wp.s ?_
    simp -implicitDefEqProofs [go_sem]
    refine ⟨fun h => ?_, fun h => ?_⟩
    case refine_2 =>
      obtain rfl : i = f.app.length := by omega
      exact Sh.forget (by simp [go_sem]) rfl rfl
    have hlo : i < f.lost.length := by omega
    have hgo : i < g.lost.length := by omega
    have hat : g.lost[i] = (f.lost[i] || decide (f.app[i] = leastF f)) := by
      have := markU_lt (leastF f) f.app f.lost f.app.length i h
      rw [← gll, List.getElem?_eq_getElem hgo, List.getElem?_eq_getElem hlo, List.getElem?_eq_getElem h] at this
      simpa using this
    have hll := lostU_le (leastF f) f.app f.lost i
    refine SWp.seq (SWp.block (SWp.seq (Wp.s ?_)))
    cases c2 : f.lost[i] with
    | true =>
      rw [c2, Bool.true_or] at hat
      simp -implicitDefEqProofs [go_sem, h, hlo, hgo, hat, c2, hbx_of k4, hbx_of k2]
      refine Wp.s ?_
      simp -implicitDefEqProofs [go_sem]
      refine Wp.s ?_
      simp -implicitDefEqProofs [go_sem]
      refine ⟨i + 1, by omega, by omega, Sh.forget ?_ rfl ?_⟩
      · simp [go_sem, wrap_succ (show i ≤ 1000000000 by omega), lostU_t hlo c2]
      · rw [lostU_t hlo c2]
    | false =>
    by_cases c1 : f.app[i] = leastF f
    · rw [c2, Bool.false_or, decide_eq_true c1] at hat
      simp -implicitDefEqProofs [go_sem, h, hlo, hgo, hat, c2, hbx_of k4, hbx_of k2]
      refine Wp.s ?_
      simp -implicitDefEqProofs [go_sem]
      refine ⟨by omega, ?_⟩
      refine Wp.s ?_
      simp -implicitDefEqProofs [go_sem]
      refine ⟨i + 1, by omega, by omega, Sh.forget ?_ rfl ?_⟩
      · simp [go_sem, wrap_succ (show i ≤ 1000000000 by omega), lostU_y h hlo c1 c2]
        exact .refl _
      · rw [lostU_y h hlo c1 c2, List.length_append]; rfl
    · rw [c2, Bool.false_or, decide_eq_false c1] at hat
      simp -implicitDefEqProofs [go_sem, h, hlo, hgo, hat, c2, hbx_of k4, hbx_of k2]
      refine Wp.s ?_
      simp -implicitDefEqProofs [go_sem]
      refine Wp.s ?_
      simp -implicitDefEqProofs [go_sem]
      refine ⟨i + 1, by omega, by omega, Sh.forget ?_ rfl ?_⟩
      · simp [go_sem, wrap_succ (show i ≤ 1000000000 by omega), lostU_n h c1]
      · rw [lostU_n h c1]
  rintro _ -
  dsimp only
  refine SWp.seq (Wp.s ?_)
  simp -implicitDefEqProofs [go_sem, hbx_of k4, hbx_of k3]
  refine ⟨by decide, ?_⟩
  refine Wp.s ?_
  simp -implicitDefEqProofs [go_sem, hbx_s k5]
  rw [e0]
  exact Fin.pu (r0 := dvP (.ok _)) (.tup (.cons (.refl _) (.cons (.sh ..) (.cons (.refl _) .nil)))) (by simp [go_sem, dvP, okE_ints]) hokH (by rw [List.take_set_of_le (show H.length ≤ H.length + 2 by omega)]; exact k1) (by simp)
end Go.Proofs.YtpadnceoacbaeaaGreat
namespace Go.Proofs.YtpadnceoacbaeaaGreat
open Go.Proofs
theorem find_at {α : Type} {p : α → Bool} : ∀ {l : List α} {i : Nat} (h : i < l.length), (l.take i).find? p = none → p l[i] = true → l.find? p = some l[i]
  | a :: l, 0, _, _, h => by rw [List.find?_cons_of_pos (by exact h)]; rfl
  | a :: l, i + 1, hi, h1, h => by
    rw [List.take_succ_cons] at h1
    cases ha : p a with
    | true => rw [List.find?_cons_of_pos ha] at h1; cases h1
    | false =>
      rw [List.find?_cons_of_neg (by simp [ha])] at h1 ⊢
      exact find_at (by simpa using hi) h1 h
theorem find_s {α : Type} {p : α → Bool} : ∀ {l : List α} {i : Nat} (h : i < l.length), (l.take i).find? p = none → p l[i] = false → (l.take (i + 1)).find? p = none
  | a :: l, 0, _, _, h => by
    rw [List.take_succ_cons, List.find?_cons_of_neg (by simpa using h)]; rfl
  | a :: l, i + 1, hi, h1, h => by
    rw [List.take_succ_cons] at h1 ⊢
    cases ha : p a with
    | true => rw [List.find?_cons_of_pos ha] at h1; cases h1
    | false =>
      rw [List.find?_cons_of_neg (by simp [ha])] at h1 ⊢
      exact find_s (by simpa using hi) h1 h
def nxP (x : Int) (c : Cyc) : Bool := decide (x < c.number)
def fndU (x : Int) (l : List Cyc) (i : Nat) : Option Cyc := (l.take i).find? (nxP x)
theorem fndU_all (x : Int) (l : List Cyc) : fndU x l l.length = l.find? (nxP x) := by rw [fndU, List.take_of_length_le (Nat.le_refl _)]
theorem nextF_no {f : Fan} {t : Int} (h : existsF f t ≠ 0) : nextF f t = none := by rw [nextF, if_pos (.inl h)]
theorem nextF_in {f : Fan} {k : Nat} (h : existsF f k = 0) (h1 : k < f.app.length) (h2 : k < f.lost.length) : nextF f k = if f.lost[k] = true then none else f.kept.find? (nxP f.app[k]) := by
  rw [nextF, getD_atI h2, getD_atI h1]
  cases f.lost[k] <;> simp [h] <;> rfl
def dvN : Option Cyc → CV
  | none => .tup [.agg (cycC ⟨0, 0, 0, [], []⟩), cb false]
  | some c => .tup [.agg (cycC c), cb true]
theorem Le_zcyc : Le (.agg cycZ) (.agg (cycC ⟨0, 0, 0, [], []⟩)) := .agg (.cons (.refl _) (.cons (.refl _) (.cons (.refl _) (.cons (.nil 1 (by decide)) (.cons (.nil 3 (by decide)) .nil)))))
theorem refNext_cc (H : Hp) (V : List Nat) (f : Fan) (t : Int) (hs : Sm f) : CC Tryz.prog 14 [.agg (fanC f), ci t] H V (Pu (dvN (nextF f t)) H V) := by
  refine CC.of_swp Tryz.func14 rfl (by kernel_rfl) (by rw [Tryz.ntmps14]; exact len_le _ _ rfl) fun hok hokH => ?_
  clear hok
  have stop : ∀ {H' : Hp} {V' : List Nat}, nextF f t = none → H'.take H.length = H → V'.take V.length = V → Fin H.length V.length (Pu (dvN (nextF f t)) H V) (.tup [.agg cycZ, cb false]) H' V' := fun h1 h2 h3 => by
    rw [h1]; exact Fin.pu (.tup (.cons Le_zcyc (.cons (.refl _) .nil))) (by simp [go_sem, dvN]) hokH h2 h3
  have hkl := hs.kl
  refine SWp.seq (Wp.s ?_)
  simp -implicitDefEqProofs [go_sem, args0]
  refine SWp.seq (SWp.seq (Wp.s ?_))
  simp -implicitDefEqProofs [go_sem]
  refine CC.mono (refCheck_cc _ _ f hs) ?_
  rintro _ _ _ ⟨rfl, rfl, rfl⟩
  by_cases hc : chkF f = 0
  case neg =>
    simp -implicitDefEqProofs [go_sem, hc]
    refine Wp.s ?_
    simp -implicitDefEqProofs [go_sem]
    exact stop (nextF_no (by rw [existsF_chk hc]; exact hc)) (by simp) (by simp)
  by_cases h1 : t < 0
  · simp -implicitDefEqProofs [go_sem, hc, h1]
    refine Wp.s ?_
    simp -implicitDefEqProofs [go_sem]
    exact stop (nextF_no (by rw [existsF_out hc (.inl h1)]; decide)) (by simp) (by simp)
  by_cases h2 : (f.app.length : Int) ≤ t
  · simp -implicitDefEqProofs [go_sem, hc, h1, h2]
    refine Wp.s ?_
    simp -implicitDefEqProofs [go_sem]
    exact stop (nextF_no (by rw [existsF_out hc (.inr h2)]; decide)) (by simp) (by simp)
  have hx := existsF_in hc (t := t) (by omega)
  obtain ⟨_, k, rfl, hk1, hk2⟩ := existsF_0 hx
  have e0 := nextF_in hx hk1 hk2
  cases hb : f.lost[k] with
  | true =>
    rw [if_pos hb] at e0
    simp -implicitDefEqProofs [go_sem, hc, h1, h2, hk2, hb]
    refine Wp.s ?_
    simp -implicitDefEqProofs [go_sem]
    exact stop e0 (by simp) (by simp)
  | false =>
  rw [if_neg (by simp [hb])] at e0
  simp -implicitDefEqProofs [go_sem, hc, h1, h2, hk2, hb]
  refine Wp.s ?_
  simp -implicitDefEqProofs [go_sem]
  refine SWp.join (α := Unit) (fun _ => ([(2, .ptr H.length 0), (4, .ptr (H.length + 1) 0)], H ++ [some (fanC f), some cycZ], V)) (fun _ => fndU f.app[k] f.kept f.kept.length = none) ?_ ?_
  · refine SWp.seq (Wp.s ?_)
    simp -implicitDefEqProofs [go_sem]
    refine SWp.block ?_
    refine SWp.loop (α := Nat) (fun i => ([(1, ci k), (2, .ptr H.length 0), (4, .ptr (H.length + 1) 0), (6, ci i)], H ++ [some (fanC f), some cycZ], V)) (fun i => i ≤ f.kept.length ∧ fndU f.app[k] f.kept i = none) (fun i => f.kept.length - i) 0 ⟨Nat.zero_le _, rfl⟩ (Sh.forget (by simp [go_sem]) (by simp [cycZ]) rfl) ?_
    rintro i ⟨hi, hp⟩
    dsimp only
    refine SWp.seq (SWp.seq (Wp.s ?_))
    simp -implicitDefEqProofs [go_sem]
    refine Wp.s ?_
    simp -implicitDefEqProofs [go_sem]
    refine ⟨fun h => ?_, fun h => ?_⟩
    case refine_2 =>
      obtain rfl : i = f.kept.length := by omega
      exact ⟨hp, Sh.forget (by simp [go_sem]) rfl rfl⟩
    refine SWp.seq (SWp.block (SWp.seq (SWp.drawnT [] [] (.s 0 .pl <| .s 1 .pl <| .s 2 .pl <| .s 3 .pl <| .s 4 .pl <| .s 5 .pl <| .s 6 .pl <| .s 7 .pl <| .s 8 .pl <| .s 9 .pl <| .s 10 .pl <| .s 11 .pl <| .n) (by kernel_rfl) (by kernel_rfl) ?_)))
    by_cases c1 : f.app[k] < f.kept[i].number
    · rw [find_at (p := nxP f.app[k]) h hp (by simpa [nxP] using c1)] at e0
      simp -implicitDefEqProofs [go_sem, h, hk1, c1]
      refine Wp.s ?_
      simp -implicitDefEqProofs [go_sem, h]
      refine CC.mono (refCopyC_cc _ _ f.kept[i] (hs.cy h)) ?_
      rintro _ _ _ ⟨rfl, rfl, rfl⟩
      simp -implicitDefEqProofs [go_sem]
      refine ⟨by decide, ?_⟩
      rw [e0]
      exact Fin.pu (r0 := dvN (some f.kept[i])) (.refl _) (by simp [go_sem, dvN]) hokH (by simp) (by simp)
    · simp -implicitDefEqProofs [go_sem, h, hk1, c1]
      refine Wp.s ?_
      simp -implicitDefEqProofs [go_sem]
      refine Wp.s ?_
      simp -implicitDefEqProofs [go_sem]
      refine ⟨i + 1, ⟨by omega, find_s h hp (by simpa [nxP] using c1)⟩, by omega, Sh.forget ?_ rfl rfl⟩
      simp [go_sem, wrap_succ (show i ≤ 1000000000 by omega)]
  · rintro _ hp
    dsimp only
    rw [fndU_all, ← e0] at hp
    refine Wp.s ?_
    simp -implicitDefEqProofs [go_sem]
    refine ⟨by decide, ?_⟩
    exact stop hp (by simp) (by simp)
theorem needed1_cc (H : Hp) (V : List Nat) (L b1 b2 : Nat) (f : Fan) (k : Nat) (hs : Sm f) (hk : k < f.app.length) (hb1 : H[b1]? = some (some (fanC f))) (hb2 : H[b2]? = some (some [ci k])) (Q : Hp → List Nat → Prop)
    (hQ : ∀ G V', Q G V' → G.length = H.length ∧ G[b1]? = some (some (fanC f)) ∧ G[b2]? = some (some [ci k]))
    (h0 : f.kept.find? (nxP f.app[k]) = none → Q H V)
    (h1 : ∀ c W, f.kept.find? (nxP f.app[k]) = some c → YC Tryz.prog L [.agg (cycC c)] (H ++ W) V (fun r H' V' => r = .v (.bool false) ∧ ∃ G W', Q G V' ∧ H' = G ++ (W ++ W'))) :
    CC Tryz.prog 88 [.yl L, .ptr b1 0, .ptr b2 0] H V (fun _ H' V' => ∃ G W, Q G V' ∧ H' = G ++ W) := by
  have hkl := hs.kl
  have lt1 := (List.getElem?_eq_some_iff.1 hb1).1
  have lt2 := (List.getElem?_eq_some_iff.1 hb2).1
  refine CC.of_swp Tryz.func88 rfl (by kernel_rfl) (by rw [Tryz.ntmps88]; exact len_le _ _ rfl) fun hok hokH => ?_
  refine SWp.seq (Wp.s ?_)
  simp -implicitDefEqProofs [go_sem, args0, hbx_of hb1]
  refine SWp.block ?_
  refine SWp.loop (α := Nat) (fun i => ([(0, .yl L), (1, .ptr b1 0), (2, .ptr b2 0), (7, .sl .sh 5 (f.kept.map cycC)), (8, ci f.kept.length), (9, ci i)], H, V)) (fun i => i ≤ f.kept.length ∧ fndU f.app[k] f.kept i = none) (fun i => f.kept.length - i) 0 ⟨Nat.zero_le _, rfl⟩ (Sh.forget (by simp [go_sem]) rfl rfl) ?_
  rintro i ⟨hi, hp⟩
  dsimp only
  refine SWp.seq (Wp.s ?_)
  simp -implicitDefEqProofs [go_sem]
  refine SWp.seq (Wp.s ?_)
  simp -implicitDefEqProofs [go_sem]
  refine ⟨fun h => ?_, fun h => ?_⟩
  case refine_2 =>
    obtain rfl : i = f.kept.length := by omega
    rw [fndU_all] at hp
    exact Fin.self ⟨H, h0 hp, [], by simp⟩
  refine SWp.seq (SWp.block (SWp.seq (Wp.s ?_)))
  simp -implicitDefEqProofs [go_sem, h]
  have a1 := at_old _ [some (cycC f.kept[i])] hb1
  have a2 := at_old _ [some (cycC f.kept[i])] hb2
  refine SWp.seq (SWp.drawnT [b1, b2, H.length] [11] (.s 0 .pl <| .s 1 .ld <| .s 2 .pl <| .s 3 .ld <| .s 4 .ld <| .s 5 .pl <| .s 6 .pl <| .s 7 .pl <| .s 8 .pl <| .s 9 .pl <| .s 10 .ld <| .s 11 .st <| .s 12 .pl <| .s 13 .pl <| .n) (by kernel_rfl) (by kernel_rfl) ?_)
  by_cases c1 : f.app[k] < f.kept[i].number
  · simp -implicitDefEqProofs [go_sem, hbx_of a1, hbx_of a2, hk, c1]
    have hf := find_at (p := nxP f.app[k]) h hp (by simpa [nxP] using c1)
    refine YC.mono (h1 _ [some (cycC f.kept[i])] hf) ?_
    rintro _ H2 V2 ⟨rfl, G, W', hq, rfl⟩
    obtain ⟨q1, q2, q3⟩ := hQ _ _ hq
    simp -implicitDefEqProofs [go_sem]
    refine ⟨Kp.keep fun b hb => ?_, ?_⟩
    · rcases List.mem_cons.1 hb with rfl | hb
      · rw [List.getElem?_append_left (by omega), List.getElem?_append_left (by omega), q2, hb1]
      · rcases List.mem_cons.1 hb with rfl | hb
        · rw [List.getElem?_append_left (by omega), List.getElem?_append_left (by omega), q3, hb2]
        · obtain rfl : b = H.length := by simpa using hb
          rw [at_len, ← q1, at_len]; rfl
    refine Wp.s ?_
    simp -implicitDefEqProofs [go_sem]
    exact Fin.self ⟨G, hq, _, rfl⟩
  · simp -implicitDefEqProofs [go_sem, hbx_of a1, hbx_of a2, hk, c1]
    refine Wp.s ?_
    simp -implicitDefEqProofs [go_sem]
    refine Wp.s ?_
    simp -implicitDefEqProofs [go_sem]
    refine ⟨i + 1, ⟨by omega, find_s h hp (by simpa [nxP] using c1)⟩, by omega, Sh.back ?_ rfl rfl ?_ hokH (by simp) (by simp)⟩
    · simp [go_sem, wrap_succ (show i ≤ 1000000000 by omega)]
    · simp [go_sem] at hok
      simp [go_sem, lt1, lt2, hok]
end Go.Proofs.YtpadnceoacbaeaaGreat
namespace Go.Proofs.YtpadnceoacbaeaaGreat
open Go.Proofs
theorem needed_cc (H : Hp) (V : List Nat) (f : Fan) (t : Int) : CC Tryz.prog 52 [.agg (fanC f), ci t] H V (fun r H' V' => r = .fn 88 [.ptr H.length 0, .ptr (H.length + 1) 0] ∧ H' = H ++ [some (fanC f), some [ci t]] ∧ V = V') := by
  refine CC.of_swp Tryz.func52 rfl (by kernel_rfl) (by rw [Tryz.ntmps52]; exact len_le _ _ rfl) fun hok hokH => ?_
  clear hok
  refine SWp.seq (Wp.s ?_)
  simp -implicitDefEqProofs [go_sem, args0]
  refine Wp.s ?_
  simp -implicitDefEqProofs [go_sem]
  refine Fin.cut (H.length + 2) V.length ⟨rfl, rfl, rfl⟩ (by omega) (Nat.le_refl _) (List.take_of_length_le (by simp)) (List.take_of_length_le (Nat.le_refl _)) (.refl _) (by simp [go_sem]) ?_
  intro b cs hb
  rw [List.getElem?_append] at hb
  split at hb
  · exact okL_mono (by omega) (Nat.le_refl _) (hokH b cs hb)
  · exact okH_get (i := H.length + 2) (j := V.length) (L := [some (fanC f), some [ci t]]) (by simp [go_sem]) _ _ hb
abbrev HN (H : Hp) (f : Fan) (k : Nat) (z : List CV) (b : Bool) (lp : CV) (W : Hp) : Hp := H ++ some (fanC f) :: some z :: some [cb b] :: some (fanC f) :: some [ci k] :: some [lp] :: W
def NQ (H : Hp) (V : List Nat) (f : Fan) (k : Nat) (x : Int) (l1 l2 : CV) (G : Hp) (V' : List Nat) : Prop :=
  V' = V ∧ ((f.kept.find? (nxP x) = none ∧ G = HN H f k cycZ false l1 []) ∨ ∃ c, f.kept.find? (nxP x) = some c ∧ G = HN H f k (cycC c) true l2 [])
theorem Next_cc (H : Hp) (V : List Nat) (f : Fan) (t : Int) (hs : Sm f) : CC Tryz.prog 13 [.agg (fanC f), ci t] H V (Pu (dvN (nextF f t)) H V) := by
  refine CC.of_swp0 Tryz.func13 rfl (by kernel_rfl) (by rw [Tryz.ntmps13]; exact len_le _ _ rfl) fun hok hokH => ?_
  have stop : ∀ {H' : Hp} {V' : List Nat}, nextF f t = none → H'.take H.length = H → V'.take V.length = V → Fin H.length V.length (Pu (dvN (nextF f t)) H V) (.tup [.agg cycZ, cb false]) H' V' := fun h1 h2 h3 => by
    rw [h1]; exact Fin.pu (.tup (.cons Le_zcyc (.cons (.refl _) .nil))) (by simp [go_sem, dvN]) hokH h2 h3
  have hkl := hs.kl
  refine SWp0.seq (SWp.s0 (Wp.s ?_))
  simp -implicitDefEqProofs [go_sem, args0]
  refine SWp0.join (α := Nat) (fun k => ([(1, ci k), (2, .ptr H.length 0), (4, .ptr (H.length + 1) 0), (5, .ptr (H.length + 2) 0)], H ++ [some (fanC f), some cycZ, some [cb false]], V)) (fun k => t = (k : Int) ∧ existsF f t = 0 ∧ k < f.app.length ∧ k < f.lost.length ∧ f.lost.getD k false = false) ?_ ?_
  · refine SWp.s0 (SWp.seq (Wp.s ?_))
    simp -implicitDefEqProofs [go_sem]
    refine CC.mono (exists_cc _ _ f t hs) ?_
    rintro _ _ _ ⟨rfl, rfl, rfl⟩
    by_cases hx : existsF f t = 0
    case neg =>
      simp -implicitDefEqProofs [go_sem, hx]
      refine Wp.s ?_
      simp -implicitDefEqProofs [go_sem]
      exact stop (nextF_no hx) (by simp) (by simp)
    obtain ⟨hc, k, rfl, hk1, hk2⟩ := existsF_0 hx
    cases hb : f.lost[k] with
    | true =>
      simp -implicitDefEqProofs [go_sem, hx, hk2, hb]
      refine Wp.s ?_
      simp -implicitDefEqProofs [go_sem]
      exact stop (by rw [nextF_in hx hk1 hk2, if_pos hb]) (by simp) (by simp)
    | false =>
      simp -implicitDefEqProofs [go_sem, hx, hk2, hb]
      refine Wp.s ?_
      simp -implicitDefEqProofs [go_sem]
      exact ⟨k, ⟨rfl, hk1, hk2, by rw [List.getElem?_eq_getElem hk2, hb]; rfl⟩, Sh.forget (by simp [go_sem]) (by simp [cycZ]) rfl⟩
  rintro k ⟨rfl, hx, hk1, hk2, hb⟩
  rw [getD_at hk2] at hb
  dsimp only
  have e0 := nextF_in hx hk1 hk2
  rw [if_neg (by simp [hb])] at e0
  refine SWp0.seq (SWp0.seq (SWp.s0 (Wp.s ?_)))
  simp -implicitDefEqProofs [go_sem]
  refine CC.mono (needed_cc _ _ f k) ?_
  rintro _ _ _ ⟨rfl, rfl, rfl⟩
  simp -implicitDefEqProofs [go_sem]
  simp only [Nat.add_assoc, Nat.reduceAdd]
  refine SWp0.block (SWp0.range [(4, .ptr (H.length + 1) 0), (5, .ptr (H.length + 2) 0)] rfl (by simp [go_sem]) ?_)
  simp -implicitDefEqProofs [go_sem]
  generalize hbd : Code.block 1 _ = bd
  generalize has : Code.region 4 _ _ = asg
  refine CC.mono (needed1_cc (HN H f k cycZ false (lpc 26 #[22] asg bd [(4, .ptr (H.length + 1) 0), (5, .ptr (H.length + 2) 0)] .ready none) []) V (H.length + 5) (H.length + 3) (H.length + 4) f k hs hk1 (hget _ _ 3) (hget _ _ 4)
    (NQ H V f k f.app[k] (lpc 26 #[22] asg bd [(4, .ptr (H.length + 1) 0), (5, .ptr (H.length + 2) 0)] .ready none) (lpc 26 #[22] asg bd [(4, .ptr (H.length + 1) 0), (5, .ptr (H.length + 2) 0)] .done (some .ret))) ?_ ?_ ?_) ?_
  · rintro G V' ⟨rfl, ⟨-, rfl⟩ | ⟨c, -, rfl⟩⟩
    · exact ⟨rfl, hget _ _ 3, hget _ _ 4⟩
    · exact ⟨by simp [HN], hget _ _ 3, hget _ _ 4⟩
  · exact fun h => ⟨rfl, .inl ⟨h, rfl⟩⟩
  · intro c W hf
    refine YC.of_round (n := 26) (ps := #[22]) (bd := bd) (T := [(4, .ptr (H.length + 1) 0), (5, .ptr (H.length + 2) 0)]) (by rw [List.append_assoc]; exact hget _ _ 5) rfl (by decide) ?_
    subst hbd has
    refine Wp.s ?_
    simp -implicitDefEqProofs [go_sem, tps]
    generalize hlp : lpc 26 #[22] _ _ _ LoopState.busy none = lp
    generalize hqq : RQ 26 #[22] _ _ _ _ _ = QQ
    refine SWp.block (SWp.seq (Wp.s ?_))
    simp -implicitDefEqProofs [go_sem]
    have hcy : CySm c := by
      obtain ⟨i, hi, rfl⟩ := List.getElem_of_mem (List.mem_of_find?_eq_some hf)
      exact hs.cy hi
    refine CC.mono (copyCyc_cc _ _ c hcy) ?_
    rintro _ _ _ ⟨rfl, rfl, rfl⟩
    simp -implicitDefEqProofs [go_sem]
    refine ⟨by decide, ?_⟩
    refine Wp.s ?_
    simp -implicitDefEqProofs [go_sem]
    rw [← hqq, ← hlp]
    refine ⟨hget _ _ 5, rfl, HN H f k (cycC c) true (lpc 26 #[22] _ _ [(4, .ptr (H.length + 1) 0), (5, .ptr (H.length + 2) 0)] .done (some .ret)) [], ⟨rfl, .inr ⟨c, hf, rfl⟩⟩, [some (cycC c)], ?_⟩
    simp [HN, go_sem, cycZ]
  · rintro _ _ _ ⟨G, W, ⟨rfl, ⟨h1, rfl⟩ | ⟨c, h1, rfl⟩⟩, rfl⟩
    · refine .inl ⟨by rw [List.append_assoc]; exact hget _ _ 5, ?_⟩
      rw [← e0] at h1
      refine SWp0.seq (SWp.s0 (Wp.s ?_))
      simp -implicitDefEqProofs [go_sem, HN]
      refine ⟨by decide, SWp.s0 (Wp.s ?_)⟩
      simp -implicitDefEqProofs [go_sem]
      exact stop h1 (by simp) (by simp)
    · refine .inr (.inl ⟨by rw [List.append_assoc]; exact hget _ _ 5, ?_⟩)
      rw [← e0] at h1
      simp -implicitDefEqProofs [go_sem, HN, blk, thn]
      rw [h1]
      exact Fin.pu (r0 := dvN (some c)) (.refl _) (by simp [go_sem, dvN]) hokH (by simp) (by simp)
end Go.Proofs.YtpadnceoacbaeaaGreat
namespace Go.Proofs.YtpadnceoacbaeaaGreat
open Go.Proofs
theorem mulA1_cc (H : Hp) (V : List Nat) : CC Tryz.prog 127 [.v (.int .u64 1), .v (.int .u64 1)] H V (Pu (.tup [.v (.int .u64 0), .v (.int .u64 1)]) H V) := by
  have a1 : shr .u64 1 32 = 0 := by kernel_rfl
  have a2 : shr .u64 1 32 = 0 := by kernel_rfl
  have a3 : bitop .and .u64 1 4294967295 = 1 := by kernel_rfl
  have a4 : bitop .and .u64 1 4294967295 = 1 := by kernel_rfl
  have a5 : bitop .and .u64 0 4294967295 = 0 := by kernel_rfl
  have a6 : shr .u64 0 32 = 0 := by kernel_rfl
  have a7 : IntKind.u64.wrap 0 = 0 := by kernel_rfl
  have a8 : IntKind.u64.wrap 1 = 1 := by kernel_rfl
  refine CC.of_swp Tryz.func127 rfl (by kernel_rfl) (by rw [Tryz.ntmps127]; exact len_le _ _ rfl) fun hok hokH => ?_
  clear hok
  refine SWp.seq (Wp.s ?_)
  simp -implicitDefEqProofs [go_sem, args0]
  refine Wp.s ?_
  simp -implicitDefEqProofs [go_sem, a1, a2, a3, a4, a5, a6, a7, a8]
  exact Fin.pu (.refl _) (by simp [go_sem]) hokH (by simp) (by simp)
theorem mulB1_cc (H : Hp) (V : List Nat) : CC Tryz.prog 101 [.v (.int .u64 1), .v (.int .u64 1)] H V (Pu (.tup [.v (.int .u64 0), .v (.int .u64 1)]) H V) := by
  refine CC.of_swp Tryz.func101 rfl (by kernel_rfl) (by rw [Tryz.ntmps101]; exact len_le _ _ rfl) fun hok hokH => ?_
  clear hok
  refine SWp.seq (Wp.s ?_)
  simp -implicitDefEqProofs [go_sem, args0]
  refine SWp.seq (Wp.s ?_)
  simp -implicitDefEqProofs [go_sem]
  refine SWp.seq (Wp.s ?_)
  simp -implicitDefEqProofs [go_sem]
  refine CC.mono (mulA1_cc _ _) ?_
  rintro _ _ _ ⟨rfl, rfl, rfl⟩
  simp -implicitDefEqProofs [go_sem]
  refine Wp.s ?_
  simp -implicitDefEqProofs [go_sem]
  exact Fin.pu (.refl _) (by simp [go_sem]) hokH (by simp) (by simp)
def rpD1 (v : Int) : Nat → List CV
  | _ => [ci v]
def rpM1 : Nat → Nat
  | _ => 1
theorem rep1_cc (H : Hp) (V : List Nat) (tk : Tk) (v : Int) : CC Tryz.prog 70 [.sl tk 1 ([v].map ic), ci 1] H V (Pu (.sl .sh 1 ((List.replicate 1 v).map ic)) H V) := by
  have a1 : IntKind.u64.wrap 1 = 1 := by kernel_rfl
  have a8 : IntKind.u64.wrap 1 = 1 := by kernel_rfl
  have b8 : IntKind.i64.wrap 1 = 1 := by kernel_rfl
  refine CC.of_swp Tryz.func70 rfl (by kernel_rfl) (by rw [Tryz.ntmps70]; exact len_le _ _ rfl) fun hok hokH => ?_
  clear hok
  refine SWp.seq (Wp.s ?_)
  simp -implicitDefEqProofs [go_sem, args0]
  refine SWp.seq (Wp.s ?_)
  simp -implicitDefEqProofs [go_sem]
  refine SWp.seq (Wp.s ?_)
  simp -implicitDefEqProofs [go_sem, a1, a8]
  refine CC.mono (mulB1_cc _ _) ?_
  rintro _ _ _ ⟨rfl, rfl, rfl⟩
  simp -implicitDefEqProofs [go_sem]
  refine SWp.seq (Wp.s ?_)
  simp -implicitDefEqProofs [go_sem]
  refine SWp.seq (Wp.s ?_)
  simp -implicitDefEqProofs [go_sem, b8]
  have h0 : (List.replicate 1 [CV.v (.int .i64 0)]).flatten = List.replicate 1 (ci 0) := rfl
  refine SWp.seq (Wp.s ?_)
  simp -implicitDefEqProofs [go_sem, b8]
  refine ⟨rfl, ?_⟩
  refine SWp.join (α := Unit) (fun _ => ([(7, .bsl H.length 0 1 1)], H ++ [some (rpD1 v 0)], V)) (fun _ => True) ?_ ?_
  · refine SWp.block ?_
    refine SWp.loop (α := Nat) (fun k => ([(7, .bsl H.length 0 1 1), (8, ci (rpM1 k))], H ++ [some (rpD1 v k)], V)) (fun k => k ≤ 0) (fun k => 0 - k) 0 (by omega) (Sh.forget (by simp [go_sem, rpM1]) rfl rfl) ?_
    intro k hk
    dsimp only
    obtain rfl : k = 0 := by omega
    all_goals
      refine SWp.seq (SWp.seq (Wp.s ?_))
      simp -implicitDefEqProofs [go_sem, rpM1]
      refine Wp.s ?_
      simp -implicitDefEqProofs [go_sem]
      first
      | exact Sh.forget (by simp [go_sem]) rfl rfl
      | refine SWp.block ?_
        refine SWp.drawnT [] [7] (.s 0 .pl <| .s 1 .pl <| .s 2 .pl <| .s 3 .pl <| .s 4 .pl <| .s 5 .pl <| .s 6 .pl <| .s 7 .st <| .s 8 .pl <| .s 9 .pl <| .n) (by kernel_rfl) (by kernel_rfl) ?_
        simp -implicitDefEqProofs [go_sem]
        first
        | exact ⟨by first | decide | exact Nat.le_of_ble_eq_true rfl | rfl, by first | decide | exact Nat.le_of_ble_eq_true rfl | rfl, by first | decide | exact Nat.le_of_ble_eq_true rfl | rfl, 1, by omega, by omega, Sh.forget ⟨.refl _, .of_eq rfl, trivial⟩ rfl rfl⟩
        | exact ⟨by first | decide | exact Nat.le_of_ble_eq_true rfl | rfl, by first | decide | exact Nat.le_of_ble_eq_true rfl | rfl, by first | decide | exact Nat.le_of_ble_eq_true rfl | rfl, 2, by omega, by omega, Sh.forget ⟨.refl _, .of_eq rfl, trivial⟩ rfl rfl⟩
  · rintro _ -
    dsimp only
    refine SWp.seq (Wp.s ?_)
    simp -implicitDefEqProofs [go_sem]
    refine Wp.s ?_
    simp -implicitDefEqProofs [go_sem]
    refine Fin.froz (b := H.length) (cs := rpD1 v 0) ⟨rfl, rfl, rfl⟩ (.refl _) (by simp) (xs := (List.replicate 1 v).map ic) rfl (Nat.le_of_ble_eq_true rfl) (by omega) (by rw [okE_ints]; trivial) hokH (by simp) (by simp)
theorem mulA2_cc (H : Hp) (V : List Nat) : CC Tryz.prog 127 [.v (.int .u64 1), .v (.int .u64 2)] H V (Pu (.tup [.v (.int .u64 0), .v (.int .u64 2)]) H V) := by
  have a1 : shr .u64 1 32 = 0 := by kernel_rfl
  have a2 : shr .u64 2 32 = 0 := by kernel_rfl
  have a3 : bitop .and .u64 2 4294967295 = 2 := by kernel_rfl
  have a4 : bitop .and .u64 1 4294967295 = 1 := by kernel_rfl
  have a5 : bitop .and .u64 0 4294967295 = 0 := by kernel_rfl
  have a6 : shr .u64 0 32 = 0 := by kernel_rfl
  have a7 : IntKind.u64.wrap 0 = 0 := by kernel_rfl
  have a8 : IntKind.u64.wrap 2 = 2 := by kernel_rfl
  refine CC.of_swp Tryz.func127 rfl (by kernel_rfl) (by rw [Tryz.ntmps127]; exact len_le _ _ rfl) fun hok hokH => ?_
  clear hok
  refine SWp.seq (Wp.s ?_)
  simp -implicitDefEqProofs [go_sem, args0]
  refine Wp.s ?_
  simp -implicitDefEqProofs [go_sem, a1, a2, a3, a4, a5, a6, a7, a8]
  exact Fin.pu (.refl _) (by simp [go_sem]) hokH (by simp) (by simp)
theorem mulB2_cc (H : Hp) (V : List Nat) : CC Tryz.prog 101 [.v (.int .u64 1), .v (.int .u64 2)] H V (Pu (.tup [.v (.int .u64 0), .v (.int .u64 2)]) H V) := by
  refine CC.of_swp Tryz.func101 rfl (by kernel_rfl) (by rw [Tryz.ntmps101]; exact len_le _ _ rfl) fun hok hokH => ?_
  clear hok
  refine SWp.seq (Wp.s ?_)
  simp -implicitDefEqProofs [go_sem, args0]
  refine SWp.seq (Wp.s ?_)
  simp -implicitDefEqProofs [go_sem]
  refine SWp.seq (Wp.s ?_)
  simp -implicitDefEqProofs [go_sem]
  refine CC.mono (mulA2_cc _ _) ?_
  rintro _ _ _ ⟨rfl, rfl, rfl⟩
  simp -implicitDefEqProofs [go_sem]
  refine Wp.s ?_
  simp -implicitDefEqProofs [go_sem]
  exact Fin.pu (.refl _) (by simp [go_sem]) hokH (by simp) (by simp)
def rpD2 (v : Int) : Nat → List CV
  | 0 => [ci v, ci 0]
  | _ => [ci v, ci v]
def rpM2 : Nat → Nat
  | 0 => 1
  | _ => 2
theorem rep2_cc (H : Hp) (V : List Nat) (tk : Tk) (v : Int) : CC Tryz.prog 70 [.sl tk 1 ([v].map ic), ci 2] H V (Pu (.sl .sh 1 ((List.replicate 2 v).map ic)) H V) := by
  have a1 : IntKind.u64.wrap 1 = 1 := by kernel_rfl
  have a8 : IntKind.u64.wrap 2 = 2 := by kernel_rfl
  have b8 : IntKind.i64.wrap 2 = 2 := by kernel_rfl
  refine CC.of_swp Tryz.func70 rfl (by kernel_rfl) (by rw [Tryz.ntmps70]; exact len_le _ _ rfl) fun hok hokH => ?_
  clear hok
  refine SWp.seq (Wp.s ?_)
  simp -implicitDefEqProofs [go_sem, args0]
  refine SWp.seq (Wp.s ?_)
  simp -implicitDefEqProofs [go_sem]
  refine SWp.seq (Wp.s ?_)
  simp -implicitDefEqProofs [go_sem, a1, a8]
  refine CC.mono (mulB2_cc _ _) ?_
  rintro _ _ _ ⟨rfl, rfl, rfl⟩
  simp -implicitDefEqProofs [go_sem]
  refine SWp.seq (Wp.s ?_)
  simp -implicitDefEqProofs [go_sem]
  refine SWp.seq (Wp.s ?_)
  simp -implicitDefEqProofs [go_sem, b8]
  have h0 : (List.replicate 2 [CV.v (.int .i64 0)]).flatten = List.replicate 2 (ci 0) := rfl
  refine SWp.seq (Wp.s ?_)
  simp -implicitDefEqProofs [go_sem, b8]
  refine ⟨rfl, ?_⟩
  refine SWp.join (α := Unit) (fun _ => ([(7, .bsl H.length 0 2 1)], H ++ [some (rpD2 v 1)], V)) (fun _ => True) ?_ ?_
  · refine SWp.block ?_
    refine SWp.loop (α := Nat) (fun k => ([(7, .bsl H.length 0 2 1), (8, ci (rpM2 k))], H ++ [some (rpD2 v k)], V)) (fun k => k ≤ 1) (fun k => 1 - k) 0 (by omega) (Sh.forget (by simp [go_sem, rpM2]) rfl rfl) ?_
    intro k hk
    dsimp only
    obtain rfl | rfl : k = 0 ∨ k = 1 := by omega
    all_goals
      refine SWp.seq (SWp.seq (Wp.s ?_))
      simp -implicitDefEqProofs [go_sem, rpM2]
      refine Wp.s ?_
      simp -implicitDefEqProofs [go_sem]
      first
      | exact Sh.forget (by simp [go_sem]) rfl rfl
      | refine SWp.block ?_
        refine SWp.drawnT [] [7] (.s 0 .pl <| .s 1 .pl <| .s 2 .pl <| .s 3 .pl <| .s 4 .pl <| .s 5 .pl <| .s 6 .pl <| .s 7 .st <| .s 8 .pl <| .s 9 .pl <| .n) (by kernel_rfl) (by kernel_rfl) ?_
        simp -implicitDefEqProofs [go_sem]
        first
        | exact ⟨by first | decide | exact Nat.le_of_ble_eq_true rfl | rfl, by first | decide | exact Nat.le_of_ble_eq_true rfl | rfl, by first | decide | exact Nat.le_of_ble_eq_true rfl | rfl, 1, by omega, by omega, Sh.forget ⟨.refl _, .of_eq rfl, trivial⟩ rfl rfl⟩
        | exact ⟨by first | decide | exact Nat.le_of_ble_eq_true rfl | rfl, by first | decide | exact Nat.le_of_ble_eq_true rfl | rfl, by first | decide | exact Nat.le_of_ble_eq_true rfl | rfl, 2, by omega, by omega, Sh.forget ⟨.refl _, .of_eq rfl, trivial⟩ rfl rfl⟩
  · rintro _ -
    dsimp only
    refine SWp.seq (Wp.s ?_)
    simp -implicitDefEqProofs [go_sem]
    refine Wp.s ?_
    simp -implicitDefEqProofs [go_sem]
    refine Fin.froz (b := H.length) (cs := rpD2 v 1) ⟨rfl, rfl, rfl⟩ (.refl _) (by simp) (xs := (List.replicate 2 v).map ic) rfl (Nat.le_of_ble_eq_true rfl) (by omega) (by rw [okE_ints]; trivial) hokH (by simp) (by simp)
theorem mulA3_cc (H : Hp) (V : List Nat) : CC Tryz.prog 127 [.v (.int .u64 1), .v (.int .u64 3)] H V (Pu (.tup [.v (.int .u64 0), .v (.int .u64 3)]) H V) := by
  have a1 : shr .u64 1 32 = 0 := by kernel_rfl
  have a2 : shr .u64 3 32 = 0 := by kernel_rfl
  have a3 : bitop .and .u64 3 4294967295 = 3 := by kernel_rfl
  have a4 : bitop .and .u64 1 4294967295 = 1 := by kernel_rfl
  have a5 : bitop .and .u64 0 4294967295 = 0 := by kernel_rfl
  have a6 : shr .u64 0 32 = 0 := by kernel_rfl
  have a7 : IntKind.u64.wrap 0 = 0 := by kernel_rfl
  have a8 : IntKind.u64.wrap 3 = 3 := by kernel_rfl
  refine CC.of_swp Tryz.func127 rfl (by kernel_rfl) (by rw [Tryz.ntmps127]; exact len_le _ _ rfl) fun hok hokH => ?_
  clear hok
  refine SWp.seq (Wp.s ?_)
  simp -implicitDefEqProofs [go_sem, args0]
  refine Wp.s ?_
  simp -implicitDefEqProofs [go_sem, a1, a2, a3, a4, a5, a6, a7, a8]
  exact Fin.pu (.refl _) (by simp [go_sem]) hokH (by simp) (by simp)
theorem mulB3_cc (H : Hp) (V : List Nat) : CC Tryz.prog 101 [.v (.int .u64 1), .v (.int .u64 3)] H V (Pu (.tup [.v (.int .u64 0), .v (.int .u64 3)]) H V) := by
  refine CC.of_swp Tryz.func101 rfl (by kernel_rfl) (by rw [Tryz.ntmps101]; exact len_le _ _ rfl) fun hok hokH => ?_
  clear hok
  refine SWp.seq (Wp.s ?_)
  simp -implicitDefEqProofs [go_sem, args0]
  refine SWp.seq (Wp.s ?_)
  simp -implicitDefEqProofs [go_sem]
  refine SWp.seq (Wp.s ?_)
  simp -implicitDefEqProofs [go_sem]
  refine CC.mono (mulA3_cc _ _) ?_
  rintro _ _ _ ⟨rfl, rfl, rfl⟩
  simp -implicitDefEqProofs [go_sem]
  refine Wp.s ?_
  simp -implicitDefEqProofs [go_sem]
  exact Fin.pu (.refl _) (by simp [go_sem]) hokH (by simp) (by simp)
def rpD3 (v : Int) : Nat → List CV
  | 0 => [ci v, ci 0, ci 0]
  | 1 => [ci v, ci v, ci 0]
  | _ => [ci v, ci v, ci v]
def rpM3 : Nat → Nat
  | 0 => 1
  | 1 => 2
  | _ => 3
theorem rep3_cc (H : Hp) (V : List Nat) (tk : Tk) (v : Int) : CC Tryz.prog 70 [.sl tk 1 ([v].map ic), ci 3] H V (Pu (.sl .sh 1 ((List.replicate 3 v).map ic)) H V) := by
  have a1 : IntKind.u64.wrap 1 = 1 := by kernel_rfl
  have a8 : IntKind.u64.wrap 3 = 3 := by kernel_rfl
  have b8 : IntKind.i64.wrap 3 = 3 := by kernel_rfl
  refine CC.of_swp Tryz.func70 rfl (by kernel_rfl) (by rw [Tryz.ntmps70]; exact len_le _ _ rfl) fun hok hokH => ?_
  clear hok
  refine SWp.seq (Wp.s ?_)
  simp -implicitDefEqProofs [go_sem, args0]
  refine SWp.seq (Wp.s ?_)
  simp -implicitDefEqProofs [go_sem]
  refine SWp.seq (Wp.s ?_)
  simp -implicitDefEqProofs [go_sem, a1, a8]
  refine CC.mono (mulB3_cc _ _) ?_
  rintro _ _ _ ⟨rfl, rfl, rfl⟩
  simp -implicitDefEqProofs [go_sem]
  refine SWp.seq (Wp.s ?_)
  simp -implicitDefEqProofs [go_sem]
  refine SWp.seq (Wp.s ?_)
  simp -implicitDefEqProofs [go_sem, b8]
  have h0 : (List.replicate 3 [CV.v (.int .i64 0)]).flatten = List.replicate 3 (ci 0) := rfl
  refine SWp.seq (Wp.s ?_)
  simp -implicitDefEqProofs [go_sem, b8]
  refine ⟨rfl, ?_⟩
  refine SWp.join (α := Unit) (fun _ => ([(7, .bsl H.length 0 3 1)], H ++ [some (rpD3 v 2)], V)) (fun _ => True) ?_ ?_
  · refine SWp.block ?_
    refine SWp.loop (α := Nat) (fun k => ([(7, .bsl H.length 0 3 1), (8, ci (rpM3 k))], H ++ [some (rpD3 v k)], V)) (fun k => k ≤ 2) (fun k => 2 - k) 0 (by omega) (Sh.forget (by simp [go_sem, rpM3]) rfl rfl) ?_
    intro k hk
    dsimp only
    obtain rfl | rfl | rfl : k = 0 ∨ k = 1 ∨ k = 2 := by omega
    all_goals
      refine SWp.seq (SWp.seq (Wp.s ?_))
      simp -implicitDefEqProofs [go_sem, rpM3]
      refine Wp.s ?_
      simp -implicitDefEqProofs [go_sem]
      first
      | exact Sh.forget (by simp [go_sem]) rfl rfl
      | refine SWp.block ?_
        refine SWp.drawnT [] [7] (.s 0 .pl <| .s 1 .pl <| .s 2 .pl <| .s 3 .pl <| .s 4 .pl <| .s 5 .pl <| .s 6 .pl <| .s 7 .st <| .s 8 .pl <| .s 9 .pl <| .n) (by kernel_rfl) (by kernel_rfl) ?_
        simp -implicitDefEqProofs [go_sem]
        first
        | exact ⟨by first | decide | exact Nat.le_of_ble_eq_true rfl | rfl, by first | decide | exact Nat.le_of_ble_eq_true rfl | rfl, by first | decide | exact Nat.le_of_ble_eq_true rfl | rfl, 1, by omega, by omega, Sh.forget ⟨.refl _, .of_eq rfl, trivial⟩ rfl rfl⟩
        | exact ⟨by first | decide | exact Nat.le_of_ble_eq_true rfl | rfl, by first | decide | exact Nat.le_of_ble_eq_true rfl | rfl, by first | decide | exact Nat.le_of_ble_eq_true rfl | rfl, 2, by omega, by omega, Sh.forget ⟨.refl _, .of_eq rfl, trivial⟩ rfl rfl⟩
  · rintro _ -
    dsimp only
    refine SWp.seq (Wp.s ?_)
    simp -implicitDefEqProofs [go_sem]
    refine Wp.s ?_
    simp -implicitDefEqProofs [go_sem]
    refine Fin.froz (b := H.length) (cs := rpD3 v 2) ⟨rfl, rfl, rfl⟩ (.refl _) (by simp) (xs := (List.replicate 3 v).map ic) rfl (Nat.le_of_ble_eq_true rfl) (by omega) (by rw [okE_ints]; trivial) hokH (by simp) (by simp)
theorem mulA4_cc (H : Hp) (V : List Nat) : CC Tryz.prog 127 [.v (.int .u64 1), .v (.int .u64 4)] H V (Pu (.tup [.v (.int .u64 0), .v (.int .u64 4)]) H V) := by
  have a1 : shr .u64 1 32 = 0 := by kernel_rfl
  have a2 : shr .u64 4 32 = 0 := by kernel_rfl
  have a3 : bitop .and .u64 4 4294967295 = 4 := by kernel_rfl
  have a4 : bitop .and .u64 1 4294967295 = 1 := by kernel_rfl
  have a5 : bitop .and .u64 0 4294967295 = 0 := by kernel_rfl
  have a6 : shr .u64 0 32 = 0 := by kernel_rfl
  have a7 : IntKind.u64.wrap 0 = 0 := by kernel_rfl
  have a8 : IntKind.u64.wrap 4 = 4 := by kernel_rfl
  refine CC.of_swp Tryz.func127 rfl (by kernel_rfl) (by rw [Tryz.ntmps127]; exact len_le _ _ rfl) fun hok hokH => ?_
  clear hok
  refine SWp.seq (Wp.s ?_)
  simp -implicitDefEqProofs [go_sem, args0]
  refine Wp.s ?_
  simp -implicitDefEqProofs [go_sem, a1, a2, a3, a4, a5, a6, a7, a8]
  exact Fin.pu (.refl _) (by simp [go_sem]) hokH (by simp) (by simp)
theorem mulB4_cc (H : Hp) (V : List Nat) : CC Tryz.prog 101 [.v (.int .u64 1), .v (.int .u64 4)] H V (Pu (.tup [.v (.int .u64 0), .v (.int .u64 4)]) H V) := by
  refine CC.of_swp Tryz.func101 rfl (by kernel_rfl) (by rw [Tryz.ntmps101]; exact len_le _ _ rfl) fun hok hokH => ?_
  clear hok
  refine SWp.seq (Wp.s ?_)
  simp -implicitDefEqProofs [go_sem, args0]
  refine SWp.seq (Wp.s ?_)
  simp -implicitDefEqProofs [go_sem]
  refine SWp.seq (Wp.s ?_)
  simp -implicitDefEqProofs [go_sem]
  refine CC.mono (mulA4_cc _ _) ?_
  rintro _ _ _ ⟨rfl, rfl, rfl⟩
  simp -implicitDefEqProofs [go_sem]
  refine Wp.s ?_
  simp -implicitDefEqProofs [go_sem]
  exact Fin.pu (.refl _) (by simp [go_sem]) hokH (by simp) (by simp)
def rpD4 (v : Int) : Nat → List CV
  | 0 => [ci v, ci 0, ci 0, ci 0]
  | 1 => [ci v, ci v, ci 0, ci 0]
  | _ => [ci v, ci v, ci v, ci v]
def rpM4 : Nat → Nat
  | 0 => 1
  | 1 => 2
  | _ => 4
theorem rep4_cc (H : Hp) (V : List Nat) (tk : Tk) (v : Int) : CC Tryz.prog 70 [.sl tk 1 ([v].map ic), ci 4] H V (Pu (.sl .sh 1 ((List.replicate 4 v).map ic)) H V) := by
  have a1 : IntKind.u64.wrap 1 = 1 := by kernel_rfl
  have a8 : IntKind.u64.wrap 4 = 4 := by kernel_rfl
  have b8 : IntKind.i64.wrap 4 = 4 := by kernel_rfl
  refine CC.of_swp Tryz.func70 rfl (by kernel_rfl) (by rw [Tryz.ntmps70]; exact len_le _ _ rfl) fun hok hokH => ?_
  clear hok
  refine SWp.seq (Wp.s ?_)
  simp -implicitDefEqProofs [go_sem, args0]
  refine SWp.seq (Wp.s ?_)
  simp -implicitDefEqProofs [go_sem]
  refine SWp.seq (Wp.s ?_)
  simp -implicitDefEqProofs [go_sem, a1, a8]
  refine CC.mono (mulB4_cc _ _) ?_
  rintro _ _ _ ⟨rfl, rfl, rfl⟩
  simp -implicitDefEqProofs [go_sem]
  refine SWp.seq (Wp.s ?_)
  simp -implicitDefEqProofs [go_sem]
  refine SWp.seq (Wp.s ?_)
  simp -implicitDefEqProofs [go_sem, b8]
  have h0 : (List.replicate 4 [CV.v (.int .i64 0)]).flatten = List.replicate 4 (ci 0) := rfl
  refine SWp.seq (Wp.s ?_)
  simp -implicitDefEqProofs [go_sem, b8]
  refine ⟨rfl, ?_⟩
  refine SWp.join (α := Unit) (fun _ => ([(7, .bsl H.length 0 4 1)], H ++ [some (rpD4 v 2)], V)) (fun _ => True) ?_ ?_
  · refine SWp.block ?_
    refine SWp.loop (α := Nat) (fun k => ([(7, .bsl H.length 0 4 1), (8, ci (rpM4 k))], H ++ [some (rpD4 v k)], V)) (fun k => k ≤ 2) (fun k => 2 - k) 0 (by omega) (Sh.forget (by simp [go_sem, rpM4]) rfl rfl) ?_
    intro k hk
    dsimp only
    obtain rfl | rfl | rfl : k = 0 ∨ k = 1 ∨ k = 2 := by omega
    all_goals
      refine SWp.seq (SWp.seq (Wp.s ?_))
      simp -implicitDefEqProofs [go_sem, rpM4]
      refine Wp.s ?_
      simp -implicitDefEqProofs [go_sem]
      first
      | exact Sh.forget (by simp [go_sem]) rfl rfl
      | refine SWp.block ?_
        refine SWp.drawnT [] [7] (.s 0 .pl <| .s 1 .pl <| .s 2 .pl <| .s 3 .pl <| .s 4 .pl <| .s 5 .pl <| .s 6 .pl <| .s 7 .st <| .s 8 .pl <| .s 9 .pl <| .n) (by kernel_rfl) (by kernel_rfl) ?_
        simp -implicitDefEqProofs [go_sem]
        first
        | exact ⟨by first | decide | exact Nat.le_of_ble_eq_true rfl | rfl, by first | decide | exact Nat.le_of_ble_eq_true rfl | rfl, by first | decide | exact Nat.le_of_ble_eq_true rfl | rfl, 1, by omega, by omega, Sh.forget ⟨.refl _, .of_eq rfl, trivial⟩ rfl rfl⟩
        | exact ⟨by first | decide | exact Nat.le_of_ble_eq_true rfl | rfl, by first | decide | exact Nat.le_of_ble_eq_true rfl | rfl, by first | decide | exact Nat.le_of_ble_eq_true rfl | rfl, 2, by omega, by omega, Sh.forget ⟨.refl _, .of_eq rfl, trivial⟩ rfl rfl⟩
  · rintro _ -
    dsimp only
    refine SWp.seq (Wp.s ?_)
    simp -implicitDefEqProofs [go_sem]
    refine Wp.s ?_
    simp -implicitDefEqProofs [go_sem]
    refine Fin.froz (b := H.length) (cs := rpD4 v 2) ⟨rfl, rfl, rfl⟩ (.refl _) (by simp) (xs := (List.replicate 4 v).map ic) rfl (Nat.le_of_ble_eq_true rfl) (by omega) (by rw [okE_ints]; trivial) hokH (by simp) (by simp)
theorem rep_cc (H : Hp) (V : List Nat) (tk : Tk) (v t : Int) (h1 : 1 ≤ t) (h4 : t ≤ 4) : CC Tryz.prog 70 [.sl tk 1 ([v].map ic), ci t] H V (Pu (.sl .sh 1 ((List.replicate t.toNat v).map ic)) H V) := by
  obtain rfl | rfl | rfl | rfl : t = 1 ∨ t = 2 ∨ t = 3 ∨ t = 4 := by omega
  · exact rep1_cc H V tk v
  · exact rep2_cc H V tk v
  · exact rep3_cc H V tk v
  · exact rep4_cc H V tk v
theorem zeros_bo (n : Nat) : (List.replicate n [CV.v (.bool false)]).flatten = (List.replicate n false).map cbo := by
  induction n with
  | zero => rfl
  | succ n ih => rw [List.replicate_succ, List.flatten_cons, ih, List.replicate_succ, List.map_cons]; rfl
theorem New_f_cc (H : Hp) (V : List Nat) (t l a : Int) : CC Tryz.prog 33 [ci t, ci l, ci a] H V (Pu (dvF (newFan t l a)) H V) := by
  refine CC.of_swp Tryz.func33 rfl (by kernel_rfl) (by rw [Tryz.ntmps33]; exact len_le _ _ rfl) fun hok hokH => ?_
  clear hok
  have stop : ∀ {e : Nat} {H' : Hp} {V' : List Nat}, newFan t l a = .error e → H'.take H.length = H → V'.take V.length = V → Fin H.length V.length (Pu (dvF (newFan t l a)) H V) (.tup [.agg fanZ, er e]) H' V' := fun h1 h2 h3 => by
    rw [h1]; exact Fin.pu (.tup (.cons Le_zfan (.cons (.refl _) .nil))) (by simp [go_sem, dvF]) hokH h2 h3
  refine SWp.seq (Wp.s ?_)
  simp -implicitDefEqProofs [go_sem, args0]
  refine SWp.join (α := Unit) (fun _ => ([(0, ci t), (1, ci l), (2, ci a), (6, .ptr H.length 0)], H ++ [some fanZ], V)) (fun _ => ¬ (t < 1 ∨ 4 < t) ∧ ¬ (l < 1 ∨ 1024 < l ∨ a < 0 ∨ 1073741824 < a)) ?_ ?_
  · refine SWp.block (SWp.seq (Wp.s ?_))
    by_cases a1 : t < 1
    · simp -implicitDefEqProofs [go_sem, a1]
      refine Wp.s ?_
      simp -implicitDefEqProofs [go_sem]
      exact stop (by rw [newFan, if_pos (.inl a1)]) (by simp) (by simp)
    by_cases a2 : 4 < t
    · simp -implicitDefEqProofs [go_sem, a1, a2]
      refine Wp.s ?_
      simp -implicitDefEqProofs [go_sem]
      exact stop (by rw [newFan, if_pos (.inr a2)]) (by simp) (by simp)
    simp -implicitDefEqProofs [go_sem, a1, a2]
    by_cases b1 : l < 1
    · refine Wp.s ?_
      simp -implicitDefEqProofs [go_sem, b1]
      exact stop (by rw [newFan, if_neg (by omega), if_pos (.inl b1)]) (by simp) (by simp)
    by_cases b2 : 1024 < l
    · refine Wp.s ?_
      simp -implicitDefEqProofs [go_sem, b1, b2]
      exact stop (by rw [newFan, if_neg (by omega), if_pos (.inr (.inl b2))]) (by simp) (by simp)
    by_cases b3 : a < 0
    · refine Wp.s ?_
      simp -implicitDefEqProofs [go_sem, b1, b2, b3]
      exact stop (by rw [newFan, if_neg (by omega), if_pos (.inr (.inr (.inl b3)))]) (by simp) (by simp)
    by_cases b4 : 1073741824 < a
    · refine Wp.s ?_
      simp -implicitDefEqProofs [go_sem, b1, b2, b3, b4]
      exact stop (by rw [newFan, if_neg (by omega), if_pos (.inr (.inr (.inr b4)))]) (by simp) (by simp)
    refine Wp.s ?_
    simp -implicitDefEqProofs [go_sem, b1, b2, b3, b4]
    refine ⟨by omega, Sh.forget (by simp [go_sem]) (by simp [fanZ]) rfl⟩
  rintro _ ⟨h1, h2⟩
  dsimp only
  have e0 : newFan t l a = .ok ⟨l, [], List.replicate t.toNat a, List.replicate t.toNat false⟩ := by rw [newFan, if_neg h1, if_neg h2]
  refine SWp.seq (SWp.drawnT [] [8] (.s 0 .pl <| .s 1 .pl <| .s 2 .pl <| .s 3 .pl <| .s 5 .pl <| .c 4 <| .s 6 .pl <| .s 7 .pl <| .s 8 .st <| .s 9 .pl <| .n) (by kernel_rfl) (by kernel_rfl) ?_)
  simp -implicitDefEqProofs [go_sem]
  refine ⟨_, fun H V => rep_cc H V .ti a t (by omega) (by omega), ?_⟩
  simp -implicitDefEqProofs [go_sem]
  refine ⟨by omega, by omega, by decide, ?_⟩
  refine Wp.s ?_
  simp -implicitDefEqProofs [go_sem]
  rw [e0]
  have hz : List.replicate t.toNat (CV.v (.bool false)) = (List.replicate t.toNat false).map cbo := by rw [List.map_replicate]
  have hi : List.replicate t.toNat (ic a) = (List.replicate t.toNat a).map ic := by rw [List.map_replicate]
  rw [hz, hi]
  have e2 := chunk_bo (List.replicate t.toNat false) t.toNat (by simp)
  refine Fin.frozY (b := H.length + 1) (cs := (List.replicate t.toNat false).map cbo) (r1 := .tup [.agg [ci l, .sl .sh 5 [], .sl .sh 1 ((List.replicate t.toNat a).map ic), .bsl (H.length + 1) 0 t.toNat 1], er 0]) (r2 := dvF (.ok ⟨l, [], List.replicate t.toNat a, List.replicate t.toNat false⟩)) ⟨rfl, rfl, rfl⟩ ?_ (hget _ _ 1) (.tup (.cons (.agg (.cons (.refl _) (.cons (.refl _) (.cons (.refl _) (.cons ?_ .nil))))) (.cons (.refl _) .nil))) (by omega) (by simp [go_sem, dvF]) hokH (by simp) (by simp)
  · exact .tup (.cons (.agg (.cons (.refl _) (.cons (.nil 5 (by decide)) (.cons (.refl _) (.cons (.refl _) .nil))))) (.cons (.refl _) .nil))
  · rw [← e2]; exact .bsl 0 _ 1 (by simp)
theorem empty_cc (H : Hp) (V : List Nat) (n : Int) (h : 1 ≤ n) (h2 : n ≤ 1000000) : CC Tryz.prog 34 [ci n] H V (Pu (.agg (cycC ⟨n - 1, n, 0, [], []⟩)) H V) := by
  refine CC.of_swp Tryz.func34 rfl (by kernel_rfl) (by rw [Tryz.ntmps34]; exact len_le _ _ rfl) fun hok hokH => ?_
  clear hok
  have w1 : IntKind.i64.wrap (n - 1) = n - 1 := IntWalk.i64_in _ ⟨by omega, by omega⟩
  refine SWp.seq (Wp.s ?_)
  simp -implicitDefEqProofs [go_sem, args0]
  refine Wp.s ?_
  simp -implicitDefEqProofs [go_sem, w1]
  exact Fin.pu (r0 := .agg (cycC ⟨n - 1, n, 0, [], []⟩)) (.agg (.cons (.refl _) (.cons (.refl _) (.cons (.refl _) (.cons (.nil 1 (by decide)) (.cons (.nil 3 (by decide)) .nil)))))) (by simp [go_sem]) hokH (by simp) (by simp)
theorem eqInt_cc (H : Hp) (V : List Nat) (t1 t2 : Tk) (x y : List Int) (hl : x.length ≤ 1000000000) : CC Tryz.prog 16 [.sl t1 1 (x.map ic), .sl t2 1 (y.map ic)] H V (Pu (.v (.bool (decide (x = y)))) H V) := by
  refine CC.of_swp Tryz.func16 rfl (by kernel_rfl) (by rw [Tryz.ntmps16]; exact len_le _ _ rfl) fun hok hokH => ?_
  clear hok
  refine SWp.seq (Wp.s ?_)
  simp -implicitDefEqProofs [go_sem, args0]
  refine SWp.seq (SWp.seq (Wp.s ?_))
  by_cases hlen : x.length = y.length
  case neg =>
    have hlen' : ¬ (x.length : Int) = (y.length : Int) := by omega
    simp -implicitDefEqProofs [go_sem, hlen']
    refine Wp.s ?_
    simp -implicitDefEqProofs [go_sem, hlen, hlen']
    exact Fin.bool (by simp [show x ≠ y from fun e => hlen (by rw [e])]) hokH (by simp) (by simp)
  simp -implicitDefEqProofs [go_sem, hlen]
  refine Wp.s ?_
  simp -implicitDefEqProofs [go_sem, hlen]
  refine SWp.join (α := Unit) (fun _ => ([], H, V)) (fun _ => x = y) ?_ ?_
  · refine SWp.seq (Wp.s ?_)
    simp -implicitDefEqProofs [go_sem]
    refine SWp.block ?_
    refine SWp.loop (α := Nat) (fun i => ([(0, .sl t1 1 (x.map ic)), (1, .sl t2 1 (y.map ic)), (12, ci x.length), (13, ci i)], H, V)) (fun i => i ≤ x.length ∧ x.take i = y.take i) (fun i => x.length - i) 0 ⟨Nat.zero_le _, rfl⟩ (Sh.forget (by simp [go_sem, hlen]) rfl rfl) ?_
    rintro i ⟨hi, hp⟩
    dsimp only
    refine SWp.seq (Wp.s ?_)
    simp -implicitDefEqProofs [go_sem]
    refine SWp.seq (Wp.s ?_)
    simp -implicitDefEqProofs [go_sem]
    refine ⟨fun h => ?_, fun h => ⟨eq_of_take hlen h hp, Sh.forget (by simp [go_sem]) rfl rfl⟩⟩
    have h2 : i < y.length := by omega
    refine SWp.seq (SWp.block (SWp.seq (Wp.s ?_)))
    simp -implicitDefEqProofs [go_sem]
    refine SWp.seq (SWp.drawnT [] [] (.s 0 .pl <| .s 1 .pl <| .s 2 .pl <| .s 3 .pl <| .s 4 .pl <| .s 5 .pl <| .s 6 .pl <| .s 7 .pl <| .s 8 .pl <| .n) (by kernel_rfl) (by kernel_rfl) ?_)
    by_cases he : x[i] = y[i]
    · simp -implicitDefEqProofs [go_sem, h, h2, he]
      refine Wp.s ?_
      simp -implicitDefEqProofs [go_sem]
      refine Wp.s ?_
      simp -implicitDefEqProofs [go_sem]
      refine ⟨i + 1, ⟨by omega, take_eq_succ h h2 hp he⟩, by omega, Sh.forget ?_ rfl rfl⟩
      simp [go_sem, wrap_succ (show i ≤ 1000000000 by omega)]
    · simp -implicitDefEqProofs [go_sem, h, h2, he]
      refine Wp.s ?_
      simp -implicitDefEqProofs [go_sem]
      exact Fin.bool (by simp [ne_at h h2 he]) hokH (by simp) (by simp)
  · rintro _ he
    dsimp only
    refine Wp.s ?_
    simp -implicitDefEqProofs [go_sem]
    exact Fin.bool (by simp [he]) hokH (by simp) (by simp)
theorem eqInt1_cc (H : Hp) (V : List Nat) (t2 : Tk) (y : List Int) : CC Tryz.prog 16 [.v (.slice none 0 0), .sl t2 1 (y.map ic)] H V (Pu (.v (.bool (decide ([] = y)))) H V) :=
  CC.le (.cons (.nil 1 (by decide)) (.cons (.refl _) .nil)) (eqInt_cc H V .sh t2 [] y (by simp))

end Go.Proofs.YtpadnceoacbaeaaGreat
namespace Go.Proofs.YtpadnceoacbaeaaGreat
open Go.Proofs
theorem SameFan_cc (H : Hp) (V : List Nat) (a b : Fan) (hs : Sm a) : CC Tryz.prog 15 [.agg (fanC a), .agg (fanC b)] H V (Pu (.v (.bool (decide (a = b)))) H V) := by
  refine CC.of_swp Tryz.func15 rfl (by kernel_rfl) (by rw [Tryz.ntmps15]; exact len_le _ _ rfl) fun hok hokH => ?_
  clear hok
  have hkl := hs.kl
  have hal := hs.al
  have hll := hs.ll
  refine SWp.seq (Wp.s ?_)
  simp -implicitDefEqProofs [go_sem, args0]
  refine SWp.join (α := Unit) (fun _ => ([(2, .ptr H.length 0), (3, .ptr (H.length + 1) 0)], H ++ [some (fanC a), some (fanC b)], V)) (fun _ => a.limit = b.limit ∧ a.app = b.app ∧ a.kept.length = b.kept.length ∧ a.lost.length = b.lost.length) ?_ ?_
  · refine SWp.seq (Wp.s ?_)
    by_cases e1 : a.limit = b.limit
    case neg =>
      simp -implicitDefEqProofs [go_sem, e1]
      refine Wp.s ?_
      simp -implicitDefEqProofs [go_sem]
      exact Fin.bool (by simp [show a ≠ b from fun e => e1 (by rw [e])]) hokH (by simp) (by simp)
    simp -implicitDefEqProofs [go_sem, e1]
    refine CC.mono (SameInts_cc _ _ _ _ a.app b.app (by omega)) ?_
    rintro _ _ _ ⟨rfl, rfl, rfl⟩
    by_cases e2 : a.app = b.app
    case neg =>
      simp -implicitDefEqProofs [go_sem, e2]
      refine Wp.s ?_
      simp -implicitDefEqProofs [go_sem]
      exact Fin.bool (by simp [show a ≠ b from fun e => e2 (by rw [e])]) hokH (by simp) (by simp)
    by_cases e3 : a.kept.length = b.kept.length
    case neg =>
      have e3' : ¬ (a.kept.length : Int) = (b.kept.length : Int) := by omega
      simp -implicitDefEqProofs [go_sem, e2, e3, e3']
      refine Wp.s ?_
      simp -implicitDefEqProofs [go_sem]
      exact Fin.bool (by simp [show a ≠ b from fun e => e3 (by rw [e])]) hokH (by simp) (by simp)
    have e3' : (a.kept.length : Int) = (b.kept.length : Int) := by omega
    by_cases e4 : a.lost.length = b.lost.length
    case neg =>
      have e4' : ¬ (a.lost.length : Int) = (b.lost.length : Int) := by omega
      simp -implicitDefEqProofs [go_sem, e2, e3, e3', e4, e4']
      refine Wp.s ?_
      simp -implicitDefEqProofs [go_sem]
      exact Fin.bool (by simp [show a ≠ b from fun e => e4 (by rw [e])]) hokH (by simp) (by simp)
    have e4' : (a.lost.length : Int) = (b.lost.length : Int) := by omega
    simp -implicitDefEqProofs [go_sem, e2, e3, e3', e4, e4']
    refine Wp.s ?_
    simp -implicitDefEqProofs [go_sem]
    first
    | exact ⟨⟨e1, e2, e3, e4⟩, Sh.forget (by simp [go_sem]) rfl rfl⟩
    | exact Sh.forget (by simp [go_sem]) rfl rfl
  rintro _ ⟨e1, e2, e3, e4⟩
  dsimp only
  refine SWp.join (α := Unit) (fun _ => ([(2, .ptr H.length 0), (3, .ptr (H.length + 1) 0)], H ++ [some (fanC a), some (fanC b)], V)) (fun _ => a.kept = b.kept) ?_ ?_
  · refine SWp.seq (Wp.s ?_)
    simp -implicitDefEqProofs [go_sem]
    refine SWp.block ?_
    refine SWp.loop (α := Nat) (fun i => ([(2, .ptr H.length 0), (3, .ptr (H.length + 1) 0), (5, ci i)], H ++ [some (fanC a), some (fanC b)], V)) (fun i => i ≤ a.kept.length ∧ a.kept.take i = b.kept.take i) (fun i => a.kept.length - i) 0 ⟨Nat.zero_le _, rfl⟩ (Sh.forget (by simp [go_sem]) rfl rfl) ?_
    rintro i ⟨hi, hp⟩
    dsimp only
    refine SWp.seq (SWp.seq (Wp.s ?_))
    simp -implicitDefEqProofs [go_sem]
    refine Wp.s ?_
    simp -implicitDefEqProofs [go_sem]
    refine ⟨fun h => ?_, fun h => ⟨eq_of_take e3 h hp, Sh.forget (by simp [go_sem]) rfl rfl⟩⟩
    have h2 : i < b.kept.length := by omega
    obtain ⟨c1, c2, c3⟩ := hs.kc _ (List.getElem_mem h)
    refine SWp.seq (SWp.block (SWp.seq (SWp.drawnT [] [] (.s 0 .pl <| .s 1 .pl <| .s 2 .pl <| .s 3 .pl <| .s 4 .pl <| .s 5 .pl <| .s 6 .pl <| .s 7 .pl <| .s 8 .pl <| .s 9 .pl <| .s 10 .pl <| .s 11 .pl <| .n) (by kernel_rfl) (by kernel_rfl) ?_)))
    simp -implicitDefEqProofs [go_sem, h, h2]
    refine CC.mono (SameCyc_cc _ _ a.kept[i] b.kept[i] (by omega) (by omega) c2) ?_
    rintro _ _ _ ⟨rfl, rfl, rfl⟩
    by_cases he : a.kept[i] = b.kept[i]
    · simp -implicitDefEqProofs [go_sem, he]
      refine Wp.s ?_
      simp -implicitDefEqProofs [go_sem]
      refine Wp.s ?_
      simp -implicitDefEqProofs [go_sem]
      refine ⟨i + 1, ⟨by omega, take_eq_succ h h2 hp he⟩, by omega, Sh.forget ?_ rfl rfl⟩
      simp [go_sem, wrap_succ (show i ≤ 1000000000 by omega)]
    · simp -implicitDefEqProofs [go_sem, he]
      refine Wp.s ?_
      simp -implicitDefEqProofs [go_sem]
      exact Fin.bool (by simp [show a ≠ b from fun e => ne_at h h2 he (by rw [e])]) hokH (by simp) (by simp)
  rintro _ e5
  dsimp only
  refine SWp.join (α := Unit) (fun _ => ([], H ++ [some (fanC a), some (fanC b)], V)) (fun _ => a.lost = b.lost) ?_ ?_
  · refine SWp.seq (Wp.s ?_)
    simp -implicitDefEqProofs [go_sem]
    refine SWp.block ?_
    refine SWp.loop (α := Nat) (fun i => ([(2, .ptr H.length 0), (3, .ptr (H.length + 1) 0), (6, ci i)], H ++ [some (fanC a), some (fanC b)], V)) (fun i => i ≤ a.lost.length ∧ a.lost.take i = b.lost.take i) (fun i => a.lost.length - i) 0 ⟨Nat.zero_le _, rfl⟩ (Sh.forget (by simp [go_sem]) rfl rfl) ?_
    rintro i ⟨hi, hp⟩
    dsimp only
    refine SWp.seq (SWp.seq (Wp.s ?_))
    simp -implicitDefEqProofs [go_sem]
    refine Wp.s ?_
    simp -implicitDefEqProofs [go_sem]
    refine ⟨fun h => ?_, fun h => ⟨eq_of_take e4 h hp, Sh.forget (by simp [go_sem]) rfl rfl⟩⟩
    have h2 : i < b.lost.length := by omega
    refine SWp.seq (SWp.block (SWp.seq (SWp.drawnT [] [] (.s 0 .pl <| .s 1 .pl <| .s 2 .pl <| .s 3 .pl <| .s 4 .pl <| .s 5 .pl <| .s 6 .pl <| .s 7 .pl <| .s 8 .pl <| .s 9 .pl <| .s 10 .pl <| .n) (by kernel_rfl) (by kernel_rfl) ?_)))
    cases h3 : a.lost[i] <;> cases h4 : b.lost[i]
    case false.false | true.true =>
      simp -implicitDefEqProofs [go_sem, h, h2, h3, h4]
      refine Wp.s ?_
      simp -implicitDefEqProofs [go_sem]
      refine Wp.s ?_
      simp -implicitDefEqProofs [go_sem]
      refine ⟨i + 1, ⟨by omega, take_eq_succ h h2 hp (by rw [h3, h4])⟩, by omega, Sh.forget ?_ rfl rfl⟩
      simp [go_sem, wrap_succ (show i ≤ 1000000000 by omega)]
    case false.true | true.false =>
      simp -implicitDefEqProofs [go_sem, h, h2, h3, h4]
      refine Wp.s ?_
      simp -implicitDefEqProofs [go_sem]
      exact Fin.bool (by simp [show a ≠ b from fun e => ne_at h h2 (by rw [h3, h4]; decide) (by rw [e])]) hokH (by simp) (by simp)
  rintro _ e6
  dsimp only
  refine Wp.s ?_
  simp -implicitDefEqProofs [go_sem]
  exact Fin.bool (by simp [fan_ext e1 e5 e2 e6]) hokH (by simp) (by simp)
/-! ### Small ones -/
def few42 (f : Fan) : Bool := (f.kept.take 20).all few23 && (decide (f.kept.length ≤ 16) && (decide (f.app.length ≤ 10) && decide (f.lost.length ≤ 10)))
def fewK (f : Fan) (i : Nat) : Bool := (f.kept.take i).all few23
theorem fewK_bad {f : Fan} {i : Nat} (h : i < f.kept.length) (h6 : i < 20) (hb : few23 f.kept[i] = false) : few42 f = false := by
  unfold few42
  rw [Bool.and_eq_false_iff]
  left
  rw [List.all_eq_false]
  exact ⟨f.kept[i], List.mem_take_iff_getElem.2 ⟨i, by omega, rfl⟩, by simp [hb]⟩
theorem fewK_ok {f : Fan} {i : Nat} (hi : i ≤ f.kept.length) (h : f.kept.length ≤ i ∨ 20 ≤ i) (h6 : i ≤ 20) (hp : fewK f i = true) : few42 f = (decide (f.kept.length ≤ 16) && (decide (f.app.length ≤ 10) && decide (f.lost.length ≤ 10))) := by
  unfold few42
  have : f.kept.take 20 = f.kept.take i := by
    rcases h with h | h
    · rw [List.take_of_length_le (by omega), List.take_of_length_le (by omega)]
    · rw [show i = 20 by omega]
  rw [this]
  unfold fewK at hp
  rw [hp, Bool.true_and]
theorem few42_cc (H : Hp) (V : List Nat) (f : Fan) : CC Tryz.prog 8 [.agg (fanC f)] H V (Pu (.v (.bool (few42 f))) H V) := by
  refine CC.of_swp Tryz.func8 rfl (by kernel_rfl) (by rw [Tryz.ntmps8]; exact len_le _ _ rfl) fun hok hokH => ?_
  clear hok
  refine SWp.seq (Wp.s ?_)
  simp -implicitDefEqProofs [go_sem, args0]
  refine SWp.join (α := Unit) (fun _ => ([(1, .ptr H.length 0)], H ++ [some (fanC f)], V)) (fun _ => few42 f = (decide (f.kept.length ≤ 16) && (decide (f.app.length ≤ 10) && decide (f.lost.length ≤ 10)))) ?_ ?_
  · refine SWp.seq (Wp.s ?_)
    simp -implicitDefEqProofs [go_sem]
    refine SWp.block ?_
    refine SWp.loop (α := Nat) (fun i => ([(1, .ptr H.length 0), (3, ci i)], H ++ [some (fanC f)], V)) (fun i => i ≤ f.kept.length ∧ i ≤ 20 ∧ fewK f i = true) (fun i => 20 - i) 0 ⟨Nat.zero_le _, by omega, rfl⟩ (Sh.forget (by simp [go_sem]) rfl rfl) ?_
    rintro i ⟨hi, h6, hp⟩
    dsimp only
    refine SWp.seq (SWp.seq (Wp.s ?_))
    generalize hR : (fun _ : Unit => few42 f = (decide (f.kept.length ≤ 16) && (decide (f.app.length ≤ 10) && decide (f.lost.length ≤ 10)))) = R
    by_cases h : i < f.kept.length
    case neg =>
      have h' : ¬ (i : Int) < (f.kept.length : Int) := by omega
      simp -implicitDefEqProofs [go_sem, h, h']
      refine Wp.s ?_
      simp -implicitDefEqProofs [go_sem, h, h']
      exact ⟨fewK_ok hi (.inl (by omega)) h6 hp, Sh.forget (by simp [go_sem]) rfl rfl⟩
    by_cases h60 : i < 20
    case neg =>
      have h' : ¬ (i : Int) < 20 := by omega
      simp -implicitDefEqProofs [go_sem, h, h60, h']
      refine Wp.s ?_
      simp -implicitDefEqProofs [go_sem]
      exact ⟨fewK_ok hi (.inr (by omega)) h6 hp, Sh.forget (by simp [go_sem]) rfl rfl⟩
    have h' : (i : Int) < 20 := by omega
    simp -implicitDefEqProofs [go_sem, h, h60, h']
    refine Wp.s ?_
    simp -implicitDefEqProofs [go_sem]
    refine SWp.seq (SWp.block (SWp.seq (Wp.s ?_)))
    simp -implicitDefEqProofs [go_sem, h]
    refine CC.mono (few23_cc _ _ f.kept[i]) ?_
    rintro _ _ _ ⟨rfl, rfl, rfl⟩
    cases hb : few23 f.kept[i] with
    | false =>
      simp -implicitDefEqProofs [go_sem]
      refine Wp.s ?_
      simp -implicitDefEqProofs [go_sem]
      exact Fin.bool (fewK_bad h h60 hb).symm hokH (by simp) (by simp)
    | true =>
      simp -implicitDefEqProofs [go_sem]
      refine Wp.s ?_
      simp -implicitDefEqProofs [go_sem]
      refine Wp.s ?_
      simp -implicitDefEqProofs [go_sem]
      refine ⟨i + 1, ⟨by omega, by omega, all_take h hp hb⟩, by omega, Sh.forget ?_ rfl rfl⟩
      simp [go_sem, wrap_succ (show i ≤ 1000000000 by omega)]
  rintro _ e0
  dsimp only
  refine SWp.seq (Wp.s ?_)
  by_cases c1 : f.kept.length ≤ 16
  case neg =>
    have c1' : ¬ (f.kept.length : Int) ≤ 16 := by omega
    simp -implicitDefEqProofs [go_sem, c1']
    refine Wp.s ?_
    simp -implicitDefEqProofs [go_sem]
    exact Fin.bool (by rw [e0]; simp [c1]) hokH (by simp) (by simp)
  have c1' : (f.kept.length : Int) ≤ 16 := by omega
  by_cases c2 : f.app.length ≤ 10
  case neg =>
    have c2' : ¬ (f.app.length : Int) ≤ 10 := by omega
    simp -implicitDefEqProofs [go_sem, c1', c2']
    refine Wp.s ?_
    simp -implicitDefEqProofs [go_sem]
    exact Fin.bool (by rw [e0]; simp [c1, c2]) hokH (by simp) (by simp)
  have c2' : (f.app.length : Int) ≤ 10 := by omega
  by_cases c3 : f.lost.length ≤ 10
  case neg =>
    have c3' : ¬ (f.lost.length : Int) ≤ 10 := by omega
    simp -implicitDefEqProofs [go_sem, c1', c2', c3']
    refine Wp.s ?_
    simp -implicitDefEqProofs [go_sem]
    exact Fin.bool (by rw [e0]; simp [c1, c2, c3]) hokH (by simp) (by simp)
  have c3' : (f.lost.length : Int) ≤ 10 := by omega
  simp -implicitDefEqProofs [go_sem, c1', c2', c3']
  refine Wp.s ?_
  simp -implicitDefEqProofs [go_sem]
  exact Fin.bool (by rw [e0]; simp [c1, c2, c3]) hokH (by simp) (by simp)
theorem few22_S {l : List Wr} (h : few22 l = true) : l.length ≤ 1000000 ∧ WrS l := by
  unfold few22 at h
  rw [Bool.and_eq_true, decide_eq_true_eq, List.all_eq_true] at h
  refine ⟨by omega, fun w hw => ?_⟩
  rw [List.take_of_length_le (by omega)] at h
  have := h.1 w hw
  simp at this
  omega
theorem few23_S {c : Cyc} (h : few23 c = true) : CySm c := by
  unfold few23 at h
  rw [Bool.and_eq_true, decide_eq_true_eq] at h
  obtain ⟨a, b⟩ := few22_S h.2
  exact ⟨a, b, by omega⟩
theorem few42_S {f : Fan} (h : few42 f = true) : Sm f := by
  unfold few42 at h
  simp only [Bool.and_eq_true, decide_eq_true_eq, List.all_eq_true] at h
  obtain ⟨h0, h1, h2, h3⟩ := h
  refine ⟨by omega, by omega, by omega, fun c hc => ?_⟩
  rw [List.take_of_length_le (by omega)] at h0
  obtain ⟨a, b, d⟩ := few23_S (h0 c hc)
  exact ⟨a, b, d⟩
end Go.Proofs.YtpadnceoacbaeaaGreat
