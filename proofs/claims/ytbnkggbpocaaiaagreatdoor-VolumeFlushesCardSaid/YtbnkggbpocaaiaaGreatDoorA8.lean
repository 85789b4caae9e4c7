import Derived.Test.YtbnkggbpocaaiaaGreatDoorA7
import Derived.Test.YtbnkggbpocaaiaaGreatDoorA5
import Derived.Test.YtbnkggbpocaaiaaGreatDoorA6
import Derived.Test.YtbnkggbpocaaiaaGreatDoorA3
import Derived.ProofKit
import Derived.OpenShut
import Derived.Below
import Derived.Test.YtbnkggbpocaaiaaGreatDoorA4
set_option linter.unusedSimpArgs false
set_option linter.unusedVariables false
set_option linter.unusedSectionVars false
namespace Go.Proofs.YtbnkggbpocaaiaaGreatDoor
open Go.Proofs
def SzOk (l : List Int) : Prop := l.length ≤ 1000 ∧ ∀ n ∈ l, 0 ≤ n ∧ n ≤ 4096
theorem SzOk.of {l : List Int} (h : sizesE l = 0) : SzOk l := by
  obtain ⟨h1, h2, h3⟩ := sizesE_0 h
  exact ⟨by omega, fun n hn => by have := h3 n hn; omega⟩
theorem SzOk.take {l : List Int} (h : SzOk l) (k : Nat) : SzOk (l.take k) := ⟨by rw [List.length_take]; have := h.1; omega, fun n hn => h.2 n (List.mem_of_mem_take hn)⟩
theorem SzOk.sum {l : List Int} (h : SzOk l) : ∀ k, 0 ≤ sumI (l.take k) ∧ sumI (l.take k) ≤ 4096 * (min k l.length : Nat)
  | 0 => by simp [sumI]
  | k + 1 => by
    have ih := h.sum k
    by_cases hk : k < l.length
    · rw [List.take_succ_eq_append_getElem hk, sumI_snoc]
      have := h.2 _ (List.getElem_mem hk)
      omega
    · rw [List.take_of_length_le (by omega)] at ih ⊢
      rw [Nat.min_eq_right (by omega)] at ih ⊢
      exact ih
theorem SzOk.sum' {l : List Int} (h : SzOk l) : 0 ≤ sumI l ∧ sumI l ≤ 4096 * (l.length : Int) := by
  have := h.sum l.length
  rw [List.take_length, Nat.min_self] at this
  omega
theorem vsum_cc (H : Hp) (V : List Nat) (tk : Tk) (l : List Int) (h : SzOk l) : CC Tryz.prog 42 [.sl tk 1 (l.map ic)] H V (Pu (ci (sumI l)) H V) := by
  refine CC.of_swp Tryz.func42 rfl (by kernel_rfl) (by rw [Tryz.ntmps42]; exact len_le _ _ rfl) fun hok hokH => ?_
  clear hok
  have hl := h.1
  refine SWp.seq (Wp.s ?_)
  simp -implicitDefEqProofs [go_sem, args0]
  refine SWp.seq (Wp.s ?_)
  simp -implicitDefEqProofs [go_sem]
  refine SWp.join (α := Unit) (fun _ => ([(3, ci (sumI l))], H, V)) (fun _ => True) ?_ ?_
  · refine SWp.seq (Wp.s ?_)
    simp -implicitDefEqProofs [go_sem]
    refine SWp.block ?_
    refine SWp.loop (α := Nat) (fun i => ([(3, ci (sumI (l.take i))), (6, .sl tk 1 (l.map ic)), (7, ci l.length), (8, ci i)], H, V)) (fun i => i ≤ l.length) (fun i => l.length - i) 0 (Nat.zero_le _) (Sh.forget (by simp [go_sem, sumI]) rfl rfl) ?_
    intro i hi
    dsimp only
    refine SWp.seq (Wp.s ?_)
    simp -implicitDefEqProofs [go_sem]
    refine SWp.seq (Wp.s ?_)
    simp -implicitDefEqProofs [go_sem]
    refine ⟨fun hi => ?_, fun hi => Sh.forget (by rw [List.take_of_length_le (by omega)]; simp [go_sem]) rfl rfl⟩
    have h1 := h.sum i
    have h2 := h.2 _ (List.getElem_mem hi)
    have hs : sumI (l.take (i + 1)) = sumI (l.take i) + l[i] := by rw [List.take_succ_eq_append_getElem hi, sumI_snoc]
    have w1 : IntKind.i64.wrap (sumI (l.take i) + l[i]) = sumI (l.take i) + l[i] := IntWalk.i64_in _ ⟨by omega, by omega⟩
    have w2 : IntKind.i64.wrap ((i : Int) + 1) = (i : Int) + 1 := IntWalk.i64_in _ ⟨by omega, by omega⟩
    refine SWp.seq (SWp.block (SWp.seq (Wp.s ?_)))
    simp -implicitDefEqProofs [go_sem, hi]
    refine Wp.s ?_
    simp -implicitDefEqProofs [go_sem, w1]
    refine Wp.s ?_
    simp -implicitDefEqProofs [go_sem, w2]
    refine ⟨i + 1, by omega, by omega, Sh.forget (by rw [hs]; simp [go_sem]) rfl rfl⟩
  rintro _ -
  dsimp only
  refine SWp.seq (Wp.s ?_)
  simp -implicitDefEqProofs [go_sem]
  refine Wp.s ?_
  simp -implicitDefEqProofs [go_sem]
  exact Fin.pu (.refl _) (by simp [go_sem]) hokH (by simp) (by simp)
theorem rsum_cc (H : Hp) (V : List Nat) (tk : Tk) (l : List Int) (h : SzOk l) : CC Tryz.prog 44 [.sl tk 1 (l.map ic)] H V (Pu (ci (sumI l)) H V) := by
  refine CC.of_swp Tryz.func44 rfl (by kernel_rfl) (by rw [Tryz.ntmps44]; exact len_le _ _ rfl) fun hok hokH => ?_
  clear hok
  have hl := h.1
  refine SWp.seq (Wp.s ?_)
  simp -implicitDefEqProofs [go_sem, args0]
  refine SWp.seq (Wp.s ?_)
  simp -implicitDefEqProofs [go_sem]
  refine SWp.join (α := Unit) (fun _ => ([(3, ci (sumI l))], H, V)) (fun _ => True) ?_ ?_
  · refine SWp.seq (Wp.s ?_)
    simp -implicitDefEqProofs [go_sem]
    refine SWp.block ?_
    refine SWp.loop (α := Nat) (fun i => ([(0, .sl tk 1 (l.map ic)), (3, ci (sumI (l.take i))), (4, ci i)], H, V)) (fun i => i ≤ l.length) (fun i => l.length - i) 0 (Nat.zero_le _) (Sh.forget (by simp [go_sem, sumI]) rfl rfl) ?_
    intro i hi
    dsimp only
    refine SWp.seq (SWp.seq (Wp.s ?_))
    simp -implicitDefEqProofs [go_sem]
    refine Wp.s ?_
    simp -implicitDefEqProofs [go_sem]
    refine ⟨fun hi => ?_, fun hi => Sh.forget (by rw [List.take_of_length_le (by omega)]; simp [go_sem]) rfl rfl⟩
    have h1 := h.sum i
    have h2 := h.2 _ (List.getElem_mem hi)
    have hs : sumI (l.take (i + 1)) = sumI (l.take i) + l[i] := by rw [List.take_succ_eq_append_getElem hi, sumI_snoc]
    have w1 : IntKind.i64.wrap (sumI (l.take i) + l[i]) = sumI (l.take i) + l[i] := IntWalk.i64_in _ ⟨by omega, by omega⟩
    have w2 : IntKind.i64.wrap ((i : Int) + 1) = (i : Int) + 1 := IntWalk.i64_in _ ⟨by omega, by omega⟩
    refine SWp.seq (SWp.block (Wp.s ?_))
    simp -implicitDefEqProofs [go_sem, hi, w1]
    refine Wp.s ?_
    simp -implicitDefEqProofs [go_sem, w2]
    refine ⟨i + 1, by omega, by omega, Sh.forget (by rw [hs]; simp [go_sem]) rfl rfl⟩
  rintro _ -
  dsimp only
  refine SWp.seq (Wp.s ?_)
  simp -implicitDefEqProofs [go_sem]
  refine Wp.s ?_
  simp -implicitDefEqProofs [go_sem]
  exact Fin.pu (.refl _) (by simp [go_sem]) hokH (by simp) (by simp)
theorem vSize_cc (H : Hp) (V : List Nat) (tk : Tk) (l : List Int) (n : Int) (hl : l.length ≤ 9223372036854775807) : CC Tryz.prog 12 [.sl tk 1 (l.map ic), ci n] H V (Pu (.tup [ci (sizeV l n).1, er (sizeV l n).2]) H V) := by
  refine CC.of_swp Tryz.func12 rfl (by kernel_rfl) (by rw [Tryz.ntmps12]; exact len_le _ _ rfl) fun hok hokH => ?_
  clear hok
  have fin : ∀ (x : Int) (e : Nat) (H' : Hp) (V' : List Nat), sizeV l n = (x, e) → H'.take H.length = H → V'.take V.length = V → Fin H.length V.length (Pu (.tup [ci (sizeV l n).1, er (sizeV l n).2]) H V) (.tup [ci x, er e]) H' V' := fun x e H' V' h1 h2 h3 => by
    rw [h1]; exact Fin.pu (.refl _) (by simp [go_sem]) hokH h2 h3
  refine SWp.seq (Wp.s ?_)
  simp -implicitDefEqProofs [go_sem, args0]
  refine SWp.seq (SWp.seq (Wp.s ?_))
  simp -implicitDefEqProofs [go_sem]
  refine CC.mono (New_cc _ _ tk l hl) ?_
  rintro _ _ _ ⟨rfl, rfl, rfl⟩
  simp -implicitDefEqProofs [go_sem]
  refine SWp.seq (Wp.s ?_)
  by_cases h0 : sizesE l = 0
  case neg =>
    simp -implicitDefEqProofs [go_sem, h0]
    refine Wp.s ?_
    simp -implicitDefEqProofs [go_sem]
    exact fin _ _ _ _ (by rw [sizeV, if_pos h0]) (by simp) (by simp)
  have hz := SzOk.of h0
  have hs := hz.sum'
  have hl8 := (sizesE_0 h0).2.1
  have w1 : IntKind.i64.wrap (4096 - sumI l) = 4096 - sumI l := IntWalk.i64_in _ ⟨by omega, by omega⟩
  simp -implicitDefEqProofs [go_sem, h0]
  refine Wp.s ?_
  simp -implicitDefEqProofs [go_sem]
  refine SWp.seq (SWp.seq (Wp.s ?_))
  by_cases h1 : n < 20
  · simp -implicitDefEqProofs [go_sem, h1]
    refine Wp.s ?_
    simp -implicitDefEqProofs [go_sem]
    exact fin _ _ _ _ (by rw [sizeV, if_neg (by simp [h0]), if_pos (.inl h1)]) (by simp) (by simp)
  simp -implicitDefEqProofs [go_sem, h1]
  refine CC.mono (vsum_cc _ _ tk l hz) ?_
  rintro _ _ _ ⟨rfl, rfl, rfl⟩
  by_cases h2 : 4096 - sumI l < n
  · simp -implicitDefEqProofs [go_sem, w1, h2]
    refine Wp.s ?_
    simp -implicitDefEqProofs [go_sem]
    exact fin _ _ _ _ (by rw [sizeV, if_neg (by simp [h0]), if_pos (.inr h2)]) (by simp) (by simp)
  have w2 : IntKind.i64.wrap (n + sumI l) = n + sumI l := IntWalk.i64_in _ ⟨by omega, by omega⟩
  simp -implicitDefEqProofs [go_sem, w1, h2]
  refine Wp.s ?_
  simp -implicitDefEqProofs [go_sem]
  refine SWp.seq (Wp.s ?_)
  simp -implicitDefEqProofs [go_sem]
  refine CC.mono (vsum_cc _ _ tk l hz) ?_
  rintro _ _ _ ⟨rfl, rfl, rfl⟩
  simp -implicitDefEqProofs [go_sem, w2]
  refine Wp.s ?_
  simp -implicitDefEqProofs [go_sem]
  exact fin _ _ _ _ (by rw [sizeV, if_neg (by simp [h0]), if_neg (by omega)]) (by simp) (by simp)
theorem rSize_cc (H : Hp) (V : List Nat) (tk : Tk) (l : List Int) (n : Int) (hl : l.length ≤ 9223372036854775807) : CC Tryz.prog 13 [.sl tk 1 (l.map ic), ci n] H V (Pu (.tup [ci (sizeV l n).1, er (sizeV l n).2]) H V) := by
  refine CC.of_swp Tryz.func13 rfl (by kernel_rfl) (by rw [Tryz.ntmps13]; exact len_le _ _ rfl) fun hok hokH => ?_
  clear hok
  have fin : ∀ (x : Int) (e : Nat) (H' : Hp) (V' : List Nat), sizeV l n = (x, e) → H'.take H.length = H → V'.take V.length = V → Fin H.length V.length (Pu (.tup [ci (sizeV l n).1, er (sizeV l n).2]) H V) (.tup [ci x, er e]) H' V' := fun x e H' V' h1 h2 h3 => by
    rw [h1]; exact Fin.pu (.refl _) (by simp [go_sem]) hokH h2 h3
  refine SWp.seq (Wp.s ?_)
  simp -implicitDefEqProofs [go_sem, args0]
  refine SWp.seq (SWp.seq (Wp.s ?_))
  simp -implicitDefEqProofs [go_sem]
  refine CC.mono (refSizes_cc _ _ tk l hl) ?_
  rintro _ _ _ ⟨rfl, rfl, rfl⟩
  simp -implicitDefEqProofs [go_sem]
  refine SWp.seq (Wp.s ?_)
  by_cases h0 : sizesE l = 0
  case neg =>
    simp -implicitDefEqProofs [go_sem, h0]
    refine Wp.s ?_
    simp -implicitDefEqProofs [go_sem]
    exact fin _ _ _ _ (by rw [sizeV, if_pos h0]) (by simp) (by simp)
  have hz := SzOk.of h0
  have hs := hz.sum'
  have hl8 := (sizesE_0 h0).2.1
  simp -implicitDefEqProofs [go_sem, h0]
  refine Wp.s ?_
  simp -implicitDefEqProofs [go_sem]
  refine SWp.seq (SWp.seq (Wp.s ?_))
  by_cases h1 : n < 20
  · simp -implicitDefEqProofs [go_sem, h1]
    refine Wp.s ?_
    simp -implicitDefEqProofs [go_sem]
    exact fin _ _ _ _ (by rw [sizeV, if_neg (by simp [h0]), if_pos (.inl h1)]) (by simp) (by simp)
  by_cases h3 : 4096 < n
  · simp -implicitDefEqProofs [go_sem, h1, h3]
    refine Wp.s ?_
    simp -implicitDefEqProofs [go_sem]
    exact fin _ _ _ _ (by rw [sizeV, if_neg (by simp [h0]), if_pos (.inr (by omega))]) (by simp) (by simp)
  simp -implicitDefEqProofs [go_sem, h1, h3]
  refine CC.mono (rsum_cc _ _ tk l hz) ?_
  rintro _ _ _ ⟨rfl, rfl, rfl⟩
  have w2 : IntKind.i64.wrap (n + sumI l) = n + sumI l := IntWalk.i64_in _ ⟨by omega, by omega⟩
  by_cases h2 : 4096 < n + sumI l
  · simp -implicitDefEqProofs [go_sem, w2, h2]
    refine Wp.s ?_
    simp -implicitDefEqProofs [go_sem]
    exact fin _ _ _ _ (by rw [sizeV, if_neg (by simp [h0]), if_pos (.inr (by omega))]) (by simp) (by simp)
  simp -implicitDefEqProofs [go_sem, w2, h2]
  refine Wp.s ?_
  simp -implicitDefEqProofs [go_sem]
  refine SWp.seq (Wp.s ?_)
  simp -implicitDefEqProofs [go_sem]
  refine CC.mono (rsum_cc _ _ tk l hz) ?_
  rintro _ _ _ ⟨rfl, rfl, rfl⟩
  simp -implicitDefEqProofs [go_sem, w2]
  refine Wp.s ?_
  simp -implicitDefEqProofs [go_sem]
  exact fin _ _ _ _ (by rw [sizeV, if_neg (by simp [h0]), if_neg (by omega)]) (by simp) (by simp)
theorem vsync_cc (H : Hp) (V : List Nat)  : CC Tryz.prog 48 [] H V (Pu (.agg (opC opS)) H V) := by
  refine CC.of_swp Tryz.func48 rfl (by kernel_rfl) (by rw [Tryz.ntmps48]; exact len_le _ _ rfl) fun hok hokH => ?_
  clear hok
  refine SWp.seq (Wp.s ?_)
  simp -implicitDefEqProofs [go_sem, args0]
  refine SWp.seq (Wp.s ?_)
  simp -implicitDefEqProofs [go_sem]
  refine Wp.s ?_
  simp -implicitDefEqProofs [go_sem]
  exact Fin.pu (r0 := .agg (opC opS)) (.agg (.cons (.refl _) (.cons (.refl _) (.cons (.nil 8 (by decide)) .nil)))) (by simp [go_sem, okL_opC]) hokH (by simp) (by simp)
theorem operations_cc (H : Hp) (V : List Nat) (t2 : Tk) (a : List Opn) (l : List (List Opn)) (hl : l.length ≤ 1000000) (hf : (catO (a :: l)).length ≤ 1000000000) : CC Tryz.prog 47 [.sl .sh 3 (a.map opC), .sl t2 1 (l.map opE)] H V (Pu (opsV (catO (a :: l))) H V) := by
  refine CC.of_swp Tryz.func47 rfl (by kernel_rfl) (by rw [Tryz.ntmps47]; exact len_le _ _ rfl) fun hok hokH => ?_
  clear hok
  refine SWp.seq (Wp.s ?_)
  simp -implicitDefEqProofs [go_sem, args0]
  refine SWp.seq (Wp.s ?_)
  simp -implicitDefEqProofs [go_sem]
  refine ⟨by omega, ?_⟩
  refine CC.mono (concatOp_cc _ _ (.own V.length 0) (a :: l) (by simp; omega) hf) ?_
  rintro _ _ _ ⟨v, rfl, rfl, rfl⟩
  simp -implicitDefEqProofs [go_sem]
  refine Wp.s ?_
  simp -implicitDefEqProofs [go_sem]
  exact Fin.pu (.sh _ _ _) (by simp [go_sem, okE_ops]) hokH (by simp) (by simp)
end Go.Proofs.YtbnkggbpocaaiaaGreatDoor
namespace Go.Proofs.YtbnkggbpocaaiaaGreatDoor
open Go.Proofs
theorem replay_cc (H : Hp) (V : List Nat) (tk : Tk) (l : Img) (ws : List Wr) (hl : l.length ≤ 1000000000) (hn : ws.length ≤ 1000000000) (hw : ∀ w ∈ ws, w.data.length ≤ 1000000000) : CC Tryz.prog 62 [.sl tk 1 (l.map imE), .sl .sh 3 (ws.map wrC)] H V (Pu (.tup [imV (apR l ws).1, er (apR l ws).2.2]) H V) := by
  refine CC.of_swp Tryz.func62 rfl (by kernel_rfl) (by rw [Tryz.ntmps62]; exact len_le _ _ rfl) fun hok hokH => ?_
  clear hok
  refine SWp.seq (Wp.s ?_)
  simp -implicitDefEqProofs [go_sem, args0]
  refine SWp.seq (Wp.s ?_)
  simp -implicitDefEqProofs [go_sem]
  refine CC.mono (imApply_cc _ _ tk l ws hl hn hw) ?_
  rintro _ _ _ ⟨rfl, rfl, rfl⟩
  simp -implicitDefEqProofs [go_sem, apV]
  refine Wp.s ?_
  simp -implicitDefEqProofs [go_sem]
  exact Fin.pu (.refl _) (by simp [go_sem, okL, okV]) hokH (by simp) (by simp)
theorem chk1_cc (H : Hp) (V : List Nat) (tk : Tk) (v : List Sec) (n : Int) : CC Tryz.prog 74 [.sl tk 8 (v.map secC), ci n] H V (Pu (cb (decide ((v.length : Int) = n))) H V) := by
  refine CC.of_swp Tryz.func74 rfl (by kernel_rfl) (by rw [Tryz.ntmps74]; exact len_le _ _ rfl) fun hok hokH => ?_
  clear hok
  refine SWp.seq (Wp.s ?_)
  simp -implicitDefEqProofs [go_sem, args0]
  refine Wp.s ?_
  simp -implicitDefEqProofs [go_sem]
  exact Fin.pu (.refl _) (by simp [go_sem]) hokH (by simp) (by simp)
theorem imgSz_take {x : Img} {s : List Int} {i : Nat} (h : i < x.length) (h2 : i < s.length) (hp : (imgSz x).take i = s.take i) (he : (x[i].length : Int) = s[i]) : (imgSz x).take (i + 1) = s.take (i + 1) := by
  rw [List.take_succ_eq_append_getElem (by rw [imgSz_len]; exact h), List.take_succ_eq_append_getElem h2, hp, ← he]
  simp [imgSz]
theorem eqSz_cc (H : Hp) (V : List Nat) (t1 t2 : Tk) (x : Img) (s : List Int) (hl : x.length ≤ 1000000000) : CC Tryz.prog 73 [.sl t1 1 (x.map imE), .sl t2 1 (s.map ic), .fn 74 []] H V (Pu (cb (decide (imgSz x = s))) H V) := by
  refine CC.of_swp Tryz.func73 rfl (by kernel_rfl) (by rw [Tryz.ntmps73]; exact len_le _ _ rfl) fun hok hokH => ?_
  clear hok
  refine SWp.seq (Wp.s ?_)
  simp -implicitDefEqProofs [go_sem, args0]
  refine SWp.seq (SWp.seq (Wp.s ?_))
  by_cases hlen : x.length = s.length
  case neg =>
    have hlen' : ¬ (x.length : Int) = (s.length : Int) := by omega
    simp -implicitDefEqProofs [go_sem, hlen']
    refine Wp.s ?_
    simp -implicitDefEqProofs [go_sem, hlen, hlen']
    exact Fin.bool (by rw [decide_eq_false]; intro e; exact hlen (by rw [← e, imgSz_len])) hokH (by simp) (by simp)
  simp -implicitDefEqProofs [go_sem, hlen]
  refine Wp.s ?_
  simp -implicitDefEqProofs [go_sem, hlen]
  refine SWp.join (α := Unit) (fun _ => ([], H, V)) (fun _ => imgSz x = s) ?_ ?_
  · refine SWp.seq (Wp.s ?_)
    simp -implicitDefEqProofs [go_sem]
    refine SWp.block ?_
    refine SWp.loop (α := Nat) (fun i => ([(1, .sl t2 1 (s.map ic)), (2, .fn 74 []), (15, .sl t1 1 (x.map imE)), (16, ci x.length), (17, ci i)], H, V)) (fun i => i ≤ x.length ∧ (imgSz x).take i = s.take i) (fun i => x.length - i) 0 ⟨Nat.zero_le _, rfl⟩ (Sh.forget (by simp [go_sem, hlen]) rfl rfl) ?_
    rintro i ⟨hi, hp⟩
    dsimp only
    refine SWp.seq (Wp.s ?_)
    simp -implicitDefEqProofs [go_sem]
    refine SWp.seq (Wp.s ?_)
    simp -implicitDefEqProofs [go_sem]
    refine ⟨fun h => ?_, fun h => ⟨by rwa [List.take_of_length_le (by rw [imgSz_len]; exact h), List.take_of_length_le (by omega)] at hp, Sh.forget (by simp [go_sem]) rfl rfl⟩⟩
    have h2 : i < s.length := by omega
    refine SWp.seq (SWp.block (SWp.seq (Wp.s ?_)))
    simp -implicitDefEqProofs [go_sem, h]
    refine SWp.seq (Wp.s ?_)
    simp -implicitDefEqProofs [go_sem, h2]
    refine SWp.seq (Wp.s ?_)
    simp -implicitDefEqProofs [go_sem]
    refine CC.mono (chk1_cc _ _ .sh x[i] s[i]) ?_
    rintro _ _ _ ⟨rfl, rfl, rfl⟩
    by_cases he : (x[i].length : Int) = s[i]
    · simp -implicitDefEqProofs [go_sem, he]
      refine Wp.s ?_
      simp -implicitDefEqProofs [go_sem]
      refine Wp.s ?_
      simp -implicitDefEqProofs [go_sem]
      refine ⟨i + 1, ⟨by omega, imgSz_take h h2 hp he⟩, by omega, Sh.forget ?_ rfl rfl⟩
      simp [go_sem, wrap_succ (show i ≤ 1000000000 by omega)]
    · simp -implicitDefEqProofs [go_sem, he]
      refine Wp.s ?_
      simp -implicitDefEqProofs [go_sem]
      refine Fin.bool ?_ hokH (by simp) (by simp)
      rw [decide_eq_false]
      intro e
      apply he
      have := congrArg (fun l : List Int => l[i]?) e
      simp only [imgSz, List.getElem?_map, List.getElem?_eq_getElem h, List.getElem?_eq_getElem h2, Option.map_some] at this
      exact Option.some.inj this
  · rintro _ he
    dsimp only
    refine Wp.s ?_
    simp -implicitDefEqProofs [go_sem]
    exact Fin.bool (by simp [he]) hokH (by simp) (by simp)
/-- A store of bounded size. -/
structure StS (s : Sto) : Prop where
  sl : s.sizes.length ≤ 1000000000
  jl : s.jr.sizes.length ≤ 1000000000
  pl : s.pend.length ≤ 1000000
  pd : ∀ w ∈ s.pend, w.data.length ≤ 1000000
  il : s.img.length ≤ 1000000
  iv : ∀ v ∈ s.img, v.length ≤ 1000000
theorem chkJ_first {j : Jrn} (h : chkJ j = true) : 1 ≤ j.first ∧ j.first ≤ 1073741824 := by
  simp only [chkJ, Bool.and_eq_true, decide_eq_true_eq] at h
  omega
theorem apI_sz : ∀ (ws : List Wr) (l : Img) (i : Nat) {y : Img} {j : Nat}, apI l ws i = (y, j, 0) → imgSz y = imgSz l
  | [], l, i, y, j, h => by rw [apI] at h; cases h; rfl
  | w :: ws, l, i, y, j, h => by
    rw [apI] at h
    split at h
    · rename_i q
      exact absurd (congrArg (fun x => x.2.2) h) q
    · rename_i q
      rw [apI_sz ws _ _ h]
      have := ap1_sz (k := l) (w := w) (by simpa using q)
      have e : ∀ x : Img, imgSz x = (x.map List.length).map (fun n : Nat => (n : Int)) := fun x => by rw [imgSz, List.map_map]; rfl
      rw [e, e, this]
theorem apR_sz {l : Img} {ws : List Wr} (h : (apR l ws).2.2 = 0) : imgSz (apR l ws).1 = imgSz l := by
  unfold apR at h ⊢
  split at h
  · rename_i q; exact absurd h q
  · rename_i q
    rw [if_neg q]
    refine apI_sz ws l 0 (j := (apI l ws 0).2.1) ?_
    generalize apI l ws 0 = z at h ⊢
    obtain ⟨a, b, d⟩ := z
    dsimp only at h ⊢
    rw [h]
theorem img_small {sz : List Int} (hs : sizesE sz = 0) {x : Img} (hx : imgSz x = sz) : x.length ≤ 1000000000 ∧ ∀ v ∈ x, v.length ≤ 1000000000 := by
  obtain ⟨h1, h2⟩ := sizes_pos (l := x) (by rw [hx]; exact hs)
  exact ⟨by omega, fun v hv => by have := (h2 v hv).2; omega⟩
structure ChkA (s : Sto) : Prop where
  j : chkJ s.jr = true
  a : ¬ (s.jr.start ≠ 0 ∨ s.data ≠ s.jr.count ∨ 4096 - sumI s.sizes < s.data)
  b : ¬ (s.applied ≠ s.jr.first - 1 ∨ s.pend.length ≠ s.jr.sizes.length)
set_option maxRecDepth 8000 in
theorem vCheck_cc (H : Hp) (V : List Nat) (s : Sto) (hs : StS s) : CC Tryz.prog 21 [.agg (stoC s)] H V (Pu (er (chkV s)) H V) := by
  refine CC.of_swp Tryz.func21 rfl (by kernel_rfl) (by rw [Tryz.ntmps21]; exact len_le _ _ rfl) fun hok hokH => ?_
  clear hok
  have fin : ∀ (e : Nat) (H' : Hp) (V' : List Nat), chkV s = e → H'.take H.length = H → V'.take V.length = V → Fin H.length V.length (Pu (er (chkV s)) H V) (er e) H' V' := fun e H' V' h1 h2 h3 => Fin.er h1 hokH h2 h3
  refine SWp.seq (Wp.s ?_)
  simp -implicitDefEqProofs [go_sem, args0]
  refine SWp.seq (Wp.s ?_)
  simp -implicitDefEqProofs [go_sem, stoC]
  refine CC.mono (New_cc _ _ .sh s.sizes (by have := hs.sl; omega)) ?_
  rintro _ _ _ ⟨rfl, rfl, rfl⟩
  simp -implicitDefEqProofs [go_sem]
  refine SWp.seq (SWp.seq (Wp.s ?_))
  by_cases h0 : sizesE s.sizes = 0
  case neg =>
    simp -implicitDefEqProofs [go_sem, h0]
    refine Wp.s ?_
    simp -implicitDefEqProofs [go_sem]
    exact fin _ _ _ (by rw [chkV, if_pos h0]) (by simp) (by simp)
  have hz := SzOk.of h0
  have hsm := hz.sum'
  have hl8 := (sizesE_0 h0).2.1
  simp -implicitDefEqProofs [go_sem, h0]
  refine Wp.s ?_
  simp -implicitDefEqProofs [go_sem]
  refine SWp.seq (Wp.s ?_)
  simp -implicitDefEqProofs [go_sem]
  refine SWp.join (α := Unit) (fun _ => ([(1, .ptr H.length 0), (3, imV (imOf s.sizes))], H ++ [some (stoC s), some (jrC s.jr)], V)) (fun _ => ChkA s) ?_ ?_
  · refine SWp.block (SWp.seq (Wp.s ?_))
    simp -implicitDefEqProofs [go_sem]
    refine CC.mono (JCheck_cc _ _ s.jr hs.jl) ?_
    rintro _ _ _ ⟨rfl, rfl, rfl⟩
    by_cases hJ : chkJ s.jr = true
    case neg =>
      have hJ' : chkJ s.jr = false := by simpa using hJ
      simp -implicitDefEqProofs [go_sem, ckE, hJ']
      refine Wp.s ?_
      simp -implicitDefEqProofs [go_sem]
      exact fin _ _ _ (by rw [chkV, if_neg (by simp [h0]), if_pos hJ']) (by simp) (by simp)
    have e1 : chkV s = if s.jr.start ≠ 0 ∨ s.data ≠ s.jr.count ∨ 4096 - sumI s.sizes < s.data then 2
        else if s.applied ≠ s.jr.first - 1 ∨ s.pend.length ≠ s.jr.sizes.length then 3
        else if (apR (imOf s.sizes) s.pend).2.2 ≠ 0 then (apR (imOf s.sizes) s.pend).2.2
        else if imgSz s.img ≠ s.sizes then 22
        else if (apR s.img s.pend).2.2 ≠ 0 ∨ (apR s.img s.pend).1 ≠ s.img then 22 else 0 := by
      rw [chkV, if_neg (by simp [h0]), if_neg (by simp [hJ])]
    have hfi := chkJ_first hJ
    simp -implicitDefEqProofs [go_sem, ckE, hJ]
    refine SWp.condF (by simp [go_sem]) ?_
    refine SWp.seq (SWp.drawnT [] [] (.s 0 .pl <| .s 1 .pl <| .s 2 .pl <| .s 3 .pl <| .s 4 .pl <| .s 5 .pl <| .s 6 .pl <| .s 7 .pl <| .s 8 .pl <| .s 9 .pl <| .s 10 .pl <| .s 11 .pl <| .s 12 .pl <| .s 13 .pl <| .s 14 .pl <| .s 15 .pl <| .s 16 .pl <| .s 17 .pl <| .s 18 .pl <| .s 19 .pl <| .s 20 .pl <| .s 21 .pl <| .n) (by kernel_rfl) (by kernel_rfl) ?_)
    have w1 : IntKind.i64.wrap (4096 - sumI s.sizes) = 4096 - sumI s.sizes := IntWalk.i64_in _ ⟨by omega, by omega⟩
    have w2 : IntKind.i64.wrap (s.jr.first - 1) = s.jr.first - 1 := IntWalk.i64_in _ ⟨by omega, by omega⟩
    by_cases c1 : s.jr.start = 0
    case neg =>
      simp -implicitDefEqProofs [go_sem, c1]
      refine Wp.s ?_
      simp -implicitDefEqProofs [go_sem]
      exact fin _ _ _ (by rw [e1, if_pos (.inl c1)]) (by simp) (by simp)
    by_cases c2 : s.data = s.jr.count
    case neg =>
      simp -implicitDefEqProofs [go_sem, c1, c2]
      refine Wp.s ?_
      simp -implicitDefEqProofs [go_sem]
      exact fin _ _ _ (by rw [e1, if_pos (.inr (.inl c2))]) (by simp) (by simp)
    simp -implicitDefEqProofs [go_sem, c1, c2]
    refine CC.mono (vsum_cc _ _ .sh s.sizes hz) ?_
    rintro _ _ _ ⟨rfl, rfl, rfl⟩
    by_cases c3 : 4096 - sumI s.sizes < s.jr.count
    · simp -implicitDefEqProofs [go_sem, w1, c3]
      refine Wp.s ?_
      simp -implicitDefEqProofs [go_sem]
      exact fin _ _ _ (by rw [e1, if_pos (.inr (.inr (by rw [c2]; exact c3)))]) (by simp) (by simp)
    simp -implicitDefEqProofs [go_sem, w1, c3]
    refine SWp.condF (by simp [go_sem]) ?_
    have hb1 : ¬ (s.jr.start ≠ 0 ∨ s.data ≠ s.jr.count ∨ 4096 - sumI s.sizes < s.data) := by
      rintro (q | q | q)
      · exact q c1
      · exact q c2
      · rw [c2] at q; exact c3 q
    rw [if_neg hb1] at e1
    refine SWp.seq (Wp.s ?_)
    by_cases c4 : s.applied = s.jr.first - 1
    case neg =>
      simp -implicitDefEqProofs [go_sem, w2, c4]
      refine Wp.s ?_
      simp -implicitDefEqProofs [go_sem]
      exact fin _ _ _ (by rw [e1, if_pos (.inl c4)]) (by simp) (by simp)
    by_cases c5 : s.pend.length = s.jr.sizes.length
    case neg =>
      have c5' : ¬ (s.pend.length : Int) = (s.jr.sizes.length : Int) := by omega
      simp -implicitDefEqProofs [go_sem, w2, c4, c5, c5']
      refine Wp.s ?_
      simp -implicitDefEqProofs [go_sem]
      exact fin _ _ _ (by rw [e1, if_pos (.inr c5)]) (by simp) (by simp)
    simp -implicitDefEqProofs [go_sem, w2, c4, c5]
    refine Wp.s ?_
    simp -implicitDefEqProofs [go_sem]
    exact ⟨⟨hJ, hb1, by rintro (q | q); exact q c4; exact q c5⟩, Sh.forget (by simp [go_sem]) (by rw [stoC, jrC, c1, c2, c4]) rfl⟩
  rintro _ ⟨hJ, hb1, hb2⟩
  dsimp only
  have e1 : chkV s = if (apR (imOf s.sizes) s.pend).2.2 ≠ 0 then (apR (imOf s.sizes) s.pend).2.2
        else if imgSz s.img ≠ s.sizes then 22
        else if (apR s.img s.pend).2.2 ≠ 0 ∨ (apR s.img s.pend).1 ≠ s.img then 22 else 0 := by
    rw [chkV, if_neg (by simp [h0]), if_neg (by simp [hJ]), if_neg hb1, if_neg hb2]
  refine SWp.seq (SWp.seq (Wp.s ?_))
  simp -implicitDefEqProofs [go_sem, stoC]
  refine CC.mono (replay_cc _ _ .sh (imOf s.sizes) s.pend (by rw [imOf_len]; omega) (by have := hs.pl; omega) (fun w hw => by have := hs.pd w hw; omega)) ?_
  rintro _ _ _ ⟨rfl, rfl, rfl⟩
  simp -implicitDefEqProofs [go_sem]
  refine SWp.seq (Wp.s ?_)
  by_cases h1 : (apR (imOf s.sizes) s.pend).2.2 = 0
  case neg =>
    have h1' : ¬ (((apR (imOf s.sizes) s.pend).2.2 : Nat) : Int) = 0 := by omega
    simp -implicitDefEqProofs [go_sem, h1, h1']
    refine Wp.s ?_
    simp -implicitDefEqProofs [go_sem]
    exact fin _ _ _ (by rw [e1, if_pos h1]) (by simp) (by simp)
  rw [if_neg (by simp [h1])] at e1
  simp -implicitDefEqProofs [go_sem, h1]
  refine Wp.s ?_
  simp -implicitDefEqProofs [go_sem]
  refine SWp.seq (SWp.seq (Wp.s ?_))
  simp -implicitDefEqProofs [go_sem, stoC]
  refine CC.mono (eqSz_cc _ _ .sh .sh s.img s.sizes (by have := hs.il; omega)) ?_
  rintro _ _ _ ⟨rfl, rfl, rfl⟩
  by_cases h2 : imgSz s.img = s.sizes
  case neg =>
    simp -implicitDefEqProofs [go_sem, h2]
    refine Wp.s ?_
    simp -implicitDefEqProofs [go_sem]
    exact fin _ _ _ (by rw [e1, if_pos h2]) (by simp) (by simp)
  rw [if_neg (by simp [h2])] at e1
  simp -implicitDefEqProofs [go_sem, h2]
  refine Wp.s ?_
  simp -implicitDefEqProofs [go_sem]
  refine SWp.seq (SWp.seq (Wp.s ?_))
  simp -implicitDefEqProofs [go_sem, stoC]
  refine CC.mono (replay_cc _ _ .sh s.img s.pend (by have := hs.il; omega) (by have := hs.pl; omega) (fun w hw => by have := hs.pd w hw; omega)) ?_
  rintro _ _ _ ⟨rfl, rfl, rfl⟩
  simp -implicitDefEqProofs [go_sem]
  refine SWp.seq (Wp.s ?_)
  by_cases h3 : (apR s.img s.pend).2.2 = 0
  case neg =>
    have h3' : ¬ (((apR s.img s.pend).2.2 : Nat) : Int) = 0 := by omega
    simp -implicitDefEqProofs [go_sem, h3, h3']
    refine Wp.s ?_
    simp -implicitDefEqProofs [go_sem]
    exact fin _ _ _ (by rw [e1, if_pos (.inl h3)]) (by simp) (by simp)
  simp -implicitDefEqProofs [go_sem, h3, stoC]
  obtain ⟨i1, i2⟩ := img_small h0 ((apR_sz h3).trans h2)
  refine CC.mono (imSame_cc _ _ .sh .sh (apR s.img s.pend).1 s.img i1 i2) ?_
  rintro _ _ _ ⟨rfl, rfl, rfl⟩
  by_cases h4 : (apR s.img s.pend).1 = s.img
  case neg =>
    simp -implicitDefEqProofs [go_sem, h4]
    refine Wp.s ?_
    simp -implicitDefEqProofs [go_sem]
    exact fin _ _ _ (by rw [e1, if_pos (.inr h4)]) (by simp) (by simp)
  simp -implicitDefEqProofs [go_sem, h4]
  refine Wp.s ?_
  simp -implicitDefEqProofs [go_sem]
  refine SWp.seq (Wp.s ?_)
  simp -implicitDefEqProofs [go_sem]
  refine Wp.s ?_
  simp -implicitDefEqProofs [go_sem]
  exact fin _ _ _ (by rw [e1, if_neg (by rintro (q | q); exact q h3; exact q h4)]) (by simp) (by simp)
end Go.Proofs.YtbnkggbpocaaiaaGreatDoor
namespace Go.Proofs.YtbnkggbpocaaiaaGreatDoor
open Go.Proofs
theorem vcloneInt_cc (H : Hp) (V : List Nat) (tk : Tk) (xs : List Int) (hx : xs.length ≤ 1000000000) : CC Tryz.prog 46 [.sl tk 1 (xs.map ic)] H V (Pu (.sl .sh 1 (xs.map ic)) H V) := by
  refine CC.of_swp Tryz.func46 rfl (by kernel_rfl) (by rw [Tryz.ntmps46]; exact len_le _ _ rfl) fun hok hokH => Wp.s ?_
  simp -implicitDefEqProofs [go_sem, args0]
  refine ⟨⟨by omega, ?_⟩, fun h => ?_⟩
  · exact Fin.pu (.sh ..) (by simp [go_sem, okE_ints]) hokH (by simp) (by simp)
  · obtain rfl : xs = [] := by simpa using h
    exact Fin.pu (.nil 1 (by decide)) (by simp [go_sem]) hokH (by simp) (by simp)
theorem vcloneSec_cc (H : Hp) (V : List Nat) (tk : Tk) (xs : List Sec) (hx : xs.length ≤ 1000000000) : CC Tryz.prog 122 [.sl tk 8 (xs.map secC)] H V (Pu (secsV xs) H V) := by
  refine CC.of_swp Tryz.func122 rfl (by kernel_rfl) (by rw [Tryz.ntmps122]; exact len_le _ _ rfl) fun hok hokH => Wp.s ?_
  simp -implicitDefEqProofs [go_sem, args0]
  refine ⟨⟨by omega, ?_⟩, fun h => ?_⟩
  · exact Fin.pu (.sh ..) (by simp [go_sem, okE_secs]) hokH (by simp) (by simp)
  · obtain rfl : xs = [] := by simpa using h
    exact Fin.pu (.nil 8 (by decide)) (by simp [go_sem]) hokH (by simp) (by simp)
def wrU (l : List Wr) (i : Nat) : List (List CV) := (l.take i).map wrC
theorem wrU_len (l : List Wr) (i : Nat) (h : i ≤ l.length) : (wrU l i).length = i := by rw [wrU, List.length_map, List.length_take]; omega
@[go_sem] theorem wrU_0 (l : List Wr) : wrU l 0 = [] := rfl
theorem wrU_s {l : List Wr} {i : Nat} (h : i < l.length) : wrU l (i + 1) = wrU l i ++ [wrC l[i]] := by
  rw [wrU, List.take_succ_eq_append_getElem h, List.map_append]; rfl
@[go_sem] theorem wrU_all (l : List Wr) : wrU l l.length = l.map wrC := by rw [wrU, List.take_length]
@[go_sem] theorem okE_wrU (i j : Nat) (l : List Wr) (k : Nat) : okE i j (wrU l k) = True := by rw [wrU, okE_wrs]
theorem wr_put2' (w : Wr) : List.take 3 (List.take 2 (wrC w) ++ CV.sl Tk.sh 8 (List.map secC w.data) :: List.drop 3 (wrC w)) = wrC w := rfl
theorem wr_put2 (w : Wr) (x : CV) : List.take 2 (wrC w) ++ x :: List.drop 3 (wrC w) = [ci w.volume, ci w.start, x] := rfl
theorem ownWrites_cc (H : Hp) (V : List Nat) (tk : Tk) (l : List Wr) (h1 : l.length ≤ 1000000) (h2 : ∀ w ∈ l, w.data.length ≤ 1000000) : CC Tryz.prog 64 [.sl .sh 3 (l.map wrC)] H V (Fr 3 (l.map wrC) H V) := by
  refine CC.of_swp Tryz.func64 rfl (by kernel_rfl) (by rw [Tryz.ntmps64]; exact len_le _ _ rfl) fun hok hokH => ?_
  clear hok
  refine SWp.seq (Wp.s ?_)
  simp -implicitDefEqProofs [go_sem, args0]
  refine SWp.seq (Wp.s ?_)
  simp -implicitDefEqProofs [go_sem]
  refine SWp.join (α := Unit) (fun _ => ([(3, .sl (.own V.length l.length) 3 (l.map wrC))], H, V ++ [l.length])) (fun _ => True) ?_ ?_
  · refine SWp.seq (Wp.s ?_)
    simp -implicitDefEqProofs [go_sem]
    refine SWp.block ?_
    refine SWp.loop (α := Nat) (fun i => ([(3, .sl (.own V.length i) 3 (wrU l i)), (6, .sl .sh 3 (l.map wrC)), (7, ci l.length), (8, ci i)], H, V ++ [i])) (fun i => i ≤ l.length) (fun i => l.length - i) 0 (Nat.zero_le _) (Sh.tokT (by simp [go_sem]) rfl rfl) ?_
    intro i hi
    dsimp only
    refine SWp.seq (Wp.s ?_)
    simp -implicitDefEqProofs [go_sem]
    refine SWp.seq (Wp.s ?_)
    simp -implicitDefEqProofs [go_sem]
    refine ⟨fun h => ?_, fun h => ?_⟩
    case refine_2 =>
      obtain rfl : i = l.length := by omega
      exact Sh.forget (by simp [go_sem]) rfl rfl
    have hw := h2 _ (List.getElem_mem h)
    refine SWp.seq (SWp.block (SWp.seq (Wp.s ?_)))
    simp -implicitDefEqProofs [go_sem, h]
    refine SWp.seq (Wp.s ?_)
    simp -implicitDefEqProofs [go_sem]
    refine CC.mono (vcloneSec_cc _ _ .sh l[i].data (by omega)) ?_
    rintro _ _ _ ⟨rfl, rfl, rfl⟩
    simp -implicitDefEqProofs [go_sem]
    refine Wp.s ?_
    simp -implicitDefEqProofs [go_sem, wrU_len _ _ hi]
    refine ⟨rfl, by omega, ?_⟩
    have w2 : IntKind.i64.wrap ((i : Int) + 1) = (i : Int) + 1 := IntWalk.i64_in _ ⟨by omega, by omega⟩
    refine Wp.s ?_
    simp -implicitDefEqProofs [go_sem, w2]
    refine ⟨i + 1, by omega, by omega, Sh.cut H.length (V.length + 1) (by simp [go_sem, wrU_s h, wr_put2']) (Nat.le_refl _) (by omega) (TOk.all (by simp [go_sem])) (fun b cs hb => okL_mono (Nat.le_refl _) (by omega) (hokH b cs hb)) (by simp) (by simp)⟩
  · rintro _ -
    dsimp only
    refine SWp.seq (Wp.s ?_)
    simp -implicitDefEqProofs [go_sem]
    refine Wp.s ?_
    simp -implicitDefEqProofs [go_sem]
    exact Fin.fresh rfl (by simp [go_sem, okE_wrs]) hokH (by simp)
def zstC : List CV := [.v (.slice none 0 0), .v (.int .i64 0), .v (.int .i64 0), .v (.int .i64 0), .v (.int .i64 0), .v (.int .i64 0), .v (.slice none 0 0), .v (.int .i64 0), .v (.int .i64 0), .v (.slice none 0 0), .v (.slice none 0 0)]
@[go_sem, simp] theorem zstC_len : zstC.length = 11 := rfl
def stoT (s : Sto) (pv : CV) : List CV := [.sl .sh 1 (s.sizes.map ic), .v (.int .i64 s.jr.start), .v (.int .i64 s.jr.count), .v (.int .i64 s.jr.head), .v (.int .i64 s.jr.tail), .v (.int .i64 s.jr.first), .sl .sh 1 (s.jr.sizes.map ic), .v (.int .i64 s.data), .v (.int .i64 s.applied), pv, .sl .sh 1 (s.img.map imE)]
def OwnR (s : Sto) (H : Hp) (V : List Nat) : CV → Hp → List Nat → Prop := fun r H' V' => ∃ k v, r = .agg (stoT s (.sl (.own k v) 3 (s.pend.map wrC))) ∧ H = H' ∧ V'.take V.length = V ∧ V'[k]? = some v ∧ V.length ≤ k
def imU (l : Img) (i : Nat) : List (List CV) := (l.take i).map imE
theorem imU_len (l : Img) (i : Nat) (h : i ≤ l.length) : (imU l i).length = i := by rw [imU, List.length_map, List.length_take]; omega
@[go_sem] theorem imU_0 (l : Img) : imU l 0 = [] := rfl
theorem imU_s {l : Img} {i : Nat} (h : i < l.length) : imU l (i + 1) = imU l i ++ [imE l[i]] := by
  rw [imU, List.take_succ_eq_append_getElem h, List.map_append]; rfl
@[go_sem] theorem imU_all (l : Img) : imU l l.length = l.map imE := by rw [imU, List.take_length]
@[go_sem] theorem okE_imU (i j : Nat) (l : Img) (k : Nat) : okE i j (imU l k) = True := by rw [imU, okE_ims]
set_option maxRecDepth 8000 in
theorem vown_cc (H : Hp) (V : List Nat) (s : Sto) (hs : StS s) : CC Tryz.prog 63 [.agg (stoC s)] H V (OwnR s H V) := by
  refine CC.of_swp Tryz.func63 rfl (by kernel_rfl) (by rw [Tryz.ntmps63]; exact len_le _ _ rfl) fun hok hokH => ?_
  clear hok
  refine SWp.seq (Wp.s ?_)
  simp -implicitDefEqProofs [go_sem, args0]
  refine SWp.seq (Wp.s ?_)
  simp -implicitDefEqProofs [go_sem]
  refine SWp.join (α := Unit) (fun _ => ([(1, .ptr H.length 0), (2, .ptr (H.length + 1) 0), (3, .sl (.own V.length s.img.length) 1 (s.img.map imE))], H ++ [some (stoC s), some zstC], V ++ [s.img.length])) (fun _ => True) ?_ ?_
  · refine SWp.seq (Wp.s ?_)
    simp -implicitDefEqProofs [go_sem, stoC]
    refine SWp.block ?_
    refine SWp.loop (α := Nat) (fun i => ([(1, .ptr H.length 0), (2, .ptr (H.length + 1) 0), (3, .sl (.own V.length i) 1 (imU s.img i)), (7, .sl .sh 1 (s.img.map imE)), (8, ci s.img.length), (9, ci i)], H ++ [some (stoC s), some zstC], V ++ [i])) (fun i => i ≤ s.img.length) (fun i => s.img.length - i) 0 (Nat.zero_le _) ?_ ?_
    · exact Sh.tokT (by simp [go_sem]) (by simp [stoC, zstC]) rfl
    intro i hi
    dsimp only
    refine SWp.seq (Wp.s ?_)
    simp -implicitDefEqProofs [go_sem]
    refine SWp.seq (Wp.s ?_)
    simp -implicitDefEqProofs [go_sem]
    refine ⟨fun h => ?_, fun h => ?_⟩
    case refine_2 =>
      obtain rfl : i = s.img.length := by omega
      exact Sh.forget (by simp [go_sem]) rfl rfl
    have hv := hs.iv _ (List.getElem_mem h)
    have hil := hs.il
    refine SWp.seq (SWp.block (SWp.seq (Wp.s ?_)))
    simp -implicitDefEqProofs [go_sem, h]
    refine Wp.s ?_
    simp -implicitDefEqProofs [go_sem]
    refine CC.mono (vcloneSec_cc _ _ .sh s.img[i] (by omega)) ?_
    rintro _ _ _ ⟨rfl, rfl, rfl⟩
    simp -implicitDefEqProofs [go_sem, imU_len _ _ hi]
    refine ⟨by omega, ?_⟩
    have w2 : IntKind.i64.wrap ((i : Int) + 1) = (i : Int) + 1 := IntWalk.i64_in _ ⟨by omega, by omega⟩
    refine Wp.s ?_
    simp -implicitDefEqProofs [go_sem, w2]
    exact ⟨i + 1, by omega, by omega, Sh.forget (by simp [go_sem, imU_s h, imE]) rfl (by simp)⟩
  rintro _ -
  dsimp only
  refine SWp.seq (SWp.drawnT [] [8, 10, 12] (.s 0 .pl <| .s 1 .pl <| .s 3 .pl <| .s 4 .pl <| .s 5 .pl <| .s 2 .pl <| .s 7 .pl <| .s 6 .pl <| .s 8 .st <| .s 9 .pl <| .s 10 .st <| .s 11 .pl <| .s 12 .st <| .n) (by kernel_rfl) (by kernel_rfl) ?_)
  simp -implicitDefEqProofs [go_sem, stoC]
  refine CC.mono (vcloneInt_cc _ _ .sh s.sizes hs.sl) ?_
  rintro _ _ _ ⟨rfl, rfl, rfl⟩
  simp -implicitDefEqProofs [go_sem]
  refine CC.mono (ownWrites_cc _ _ .sh s.pend hs.pl hs.pd) ?_
  rintro _ _ _ ⟨v, rfl, rfl, rfl⟩
  simp -implicitDefEqProofs [go_sem]
  refine SWp.seq (Wp.s ?_)
  simp -implicitDefEqProofs [go_sem]
  refine CC.mono (vcloneInt_cc _ _ .sh s.jr.sizes hs.jl) ?_
  rintro _ _ _ ⟨rfl, rfl, rfl⟩
  simp -implicitDefEqProofs [go_sem]
  refine SWp.seq (Wp.s ?_)
  simp -implicitDefEqProofs [go_sem]
  refine Wp.s ?_
  simp -implicitDefEqProofs [go_sem]
  refine Fin.cut H.length (V.length + 2) (H'' := H) (V'' := V ++ [s.img.length, v]) (r' := .agg (stoT s (.sl (.own (V.length + 1) v) 3 (s.pend.map wrC)))) ⟨V.length + 1, v, rfl, rfl, by simp, by simp, by omega⟩ (Nat.le_refl _) (by omega) (by simp) (by simp) ?_ ?_ fun b cs hb => okL_mono (Nat.le_refl _) (by omega) (hokH b cs hb)
  · exact .agg (.cons (.refl _) (.cons (.refl _) (.cons (.refl _) (.cons (.refl _) (.cons (.refl _) (.cons (.refl _) (.cons (.refl _) (.cons (.refl _) (.cons (.refl _) (.cons (.refl _) (.cons (.sh _ _ _) .nil)))))))))))
  · simp [stoT, go_sem, okL, okV, okTk, okE_ints, okE_wrs, okE_ims]
end Go.Proofs.YtbnkggbpocaaiaaGreatDoor
namespace Go.Proofs.YtbnkggbpocaaiaaGreatDoor
open Go.Proofs
theorem vPutWrites_cc (H : Hp) (V : List Nat) (tk tk' : Tk) (l : List UInt8) (xs : List Wr) (hx : xs.length ≤ 900000000) (hl : l.length + (encWrs xs).length ≤ 900000000) :
    CC Tryz.prog 61 [.sl tk 1 (bs l), .sl tk' 3 (xs.map wrC)] H V (Pu (.sl .sh 1 (bs (l ++ encWrs xs))) H V) := by
  refine CC.of_swp Tryz.func61 rfl (by kernel_rfl) (by rw [Tryz.ntmps61]; exact len_le _ _ rfl) fun hok hokH => Wp.s ?_
  simp -implicitDefEqProofs [go_sem, args0]
  refine CC.mono (clone_cc _ _ _ _ (by simp only [bs_len]; omega)) ?_
  rintro _ _ _ ⟨v, rfl, rfl, rfl⟩
  try simp -implicitDefEqProofs [go_sem]
  refine CC.mono (putWrites_cc _ _ _ _ _ _ _ (by simp) hx hl) ?_
  rintro _ _ _ ⟨v', rfl, rfl, rfl⟩
  simp -implicitDefEqProofs [go_sem]
  exact Fin.pu (.sh _ _ _) (by simp [go_sem]) hokH (by simp) (by simp)
/-! ### What a store that is in order is like -/
structure StOk (s : Sto) : Prop where
  sz : sizesE s.sizes = 0
  A : ChkA s
  e1 : (apR (imOf s.sizes) s.pend).2.2 = 0
  im : imgSz s.img = s.sizes
  e2 : (apR s.img s.pend).2.2 = 0
  e3 : (apR s.img s.pend).1 = s.img
theorem chkV_ok {s : Sto} (h : chkV s = 0) : StOk s := by
  unfold chkV at h
  split at h
  · rename_i q; exact absurd h q
  rename_i q0
  split at h
  · cases h
  rename_i q1
  split at h
  · cases h
  rename_i q2
  split at h
  · cases h
  rename_i q3
  split at h
  · rename_i q; exact absurd h q
  rename_i q4
  split at h
  · cases h
  rename_i q5
  split at h
  · cases h
  rename_i q6
  exact ⟨by simpa using q0, ⟨by simpa using q1, q2, q3⟩, by simpa using q4, by simpa using q5, Classical.byContradiction fun e => q6 (.inl e), Classical.byContradiction fun e => q6 (.inr e)⟩
theorem apR_one {l : Img} {w : Wr} (h : sizesE (imgSz l) = 0) (hf : fitsS (imgSz l) w = 0) : apR l [w] = (ap1 l w, 0, 0) := by
  rw [apR, if_neg (by simp [h]), apI, if_neg (by simp [hf]), apI]
def wtV (x : Sto × Int × List Opn × Nat) : CV := .tup [.agg (stoC x.1), ci x.2.1, opsV x.2.2.1, er x.2.2.2]
theorem okV_wtV (i j : Nat) (x : Sto × Int × List Opn × Nat) : okV i j (wtV x) := by
  rw [wtV]; simp [go_sem, okL, okV, okL_stoC, okE_ops]
theorem zsto_le : LeL zstC (stoC zsto) := .cons (.nil 1 (by decide)) (.cons (.refl _) (.cons (.refl _) (.cons (.refl _) (.cons (.refl _) (.cons (.refl _) (.cons (.nil 1 (by decide)) (.cons (.refl _) (.cons (.refl _) (.cons (.nil 3 (by decide)) (.cons (.nil 1 (by decide)) .nil))))))))))
theorem nxJ_ok {j : Jrn} (h : chkJ j = true) : nxJ j = nextJ j := by rw [nxJ, if_pos h]
theorem encW_le {w : Wr} (h : w.data.length ≤ 1000000) : (encWrs [w]).length ≤ 900000000 := by
  have h1 := enc_len ([w].length : Int)
  have h2 := enc_len w.volume
  have h3 := enc_len w.start
  have h4 := enc_len (w.data.length : Int)
  have h5 := encSecs_len w.data
  rw [encWrs, List.length_append, List.flatMap_cons, List.flatMap_nil, List.append_nil, encWr, List.length_append, List.length_append]
  omega
set_option maxRecDepth 8000 in
set_option maxHeartbeats 1600000 in
theorem vWrite_cc (H : Hp) (V : List Nat) (s : Sto) (w : Wr) (hs : StS s) (hw : w.data.length ≤ 1000000) : CC Tryz.prog 19 [.agg (stoC s), .agg (wrC w)] H V (Pu (wtV (writeV s w)) H V) := by
  refine CC.of_swp Tryz.func19 rfl (by kernel_rfl) (by rw [Tryz.ntmps19]; exact len_le _ _ rfl) fun hok hokH => ?_
  clear hok
  have bad : ∀ (e : Nat) (H' : Hp) (V' : List Nat), writeV s w = (zsto, 0, [], e) → H'.take H.length = H → V'.take V.length = V → Fin H.length V.length (Pu (wtV (writeV s w)) H V) (.tup [.agg zstC, ci 0, .v (.slice none 0 0), er e]) H' V' := fun e H' V' h1 h2 h3 => by
    rw [h1]
    exact Fin.pu (.tup (.cons (.agg zsto_le) (.cons (.refl _) (.cons (.nil 3 (by decide)) (.cons (.refl _) .nil))))) (okV_wtV _ _ _) hokH h2 h3
  refine SWp.seq (Wp.s ?_)
  simp -implicitDefEqProofs [go_sem, args0]
  refine SWp.seq (SWp.seq (Wp.s ?_))
  simp -implicitDefEqProofs [go_sem]
  refine CC.mono (vCheck_cc _ _ s hs) ?_
  rintro _ _ _ ⟨rfl, rfl, rfl⟩
  simp -implicitDefEqProofs [go_sem]
  refine SWp.seq (Wp.s ?_)
  by_cases h0 : chkV s = 0
  case neg =>
    simp -implicitDefEqProofs [go_sem, h0]
    refine Wp.s ?_
    simp -implicitDefEqProofs [go_sem]
    exact bad _ _ _ (by rw [writeV, if_pos h0]) (by simp) (by simp)
  have hok := chkV_ok h0
  simp -implicitDefEqProofs [go_sem, h0]
  refine Wp.s ?_
  simp -implicitDefEqProofs [go_sem]
  refine SWp.seq (SWp.seq (Wp.s ?_))
  simp -implicitDefEqProofs [go_sem, stoC]
  refine CC.mono (Fits_cc _ _ .sh s.img w (by have := hs.il; omega) (fun v hv => by have := hs.iv v hv; omega) (by omega)) ?_
  rintro _ _ _ ⟨rfl, rfl, rfl⟩
  have hfi : fitsI s.img w = fitsS s.sizes w := by rw [fitsI, hok.im, if_neg (by simp [hok.sz])]
  rw [hfi]
  simp -implicitDefEqProofs [go_sem]
  refine SWp.seq (Wp.s ?_)
  by_cases h1 : fitsS s.sizes w = 0
  case neg =>
    simp -implicitDefEqProofs [go_sem, h1]
    refine Wp.s ?_
    simp -implicitDefEqProofs [go_sem]
    exact bad _ _ _ (by rw [writeV, if_neg (by simp [h0]), if_pos h1]) (by simp) (by simp)
  simp -implicitDefEqProofs [go_sem, h1]
  refine Wp.s ?_
  simp -implicitDefEqProofs [go_sem]
  have hJ := hok.A.j
  refine SWp.seq (Wp.s ?_)
  simp -implicitDefEqProofs [go_sem, stoC]
  refine CC.mono (JNext_cc _ _ s.jr hs.jl) ?_
  rintro _ _ _ ⟨rfl, rfl, rfl⟩
  rw [nxJ_ok hJ]
  simp -implicitDefEqProofs [go_sem]
  refine SWp.seq (SWp.drawnT [] [11] (.s 0 .pl <| .s 1 .pl <| .s 2 .pl <| .s 3 .pl <| .c 4 <| .c 5 <| .s 6 .pl <| .s 7 .pl <| .s 8 .pl <| .s 9 .pl <| .s 10 .pl <| .s 11 .st <| .s 12 .pl <| .s 13 .pl <| .n) (by kernel_rfl) (by kernel_rfl) ?_)
  simp -implicitDefEqProofs [go_sem, stoC]
  have hel : (encWrs [w]).length ≤ 900000000 := encW_le hw
  refine ⟨_, fun H V => CC.le (ys := [.sl .sh 1 (bs []), .sl .ti 3 ([w].map wrC)]) (.cons (.nil 1 (by decide)) (.cons (.refl _) .nil)) (vPutWrites_cc H V .sh .ti [] [w] (by simp) (by simpa using hel)), ?_⟩
  rw [List.nil_append]
  simp -implicitDefEqProofs [go_sem]
  refine ⟨_, fun H V => Append_cc H V s.jr 1 (encWrs [w]) hs.jl hel, ?_⟩
  simp -implicitDefEqProofs [go_sem, jtV]
  have hwv : writeV s w = if (appJ s.jr 1 (encWrs [w])).2.2 ≠ 0 then (zsto, 0, [], (appJ s.jr 1 (encWrs [w])).2.2) else (⟨s.sizes, (appJ s.jr 1 (encWrs [w])).1, s.data, s.applied, s.pend ++ [w], ap1 s.img w⟩, nextJ s.jr, (appJ s.jr 1 (encWrs [w])).2.1, 0) := by
    rw [writeV, if_neg (by simp [h0]), if_neg (by simp [h1])]
  generalize appJ s.jr 1 (encWrs [w]) = x at hwv ⊢
  obtain ⟨j, A, e⟩ := x
  dsimp only at hwv ⊢
  refine SWp.seq (SWp.seq (Wp.s ?_))
  by_cases he : e = 0
  case neg =>
    have he' : ¬ (e : Int) = 0 := by omega
    simp -implicitDefEqProofs [go_sem, he, he']
    refine Wp.s ?_
    simp -implicitDefEqProofs [go_sem]
    exact bad _ _ _ (by rw [hwv, if_pos he]) (by simp) (by simp)
  subst he
  rw [if_neg (by simp)] at hwv
  simp -implicitDefEqProofs [go_sem]
  refine Wp.s ?_
  simp -implicitDefEqProofs [go_sem]
  refine SWp.seq (Wp.s ?_)
  simp -implicitDefEqProofs [go_sem, stoC]
  refine CC.le (ys := [.sl .sh 1 (s.img.map imE), .sl .sh 3 ([w].map wrC)]) (.cons (.refl _) (.cons (.sh _ _ _) .nil)) ?_
  have hw1 : ∀ x ∈ [w], x.data.length ≤ 1000000000 := fun x hx => by
    rw [List.mem_singleton] at hx; subst hx; omega
  refine CC.mono (replay_cc _ _ .sh s.img [w] (by have := hs.il; omega) (by simp) hw1) ?_
  rintro _ _ _ ⟨rfl, rfl, rfl⟩
  rw [apR_one (by rw [hok.im]; exact hok.sz) (by rw [hok.im]; exact h1)]
  simp -implicitDefEqProofs [go_sem]
  refine SWp.seq (SWp.seq (Wp.s ?_))
  simp -implicitDefEqProofs [go_sem]
  refine Wp.s ?_
  simp -implicitDefEqProofs [go_sem]
  refine SWp.seq (Wp.s ?_)
  simp -implicitDefEqProofs [go_sem, stoC]
  refine CC.mono (vown_cc _ _ s hs) ?_
  rintro _ _ V1 ⟨k, v, rfl, rfl, hV1, hV2, hV3⟩
  simp -implicitDefEqProofs [go_sem, stoT]
  refine SWp.seq (SWp.drawnT [H.length + 1] [9, 11, 13] (.s 0 .pl <| .s 1 .pl <| .s 2 .pl <| .s 3 .pl <| .s 4 .ld <| .s 5 .pl <| .s 8 .pl <| .s 6 .pl <| .s 7 .pl <| .s 9 .st <| .s 10 .pl <| .s 11 .st <| .s 12 .pl <| .s 13 .st <| .n) (by kernel_rfl) (by kernel_rfl) ?_)
  simp -implicitDefEqProofs [go_sem]
  refine CC.le (ys := [.sl .sh 3 ([w].map wrC)]) (.cons (.sh _ _ _) .nil) ?_
  refine CC.mono (ownWrites_cc _ _ .sh [w] (by simp) (fun x hx => by rw [List.mem_singleton] at hx; subst hx; exact hw)) ?_
  rintro _ _ _ ⟨v2, rfl, rfl, rfl⟩
  simp -implicitDefEqProofs [go_sem]
  have hkV : k < V1.length := (List.getElem?_eq_some_iff.1 hV2).1
  have hpl := hs.pl
  have hkp : ∀ (a b c d e e' : Option (List CV)), Kp [H.length + 1] (H ++ [a, b, c, d, e]) (H ++ [a, b, c, d, e']) := fun a b c d e e' => Kp.keep fun x hx => by
    obtain rfl : x = H.length + 1 := by simpa using hx
    rw [hget, hget]; rfl
  refine ⟨by rw [List.getElem?_append_left hkV]; exact hV2, by omega, hkp _ _ _ _ _ _, hkp _ _ _ _ _ _, hkp _ _ _ _ _ _, ?_⟩
  refine SWp.seq (Wp.s ?_)
  simp -implicitDefEqProofs [go_sem]
  refine ⟨rfl, ?_⟩
  have hV1l : V.length ≤ V1.length := by omega
  refine Wp.s ?_
  simp -implicitDefEqProofs [go_sem]
  rw [hwv]
  have hsn : List.map wrC s.pend ++ [wrC w] = (s.pend ++ [w]).map wrC := by rw [List.map_append]; rfl
  rw [hsn]
  refine Fin.pu ?_ (okV_wtV _ _ _) hokH (by simp) (by first | (rw [List.take_set_of_le hV3, List.take_append_of_le_length hV1l]; exact hV1) | (rw [List.take_append_of_le_length (by simpa using hV1l), List.take_set_of_le hV3]; exact hV1))
  refine .tup (.cons (.agg ?_) (.cons (.refl _) (.cons (.refl _) (.cons (.refl _) .nil))))
  show LeL [.sl .sh 1 (s.sizes.map ic), .v (.int .i64 j.start), .v (.int .i64 j.count), .v (.int .i64 j.head), .v (.int .i64 j.tail), .v (.int .i64 j.first), .sl .sh 1 (j.sizes.map ic), .v (.int .i64 s.data), .v (.int .i64 s.applied), .sl (.own k (v + 1)) 3 ((s.pend ++ [w]).map wrC), .sl .sh 1 ((ap1 s.img w).map imE)] _
  exact .cons (.refl _) (.cons (.refl _) (.cons (.refl _) (.cons (.refl _) (.cons (.refl _) (.cons (.refl _) (.cons (.refl _) (.cons (.refl _) (.cons (.refl _) (.cons (.sh _ _ _) (.cons (.refl _) .nil))))))))))
end Go.Proofs.YtbnkggbpocaaiaaGreatDoor
namespace Go.Proofs.YtbnkggbpocaaiaaGreatDoor
open Go.Proofs
theorem place_cc (H : Hp) (V : List Nat) (s : Sto) (v : Nat) (h : SzOk s.sizes) (hv : v ≤ s.sizes.length) (h0 : 0 ≤ s.data) (h1 : s.data ≤ 100000) : CC Tryz.prog 83 [.agg (stoC s), ci v] H V (Pu (ci (s.data + sumI (s.sizes.take v))) H V) := by
  refine CC.of_swp Tryz.func83 rfl (by kernel_rfl) (by rw [Tryz.ntmps83]; exact len_le _ _ rfl) fun hok hokH => ?_
  clear hok
  have hs := h.sum v
  have hl := h.1
  refine SWp.seq (Wp.s ?_)
  simp -implicitDefEqProofs [go_sem, args0]
  refine SWp.seq (SWp.drawnT [] [] (.s 0 .pl <| .s 1 .pl <| .s 2 .pl <| .s 3 .pl <| .s 4 .pl <| .s 5 .pl <| .s 6 .pl <| .s 7 .pl <| .s 8 .pl <| .n) (by kernel_rfl) (by kernel_rfl) ?_)
  simp -implicitDefEqProofs [go_sem, stoC]
  refine ⟨by omega, ?_⟩
  rw [← List.map_take]
  refine CC.mono (vsum_cc _ _ .sh (s.sizes.take v) (h.take v)) ?_
  rintro _ _ _ ⟨rfl, rfl, rfl⟩
  have w1 : IntKind.i64.wrap (s.data + sumI (s.sizes.take v)) = s.data + sumI (s.sizes.take v) := IntWalk.i64_in _ ⟨by omega, by omega⟩
  simp -implicitDefEqProofs [go_sem, w1]
  refine Wp.s ?_
  simp -implicitDefEqProofs [go_sem]
  exact Fin.pu (.refl _) (by simp [go_sem]) hokH (by simp) (by simp)
def hdU (j : Jrn) (i : Nat) : Int := (j.head + sumI (j.sizes.take i)) % (j.count - 16)
set_option maxRecDepth 8000 in
set_option maxHeartbeats 1600000 in
theorem Release_cc (H : Hp) (V : List Nat) (d : Dk) (j : Jrn) (q : Int) (hd : DkS d) (hl : j.sizes.length ≤ 1000000000) : CC Tryz.prog 84 [.agg (dkC d), .agg (jrC j), ci q] H V (Pu (jtV (relJ d j q)) H V) := by
  refine CC.of_swp Tryz.func84 rfl (by kernel_rfl) (by rw [Tryz.ntmps84]; exact len_le _ _ rfl) fun hok hokH => ?_
  clear hok
  have bad : ∀ (e : Nat) {H' : Hp} {V' : List Nat}, relJ d j q = (zjr, [], e) → H'.take H.length = H → V'.take V.length = V → Fin H.length V.length (Pu (jtV (relJ d j q)) H V) (.tup [.agg zjC, .v (.slice none 0 0), er e]) H' V' := fun e H' V' h1 h2 h3 => by
    rw [h1]
    exact fin_jt zj_le (.nil 3 (by decide)) rfl hokH h2 h3
  refine SWp.seq (Wp.s ?_)
  simp -implicitDefEqProofs [go_sem, args0]
  refine SWp.seq (SWp.seq (Wp.s ?_))
  simp -implicitDefEqProofs [go_sem]
  refine CC.mono (sCheck_cc _ _ d hd) ?_
  rintro _ _ _ ⟨rfl, rfl, rfl⟩
  simp -implicitDefEqProofs [go_sem]
  refine SWp.seq (Wp.s ?_)
  by_cases hc : checkD d = 0
  case neg =>
    simp -implicitDefEqProofs [go_sem, hc]
    refine Wp.s ?_
    simp -implicitDefEqProofs [go_sem]
    exact bad _ (by rw [relJ, if_pos hc]) (by simp) (by simp)
  simp -implicitDefEqProofs [go_sem, hc]
  refine Wp.s ?_
  simp -implicitDefEqProofs [go_sem]
  refine SWp.seq (Wp.s ?_)
  simp -implicitDefEqProofs [go_sem]
  refine CC.mono (examine_cc _ _ j hl) ?_
  rintro _ _ _ ⟨u, rfl, rfl, rfl, hu⟩
  simp -implicitDefEqProofs [go_sem]
  refine SWp.seq (SWp.seq (Wp.s ?_))
  by_cases h : chkJ j = true
  case neg =>
    simp -implicitDefEqProofs [go_sem, h]
    refine Wp.s ?_
    simp -implicitDefEqProofs [go_sem]
    exact bad 3 (by rw [relJ, if_neg (by simp [hc]), if_pos (by simpa using h)]) (by simp) (by simp)
  obtain rfl := hu h
  have hn := chkJ_next h
  have hsu := chkJ_sum h
  have hva := chkJ_val h
  have hv := (validJ_iff _ _).1 hva
  have hfi := chkJ_first h
  simp -implicitDefEqProofs [go_sem, h]
  refine Wp.s ?_
  simp -implicitDefEqProofs [go_sem]
  refine SWp.seq (SWp.seq (Wp.s ?_))
  have w1 : IntKind.i64.wrap (j.first - 1) = j.first - 1 := IntWalk.i64_in _ ⟨by omega, by omega⟩
  by_cases c1 : q < j.first - 1
  · simp -implicitDefEqProofs [go_sem, w1, c1]
    refine Wp.s ?_
    simp -implicitDefEqProofs [go_sem]
    exact bad 2 (by rw [relJ, if_neg (by simp [hc]), if_neg (by simp [h]), if_pos (.inl c1)]) (by simp) (by simp)
  simp -implicitDefEqProofs [go_sem, w1, c1]
  refine CC.mono (next_cc _ _ j _ hn.1 hn.2) ?_
  rintro _ _ _ ⟨rfl, rfl, rfl⟩
  by_cases c2 : nextJ j ≤ q
  · simp -implicitDefEqProofs [go_sem, c2]
    refine Wp.s ?_
    simp -implicitDefEqProofs [go_sem]
    exact bad 2 (by rw [relJ, if_neg (by simp [hc]), if_neg (by simp [h]), if_pos (.inr c2)]) (by simp) (by simp)
  have hnx : nextJ j = j.first + j.sizes.length := rfl
  simp -implicitDefEqProofs [go_sem, c2]
  refine Wp.s ?_
  simp -implicitDefEqProofs [go_sem]
  refine SWp.seq (Wp.s ?_)
  simp -implicitDefEqProofs [go_sem]
  refine CC.mono (own_cc _ _ j _ hl) ?_
  rintro _ _ _ ⟨v, rfl, rfl, rfl⟩
  obtain ⟨n, hnn⟩ := Int.eq_ofNat_of_zero_le (show 0 ≤ q - j.first + 1 by omega)
  have hnl : n ≤ j.sizes.length := by omega
  have w2 : IntKind.i64.wrap (q - j.first) = q - j.first := IntWalk.i64_in _ ⟨by omega, by omega⟩
  have w3 : IntKind.i64.wrap (q - j.first + 1) = (n : Int) := by rw [IntWalk.i64_in _ ⟨by omega, by omega⟩]; omega
  simp -implicitDefEqProofs [go_sem]
  refine SWp.seq (Wp.s ?_)
  simp -implicitDefEqProofs [go_sem, w2, w3]
  have hrel : relJ d j q = if q = j.first - 1 then (j, [], 0) else
      if (storeS d j.start (superJ (hdU j n) (q + 1))).2 ≠ 0 then (zjr, [], (storeS d j.start (superJ (hdU j n) (q + 1))).2)
      else (⟨j.start, j.count, hdU j n, j.tail, q + 1, j.sizes.drop n⟩, (storeS d j.start (superJ (hdU j n) (q + 1))).1, 0) := by
    rw [relJ, if_neg (by simp [hc]), if_neg (by simp [h]), if_neg (by omega)]
    have : (q + 1 - j.first).toNat = n := by omega
    rw [this]; rfl
  refine SWp.seq (SWp.seq (Wp.s ?_))
  by_cases c3 : n = 0
  · subst c3
    simp -implicitDefEqProofs [go_sem]
    refine Wp.s ?_
    simp -implicitDefEqProofs [go_sem]
    rw [hrel, if_pos (by omega)]
    exact fin_jt (.agg (.cons (.refl _) (.cons (.refl _) (.cons (.refl _) (.cons (.refl _) (.cons (.refl _) (.cons (.sh _ _ _) .nil))))))) (.nil 3 (by decide)) rfl hokH (by simp) (by simp)
  rw [if_neg (by omega)] at hrel
  simp -implicitDefEqProofs [go_sem, c3]
  refine Wp.s ?_
  simp -implicitDefEqProofs [go_sem]
  have hjh : 0 ≤ j.head ∧ j.head < j.count - 16 := by
    have := (preJ_iff j).1 ((chkJ_iff j).1 h).2.1
    omega
  refine SWp.join (α := Unit) (fun _ => ([(3, .ptr H.length 0), (6, .ptr (H.length + 2) 0), (10, .ptr (H.length + 3) 0), (12, .ptr (H.length + 4) 0), (13, ci n)], H ++ [some (dkC d), some (jrC j), some zjC, some (stJ j (sumI j.sizes)), some [iv j.start, iv j.count, iv (hdU j n), iv j.tail, iv j.first, .sl (.own V.length v) 1 (j.sizes.map ic)]], V ++ [v])) (fun _ => True) ?_ ?_
  · refine SWp.seq (Wp.s ?_)
    simp -implicitDefEqProofs [go_sem]
    refine ⟨by omega, ?_⟩
    refine SWp.block ?_
    refine SWp.loop (α := Nat) (fun i => ([(3, .ptr H.length 0), (6, .ptr (H.length + 2) 0), (10, .ptr (H.length + 3) 0), (12, .ptr (H.length + 4) 0), (13, ci n), (59, .sl .sh 1 ((j.sizes.take n).map ic)), (60, ci n), (61, ci i)], H ++ [some (dkC d), some (jrC j), some zjC, some (stJ j (sumI j.sizes)), some [iv j.start, iv j.count, iv (hdU j i), iv j.tail, iv j.first, .sl (.own V.length v) 1 (j.sizes.map ic)]], V ++ [v])) (fun i => i ≤ n) (fun i => n - i) 0 (Nat.zero_le _) (Sh.forget ?_ ?_ rfl) ?_
    · simp [go_sem, List.map_take, Nat.min_eq_left hnl]
    · rw [show hdU j 0 = j.head by rw [hdU, List.take_zero]; show (j.head + 0) % _ = _; rw [Int.add_zero, Int.emod_eq_of_lt hjh.1 hjh.2]]
    intro i hi
    dsimp only
    refine SWp.seq (Wp.s ?_)
    simp -implicitDefEqProofs [go_sem]
    refine SWp.seq (Wp.s ?_)
    simp -implicitDefEqProofs [go_sem]
    refine ⟨fun h => ?_, fun h => ?_⟩
    case refine_2 =>
      obtain rfl : i = n := by omega
      exact Sh.forget (by simp [go_sem]) rfl rfl
    have hij : i < j.sizes.length := by omega
    have hsz := (okSz_iff _).1 (List.all_eq_true.1 ((chkJ_iff j).1 ‹chkJ j = true›).2.2.1 _ (List.getElem_mem hij))
    have hL : 0 < j.count - 16 := by omega
    have hb1 := Int.emod_nonneg (j.head + sumI (j.sizes.take i)) (show j.count - 16 ≠ 0 by omega)
    have hb2 := Int.emod_lt_of_pos (j.head + sumI (j.sizes.take i)) hL
    have hnx : (hdU j i + j.sizes[i]) % (j.count - 16) = hdU j (i + 1) := by
      rw [hdU, hdU, sumI_take _ _ hij, Int.emod_add_emod, Int.add_assoc]
    have w4 : IntKind.i64.wrap (hdU j i + j.sizes[i]) = hdU j i + j.sizes[i] := IntWalk.i64_in _ ⟨by unfold hdU; omega, by unfold hdU; omega⟩
    have t4 := Int.tmod_eq_emod_of_nonneg (b := j.count - 16) (show 0 ≤ hdU j i + j.sizes[i] by unfold hdU; omega)
    have hz : ¬ j.count - 16 = 0 := by omega
    have w5 : IntKind.i64.wrap ((i : Int) + 1) = (i : Int) + 1 := IntWalk.i64_in _ ⟨by omega, by omega⟩
    refine SWp.seq (SWp.block (SWp.seq (Wp.s ?_)))
    simp -implicitDefEqProofs [go_sem, h, hij]
    refine ⟨by first | omega | (simp; omega), ?_⟩
    refine SWp.drawnT [] [9] (.s 0 .pl <| .s 1 .pl <| .s 2 .pl <| .s 3 .pl <| .s 4 .pl <| .s 5 .pl <| .s 6 .pl <| .s 7 .pl <| .s 8 .pl <| .s 9 .st <| .n) (by kernel_rfl) (by kernel_rfl) ?_
    simp -implicitDefEqProofs [go_sem, w4]
    refine CC.mono (length_cc _ _ _ _ hva) ?_
    rintro _ _ _ ⟨rfl, rfl, rfl⟩
    simp -implicitDefEqProofs [go_sem, w4, t4, hz, hnx]
    refine Wp.s ?_
    simp -implicitDefEqProofs [go_sem, w5]
    exact ⟨i + 1, by omega, by omega, Sh.forget (by simp [go_sem]) rfl rfl⟩
  rintro _ -
  dsimp only
  refine SWp.seq (SWp.drawnT [] [9, 11] (.s 0 .pl <| .s 1 .pl <| .s 2 .pl <| .s 3 .pl <| .s 4 .pl <| .s 5 .pl <| .s 6 .pl <| .s 7 .pl <| .s 8 .pl <| .s 9 .st <| .s 10 .pl <| .s 11 .st <| .n) (by kernel_rfl) (by kernel_rfl) ?_)
  have w6 : IntKind.i64.wrap (j.first + (n : Int)) = q + 1 := by rw [IntWalk.i64_in _ ⟨by omega, by omega⟩]; omega
  simp -implicitDefEqProofs [go_sem, w6]
  refine ⟨hnl, ?_⟩
  refine SWp.seq (SWp.drawnT [] [] (.s 0 .pl <| .s 1 .pl <| .s 2 .pl <| .s 3 .pl <| .s 4 .pl <| .s 5 .pl <| .s 6 .pl <| .s 7 .pl <| .s 8 .pl <| .s 9 .pl <| .s 10 .pl <| .s 11 .pl <| .s 12 .pl <| .s 13 .pl <| .s 14 .pl <| .s 15 .pl <| .n) (by kernel_rfl) (by kernel_rfl) ?_)
  simp -implicitDefEqProofs [go_sem]
  refine CC.mono (payload_cc _ _ _ _) ?_
  rintro _ _ _ ⟨rfl, rfl, rfl⟩
  simp -implicitDefEqProofs [go_sem]
  refine CC.mono (sStore_cc _ _ d j.start .sh (superJ (hdU j n) (q + 1)) hd) ?_
  rintro _ _ _ ⟨rfl, rfl, rfl⟩
  generalize storeS d j.start (superJ (hdU j n) (q + 1)) = x at hrel ⊢
  obtain ⟨A, e⟩ := x
  dsimp only at hrel ⊢
  simp -implicitDefEqProofs [go_sem, stV]
  refine SWp.seq (SWp.seq (Wp.s ?_))
  by_cases he : e = 0
  case neg =>
    have he' : ¬ (e : Int) = 0 := by omega
    simp -implicitDefEqProofs [go_sem, he, he']
    refine Wp.s ?_
    simp -implicitDefEqProofs [go_sem]
    exact bad e (by rw [hrel, if_pos he]) (by simp) (by simp)
  subst he
  rw [if_neg (by simp)] at hrel
  simp -implicitDefEqProofs [go_sem]
  refine Wp.s ?_
  simp -implicitDefEqProofs [go_sem]
  refine SWp.seq (Wp.s ?_)
  simp -implicitDefEqProofs [go_sem]
  refine Wp.s ?_
  simp -implicitDefEqProofs [go_sem]
  rw [hrel]
  refine fin_jt (.agg (.cons (.refl _) (.cons (.refl _) (.cons (.refl _) (.cons (.refl _) (.cons (.refl _) (.cons ?_ .nil))))))) (.refl _) rfl hokH (by simp) (by simp)
  rw [← List.map_drop]
  exact .sh _ _ _
end Go.Proofs.YtbnkggbpocaaiaaGreatDoor
namespace Go.Proofs.YtbnkggbpocaaiaaGreatDoor
open Go.Proofs
theorem apI_fits : ∀ (ws : List Wr) (l : Img) (i : Nat), (apI l ws i).2.2 = 0 → ∀ w ∈ ws, fitsS (imgSz l) w = 0
  | [], l, i, h, w, hw => by cases hw
  | x :: ws, l, i, h, w, hw => by
    rw [apI] at h
    split at h
    · rename_i q; exact absurd h q
    · rename_i q
      have q' : fitsS (imgSz l) x = 0 := by simpa using q
      have hz : imgSz (ap1 l x) = imgSz l := by
        have := ap1_sz (k := l) (w := x) q'
        have e : ∀ x : Img, imgSz x = (x.map List.length).map (fun n : Nat => (n : Int)) := fun x => by rw [imgSz, List.map_map]; rfl
        rw [e, e, this]
      rcases List.mem_cons.1 hw with rfl | hw
      · exact q'
      · have := apI_fits ws _ _ h w hw
        rwa [hz] at this
theorem apR_fits {l : Img} {ws : List Wr} (h : (apR l ws).2.2 = 0) {w : Wr} (hw : w ∈ ws) : fitsS (imgSz l) w = 0 := by
  unfold apR at h
  split at h
  · rename_i q; exact absurd h q
  · exact apI_fits ws l 0 h w hw
theorem fitsS_in {s : List Int} (hs : sizesE s = 0) {w : Wr} (h : fitsS s w = 0) : ∃ n : Nat, w.volume = n ∧ n < s.length ∧ 0 ≤ w.start ∧ w.start ≤ 4096 ∧ w.data.length ≤ 4096 := by
  obtain ⟨s1, s2, s3⟩ := sizesE_0 hs
  unfold fitsS at h
  split at h
  · cases h
  · rename_i h1
    split at h
    · cases h
    · rename_i h2
      split at h
      · cases h
      · rename_i h3
        obtain ⟨n, hn⟩ := Int.eq_ofNat_of_zero_le (show 0 ≤ w.volume by omega)
        have hns : n < s.length := by omega
        rw [hn, Int.toNat_natCast, List.getD_eq_getElem?_getD, List.getElem?_eq_getElem hns, Option.getD_some] at h3
        have := s3 _ (List.getElem_mem hns)
        exact ⟨n, hn, hns, by omega, by omega, by omega⟩
theorem storeS_len (d : Dk) (a : Int) (p : List UInt8) : (storeS d a p).1.length ≤ 2 := by
  unfold storeS
  repeat' split
  all_goals simp
theorem relJ_len (d : Dk) (j : Jrn) (q : Int) : (relJ d j q).2.1.length ≤ 2 := by
  have := storeS_len d j.start (superJ ((j.head + sumI (j.sizes.take (q + 1 - j.first).toNat)) % (j.count - 16)) (q + 1))
  unfold relJ
  dsimp only
  repeat' split
  all_goals first | exact Nat.zero_le _ | exact this
def flV (x : Sto × List Opn × Nat) : CV := .tup [.agg (stoC x.1), opsV x.2.1, er x.2.2]
theorem okV_flV (i j : Nat) (x : Sto × List Opn × Nat) : okV i j (flV x) := by
  rw [flV]; simp [go_sem, okL, okV, okL_stoC, okE_ops]
def opU (s : Sto) (i : Nat) : List (List CV) := ((s.pend.take i).map (opOf s)).map opC
theorem opU_len (s : Sto) (i : Nat) (h : i ≤ s.pend.length) : (opU s i).length = i := by rw [opU, List.length_map, List.length_map, List.length_take]; omega
@[go_sem] theorem opU_0 (s : Sto) : opU s 0 = [] := rfl
theorem opU_s {s : Sto} {i : Nat} (h : i < s.pend.length) : opU s (i + 1) = opU s i ++ [opC (opOf s s.pend[i])] := by
  rw [opU, List.take_succ_eq_append_getElem h, List.map_append, List.map_append]; rfl
@[go_sem] theorem okE_opU (i j : Nat) (s : Sto) (k : Nat) : okE i j (opU s k) = True := by rw [opU, okE_ops]
set_option maxRecDepth 8000 in
set_option maxHeartbeats 1600000 in
theorem vFlush_cc (H : Hp) (V : List Nat) (d : Dk) (s : Sto) (hd : DkS d) (hs : StS s) : CC Tryz.prog 26 [.agg (dkC d), .agg (stoC s)] H V (Pu (flV (flushV d s)) H V) := by
  refine CC.of_swp Tryz.func26 rfl (by kernel_rfl) (by rw [Tryz.ntmps26]; exact len_le _ _ rfl) fun hok hokH => ?_
  clear hok
  have bad : ∀ (e : Nat) (H' : Hp) (V' : List Nat), flushV d s = (zsto, [], e) → H'.take H.length = H → V'.take V.length = V → Fin H.length V.length (Pu (flV (flushV d s)) H V) (.tup [.agg zstC, .v (.slice none 0 0), er e]) H' V' := fun e H' V' h1 h2 h3 => by
    rw [h1]
    exact Fin.pu (.tup (.cons (.agg zsto_le) (.cons (.nil 3 (by decide)) (.cons (.refl _) .nil)))) (okV_flV _ _ _) hokH h2 h3
  refine SWp.seq (Wp.s ?_)
  simp -implicitDefEqProofs [go_sem, args0]
  refine SWp.seq (SWp.seq (Wp.s ?_))
  simp -implicitDefEqProofs [go_sem]
  refine CC.mono (sCheck_cc _ _ d hd) ?_
  rintro _ _ _ ⟨rfl, rfl, rfl⟩
  simp -implicitDefEqProofs [go_sem]
  refine SWp.seq (Wp.s ?_)
  by_cases hc : checkD d = 0
  case neg =>
    simp -implicitDefEqProofs [go_sem, hc]
    refine Wp.s ?_
    simp -implicitDefEqProofs [go_sem]
    exact bad _ _ _ (by rw [flushV, if_pos hc]) (by simp) (by simp)
  simp -implicitDefEqProofs [go_sem, hc]
  refine Wp.s ?_
  simp -implicitDefEqProofs [go_sem]
  refine SWp.seq (SWp.seq (Wp.s ?_))
  simp -implicitDefEqProofs [go_sem]
  refine CC.mono (vCheck_cc _ _ s hs) ?_
  rintro _ _ _ ⟨rfl, rfl, rfl⟩
  simp -implicitDefEqProofs [go_sem]
  refine SWp.seq (Wp.s ?_)
  by_cases h0 : chkV s = 0
  case neg =>
    simp -implicitDefEqProofs [go_sem, h0]
    refine Wp.s ?_
    simp -implicitDefEqProofs [go_sem]
    exact bad _ _ _ (by rw [flushV, if_neg (by simp [hc]), if_pos h0]) (by simp) (by simp)
  have hok := chkV_ok h0
  have hz := SzOk.of hok.sz
  have hsm := hz.sum'
  have hl8 := (sizesE_0 hok.sz).2.1
  have hJ := hok.A.j
  have hva := chkJ_val hJ
  have hv := (validJ_iff _ _).1 hva
  have hA := hok.A.a
  have hB := hok.A.b
  have hd1 : s.data = s.jr.count := Classical.byContradiction fun e => hA (.inr (.inl e))
  have hn := chkJ_next hJ
  simp -implicitDefEqProofs [go_sem, h0]
  refine Wp.s ?_
  simp -implicitDefEqProofs [go_sem]
  refine SWp.seq (SWp.seq (SWp.drawnT [] [] (.s 0 .pl <| .s 1 .pl <| .s 2 .pl <| .s 3 .pl <| .s 4 .pl <| .s 5 .pl <| .s 6 .pl <| .s 7 .pl <| .s 8 .pl <| .n) (by kernel_rfl) (by kernel_rfl) ?_))
  simp -implicitDefEqProofs [go_sem, stoC]
  refine CC.mono (place_cc _ _ s s.sizes.length hz (Nat.le_refl _) (by omega) (by omega)) ?_
  rintro _ _ _ ⟨rfl, rfl, rfl⟩
  rw [List.take_length]
  have e1 : flushV d s = if (d.stable.length : Int) < s.data + sumI s.sizes then (zsto, [], 2)
      else if s.pend.length = 0 then (s, [], 0)
      else if (relJ d s.jr (nextJ s.jr - 1)).2.2 ≠ 0 then (zsto, [], (relJ d s.jr (nextJ s.jr - 1)).2.2)
      else (⟨s.sizes, (relJ d s.jr (nextJ s.jr - 1)).1, s.data, nextJ s.jr - 1, [], s.img⟩, s.pend.map (opOf s) ++ opS :: (relJ d s.jr (nextJ s.jr - 1)).2.1, 0) := by
    rw [flushV, if_neg (by simp [hc]), if_neg (by simp [h0])]
  by_cases h1 : (d.stable.length : Int) < s.data + sumI s.sizes
  · simp -implicitDefEqProofs [go_sem, h1]
    refine Wp.s ?_
    simp -implicitDefEqProofs [go_sem]
    exact bad _ _ _ (by rw [e1, if_pos h1]) (by simp) (by simp)
  rw [if_neg h1] at e1
  simp -implicitDefEqProofs [go_sem, h1]
  refine Wp.s ?_
  simp -implicitDefEqProofs [go_sem]
  refine SWp.seq (Wp.s ?_)
  simp -implicitDefEqProofs [go_sem, stoC]
  refine CC.mono (vown_cc _ _ s hs) ?_
  rintro _ _ V1 ⟨k, v, rfl, rfl, hV1, hV2, hV3⟩
  have hkV : k < V1.length := (List.getElem?_eq_some_iff.1 hV2).1
  have hV1l : V.length ≤ V1.length := by omega
  have hpl := hs.pl
  simp -implicitDefEqProofs [go_sem, stoT]
  refine SWp.seq (SWp.seq (Wp.s ?_))
  by_cases h2 : s.pend.length = 0
  · simp -implicitDefEqProofs [go_sem, h2]
    refine Wp.s ?_
    simp -implicitDefEqProofs [go_sem]
    rw [e1, if_pos h2]
    refine Fin.pu (.tup (.cons (.agg ?_) (.cons (.nil 3 (by decide)) (.cons (.refl _) .nil)))) (okV_flV _ _ _) hokH (by simp) hV1
    exact .cons (.refl _) (.cons (.refl _) (.cons (.refl _) (.cons (.refl _) (.cons (.refl _) (.cons (.refl _) (.cons (.refl _) (.cons (.refl _) (.cons (.refl _) (.cons (.sh _ _ _) (.cons (.refl _) .nil))))))))))
  rw [if_neg h2] at e1
  have w1 : IntKind.i64.wrap (nextJ s.jr - 1) = nextJ s.jr - 1 := IntWalk.i64_in _ ⟨by unfold nextJ; omega, by unfold nextJ; omega⟩
  simp -implicitDefEqProofs [go_sem, h2]
  refine Wp.s ?_
  simp -implicitDefEqProofs [go_sem]
  refine SWp.seq (Wp.s ?_)
  simp -implicitDefEqProofs [go_sem, stoC]
  refine CC.mono (JNext_cc _ _ s.jr hs.jl) ?_
  rintro _ _ _ ⟨rfl, rfl, rfl⟩
  rw [nxJ_ok hJ]
  simp -implicitDefEqProofs [go_sem, w1]
  refine SWp.seq (Wp.s ?_)
  simp -implicitDefEqProofs [go_sem, stoC]
  refine CC.mono (Release_cc _ _ d s.jr (nextJ s.jr - 1) hd hs.jl) ?_
  rintro _ _ _ ⟨rfl, rfl, rfl⟩
  generalize hrl : relJ d s.jr (nextJ s.jr - 1) = x at e1 ⊢
  obtain ⟨j, A, e⟩ := x
  dsimp only at e1 ⊢
  have hAl : A.length ≤ 2 := by have := relJ_len d s.jr (nextJ s.jr - 1); rw [hrl] at this; exact this
  simp -implicitDefEqProofs [go_sem, jtV]
  refine SWp.seq (SWp.seq (Wp.s ?_))
  by_cases he : e = 0
  case neg =>
    have he' : ¬ (e : Int) = 0 := by omega
    simp -implicitDefEqProofs [go_sem, he, he']
    refine Wp.s ?_
    simp -implicitDefEqProofs [go_sem]
    exact bad _ _ _ (by rw [e1, if_pos he]) (by simp) (by simp [hV1])
  subst he
  rw [if_neg (by simp)] at e1
  simp -implicitDefEqProofs [go_sem]
  refine Wp.s ?_
  simp -implicitDefEqProofs [go_sem]
  refine SWp.seq (Wp.s ?_)
  simp -implicitDefEqProofs [go_sem]
  refine SWp.join (α := Unit) (fun _ => ([(3, .ptr (H.length + 1) 0), (4, .ptr (H.length + 2) 0), (9, .ptr (H.length + 3) 0), (10, ci (nextJ s.jr - 1)), (11, .ptr (H.length + 4) 0), (12, opsV A), (14, .sl (.own V1.length s.pend.length) 3 ((s.pend.map (opOf s)).map opC))], H ++ [some (dkC d), some (stoC s), some zstC, some (stoT s (.sl (.own k v) 3 (s.pend.map wrC))), some (jrC j)], V1 ++ [s.pend.length])) (fun _ => True) ?_ ?_
  · refine SWp.seq (Wp.s ?_)
    simp -implicitDefEqProofs [go_sem]
    refine SWp.block ?_
    refine SWp.loop (α := Nat) (fun i => ([(3, .ptr (H.length + 1) 0), (4, .ptr (H.length + 2) 0), (9, .ptr (H.length + 3) 0), (10, ci (nextJ s.jr - 1)), (11, .ptr (H.length + 4) 0), (12, opsV A), (14, .sl (.own V1.length i) 3 (opU s i)), (64, .sl (.own k v) 3 (s.pend.map wrC)), (65, ci s.pend.length), (66, ci i)], H ++ [some (dkC d), some (stoC s), some zstC, some (stoT s (.sl (.own k v) 3 (s.pend.map wrC))), some (jrC j)], V1 ++ [i])) (fun i => i ≤ s.pend.length) (fun i => s.pend.length - i) 0 (Nat.zero_le _) (Sh.tokT (by simp [go_sem]) rfl rfl) ?_
    intro i hi
    dsimp only
    refine SWp.seq (Wp.s ?_)
    simp -implicitDefEqProofs [go_sem]
    refine SWp.seq (Wp.s ?_)
    simp -implicitDefEqProofs [go_sem]
    refine ⟨fun h => ?_, fun h => ?_⟩
    case refine_2 =>
      obtain rfl : i = s.pend.length := by omega
      exact Sh.forget (by simp [go_sem, opU]) rfl rfl
    have hf := apR_fits hok.e1 (List.getElem_mem h)
    rw [imgSz_of hok.sz] at hf
    obtain ⟨n, f1, f2, f3, f4, f5⟩ := fitsS_in hok.sz hf
    have hsu := hz.sum n
    have w2 : IntKind.i64.wrap (s.data + sumI (s.sizes.take n) + s.pend[i].start) = s.data + sumI (s.sizes.take n) + s.pend[i].start := IntWalk.i64_in _ ⟨by omega, by omega⟩
    have w5 : IntKind.i64.wrap ((i : Int) + 1) = (i : Int) + 1 := IntWalk.i64_in _ ⟨by omega, by omega⟩
    refine SWp.seq (SWp.block (SWp.seq (Wp.s ?_)))
    simp -implicitDefEqProofs [go_sem, h]
    refine SWp.drawnT [] [] (.s 0 .pl <| .s 1 .pl <| .s 2 .pl <| .s 3 .pl <| .s 5 .pl <| .s 6 .pl <| .s 8 .pl <| .s 9 .pl <| .s 4 .pl <| .s 7 .pl <| .s 10 .pl <| .s 11 .pl <| .s 12 .pl <| .s 13 .pl <| .n) (by kernel_rfl) (by kernel_rfl) ?_
    simp -implicitDefEqProofs [go_sem, f1]
    refine CC.mono (place_cc _ _ s n hz (by omega) (by omega) (by omega)) ?_
    rintro _ _ _ ⟨rfl, rfl, rfl⟩
    simp -implicitDefEqProofs [go_sem, w2, opU_len s i hi]
    refine ⟨by omega, ?_⟩
    refine Wp.s ?_
    simp -implicitDefEqProofs [go_sem, w5]
    have hop : opC (opOf s s.pend[i]) = [ci 0, ci (s.data + sumI (s.sizes.take n) + s.pend[i].start), secsV s.pend[i].data] := by rw [opOf, f1]; rfl
    have hkk : k < V1.length + 1 := by omega
    refine ⟨i + 1, by omega, by omega, Sh.trim (L := [some (dkC d), some (stoC s), some zstC, some (stoT s (.sl (.own k v) 3 (s.pend.map wrC))), some (jrC j)]) ?_ ?_ hokH ?_ (by simp; omega) (by simp) (by simp)⟩
    · simp [go_sem, opU_s h, hop]
    · simp [go_sem, okE_wrs, okE_ops, okE_opU, hkk]
    · simp [go_sem, stoT, zstC, okL, okV, okTk, okE_ints, okE_wrs, okE_ims, okL_stoC, okL_jrC, hkk]
  rintro _ -
  dsimp only
  refine SWp.seq (Wp.s ?_)
  simp -implicitDefEqProofs [go_sem, stoT]
  refine SWp.seq (SWp.drawnT [] [7] (.s 0 .pl <| .s 1 .pl <| .s 4 .pl <| .s 2 .pl <| .s 3 .pl <| .s 5 .pl <| .s 6 .pl <| .s 7 .st <| .s 8 .pl <| .s 9 .pl <| .n) (by kernel_rfl) (by kernel_rfl) ?_)
  simp -implicitDefEqProofs [go_sem]
  refine CC.mono (vsync_cc _ _) ?_
  rintro _ _ _ ⟨rfl, rfl, rfl⟩
  simp -implicitDefEqProofs [go_sem]
  refine CC.le (ys := [.sl .sh 3 ((s.pend.map (opOf s)).map opC), .sl .sh 1 ([[opS], A].map opE)]) (.cons (by rw [List.map_map]; exact .sh _ _ _) (.cons (.sle _ _ (.cons (.cons (.sh _ _ _) .nil) (.cons (.cons (.refl _) .nil) .nil))) .nil)) ?_
  refine CC.mono (operations_cc _ _ .sh (s.pend.map (opOf s)) [[opS], A] (by simp) (by simp [catO]; omega)) ?_
  rintro _ _ _ ⟨rfl, rfl, rfl⟩
  simp -implicitDefEqProofs [go_sem]
  refine ⟨rfl, ?_⟩
  refine Wp.s ?_
  simp -implicitDefEqProofs [go_sem]
  rw [e1]
  have hcat : catO [List.map (opOf s) s.pend, [opS], A] = s.pend.map (opOf s) ++ opS :: A := by simp [catO]
  rw [hcat]
  refine Fin.pu (.tup (.cons (.agg ?_) (.cons (.refl _) (.cons (.refl _) .nil)))) (okV_flV _ _ _) hokH (by simp) (by simp [List.take_append_of_le_length hV1l, hV1])
  show LeL [.sl .sh 1 (s.sizes.map ic), .v (.int .i64 j.start), .v (.int .i64 j.count), .v (.int .i64 j.head), .v (.int .i64 j.tail), .v (.int .i64 j.first), .sl .sh 1 (j.sizes.map ic), .v (.int .i64 s.data), .v (.int .i64 (nextJ s.jr - 1)), .v (.slice none 0 0), .sl .sh 1 (s.img.map imE)] _
  exact .cons (.refl _) (.cons (.refl _) (.cons (.refl _) (.cons (.refl _) (.cons (.refl _) (.cons (.refl _) (.cons (.refl _) (.cons (.refl _) (.cons (.refl _) (.cons (.nil 3 (by decide)) (.cons (.refl _) .nil))))))))))
end Go.Proofs.YtbnkggbpocaaiaaGreatDoor
namespace Go.Proofs.YtbnkggbpocaaiaaGreatDoor
open Go.Proofs
theorem sizeV_ok {l : List Int} {n : Int} (h : (sizeV l n).2 = 0) : sizesE l = 0 ∧ 20 ≤ n ∧ n ≤ 4096 - sumI l ∧ sizeV l n = (n + sumI l, 0) := by
  unfold sizeV at h ⊢
  split at h
  · rename_i q; exact absurd h q
  · rename_i q
    split at h
    · cases h
    · rename_i q2
      rw [if_neg q, if_neg q2]
      exact ⟨by simpa using q, by omega, by omega, rfl⟩
theorem flV_zst : Le (.agg zstC) (.agg (stoC zsto)) := .agg zsto_le
set_option maxRecDepth 8000 in
set_option maxHeartbeats 1600000 in
theorem vFormat_cc (H : Hp) (V : List Nat) (l : List Int) (n : Int) (hl : l.length ≤ 9223372036854775807) : CC Tryz.prog 14 [.sl .sh 1 (l.map ic), ci n] H V (Pu (flV (fmtV l n)) H V) := by
  refine CC.of_swp Tryz.func14 rfl (by kernel_rfl) (by rw [Tryz.ntmps14]; exact len_le _ _ rfl) fun hok hokH => ?_
  clear hok
  have bad : ∀ (e : Nat) (H' : Hp) (V' : List Nat), fmtV l n = (zsto, [], e) → H'.take H.length = H → V'.take V.length = V → Fin H.length V.length (Pu (flV (fmtV l n)) H V) (.tup [.agg zstC, .v (.slice none 0 0), er e]) H' V' := fun e H' V' h1 h2 h3 => by
    rw [h1]
    exact Fin.pu (.tup (.cons (.agg zsto_le) (.cons (.nil 3 (by decide)) (.cons (.refl _) .nil)))) (okV_flV _ _ _) hokH h2 h3
  refine SWp.seq (Wp.s ?_)
  simp -implicitDefEqProofs [go_sem, args0]
  refine SWp.seq (SWp.seq (Wp.s ?_))
  simp -implicitDefEqProofs [go_sem]
  refine CC.mono (vSize_cc _ _ .sh l n hl) ?_
  rintro _ _ _ ⟨rfl, rfl, rfl⟩
  simp -implicitDefEqProofs [go_sem]
  refine SWp.seq (Wp.s ?_)
  by_cases h0 : (sizeV l n).2 = 0
  case neg =>
    have h0' : ¬ (((sizeV l n).2 : Nat) : Int) = 0 := by omega
    simp -implicitDefEqProofs [go_sem, h0, h0']
    refine Wp.s ?_
    simp -implicitDefEqProofs [go_sem]
    exact bad _ _ _ (by rw [fmtV, if_pos h0]) (by simp) (by simp)
  obtain ⟨hE, hn1, hn2, hsv⟩ := sizeV_ok h0
  have hz := SzOk.of hE
  have hsm := hz.sum'
  have hl8 := (sizesE_0 hE).2.1
  have hva : validJ 0 n = true := (validJ_iff _ _).2 ⟨by omega, by omega, by omega, by omega⟩
  simp -implicitDefEqProofs [go_sem, h0]
  refine Wp.s ?_
  simp -implicitDefEqProofs [go_sem]
  refine SWp.seq (Wp.s ?_)
  simp -implicitDefEqProofs [go_sem]
  refine CC.mono (New_cc _ _ .sh l hl) ?_
  rintro _ _ _ ⟨rfl, rfl, rfl⟩
  simp -implicitDefEqProofs [go_sem, hE]
  refine SWp.seq (SWp.seq (Wp.s ?_))
  simp -implicitDefEqProofs [go_sem]
  refine Wp.s ?_
  simp -implicitDefEqProofs [go_sem]
  refine SWp.seq (Wp.s ?_)
  simp -implicitDefEqProofs [go_sem]
  refine CC.mono (Format_cc _ _ 0 n) ?_
  rintro _ _ _ ⟨rfl, rfl, rfl⟩
  have hfj := formatJ_ok hva
  have hfm : fmtV l n = (⟨l, (formatJ 0 n).1, n, 0, [], imOf l⟩, opW n (List.replicate (sumI l).toNat sec0) :: opS :: (formatJ 0 n).2.1, 0) := by rw [fmtV, if_neg (by simp [h0])]
  have hfe : (formatJ 0 n).2.2 = 0 := by rw [hfj]
  have hfl : (formatJ 0 n).2.1.length = 6 := by rw [hfj]; rfl
  generalize formatJ 0 n = x at hfm hfe hfl ⊢
  obtain ⟨j, A, e⟩ := x
  dsimp only at hfm hfe hfl ⊢
  subst hfe
  simp -implicitDefEqProofs [go_sem, jtV]
  refine SWp.seq (SWp.seq (Wp.s ?_))
  simp -implicitDefEqProofs [go_sem]
  refine Wp.s ?_
  simp -implicitDefEqProofs [go_sem]
  refine SWp.seq (Wp.s ?_)
  simp -implicitDefEqProofs [go_sem]
  refine CC.mono (vsum_cc _ _ .sh l hz) ?_
  rintro _ _ _ ⟨rfl, rfl, rfl⟩
  simp -implicitDefEqProofs [go_sem, -List.reduceReplicate]
  refine ⟨by omega, by omega, ?_⟩
  have hz2 := zeros_secs (sumI l).toNat
  simp only [List.map_cons, List.map_nil] at hz2
  rw [hz2]
  refine SWp.seq (SWp.drawnT [H.length + 1, H.length + 3] [11, 12] (.s 0 .pl <| .s 2 .ld <| .s 3 .pl <| .s 4 .pl <| .s 6 .ld <| .s 9 .pl <| .s 10 .pl <| .s 1 .pl <| .s 5 .pl <| .s 7 .pl <| .s 8 .pl <| .s 11 .st <| .s 12 .st <| .s 13 .pl <| .s 14 .pl <| .n) (by kernel_rfl) (by kernel_rfl) ?_)
  simp -implicitDefEqProofs [go_sem]
  refine CC.mono (vcloneInt_cc _ _ .sh l (by omega)) ?_
  rintro _ _ _ ⟨rfl, rfl, rfl⟩
  simp -implicitDefEqProofs [go_sem]
  refine CC.mono (vsync_cc _ _) ?_
  rintro _ _ _ ⟨rfl, rfl, rfl⟩
  simp -implicitDefEqProofs [go_sem]
  obtain ⟨Z, hZ⟩ : ∃ Z, Z = List.replicate (sumI l).toNat sec0 := ⟨_, rfl⟩
  refine CC.let_go (ys := [.sl .sh 3 ([opW n (List.replicate (sumI l).toNat sec0), opS].map opC), .sl .ti 1 ([A].map opE)]) (H.length + 2) (secsF (List.replicate (sumI l).toNat sec0)) (hget _ _ 2) (.cons (.sl _ _ (.cons (.cons (.refl _) (.cons (.refl _) (.cons (Fy.zeros _ _) .nil))) (.cons (FyL.rfl' _ _ _) .nil))) (.cons (.refl _) .nil)) ?_
  refine CC.mono (operations_cc _ _ .ti [opW n (List.replicate (sumI l).toNat sec0), opS] [A] (by simp) (by simp [catO]; omega)) ?_
  rintro _ _ _ ⟨rfl, rfl, rfl⟩
  simp -implicitDefEqProofs [go_sem]
  have hkp : ∀ (a b c c' d a' : Option (List CV)), Kp [H.length + 1, H.length + 3] (H ++ [a, b, c, d]) (H ++ [a', b, c', d]) := fun a b c c' d a' => Kp.keep fun x hx => by
    rcases List.mem_cons.1 hx with rfl | hx
    · rw [hget, hget]; rfl
    · obtain rfl : x = H.length + 3 := by simpa using hx
      rw [hget, hget]; rfl
  refine ⟨hkp _ _ _ _ _ _, rfl, hkp _ _ _ _ _ _, ?_⟩
  refine Wp.s ?_
  simp -implicitDefEqProofs [go_sem]
  have hcat : catO [[opW n (List.replicate (sumI l).toNat sec0), opS], A] = opW n (List.replicate (sumI l).toNat sec0) :: opS :: A := by simp [catO]
  rw [hcat, hfm]
  refine Fin.pu (.tup (.cons (.agg ?_) (.cons (.refl _) (.cons (.refl _) .nil)))) (okV_flV _ _ _) hokH (by simp) (by simp)
  show LeL [.sl .sh 1 (l.map ic), .v (.int .i64 j.start), .v (.int .i64 j.count), .v (.int .i64 j.head), .v (.int .i64 j.tail), .v (.int .i64 j.first), .sl .sh 1 (j.sizes.map ic), .v (.int .i64 n), .v (.int .i64 0), .v (.slice none 0 0), .sl .sh 1 ((imOf l).map imE)] _
  exact .cons (.refl _) (.cons (.refl _) (.cons (.refl _) (.cons (.refl _) (.cons (.refl _) (.cons (.refl _) (.cons (.refl _) (.cons (.refl _) (.cons (.refl _) (.cons (.nil 3 (by decide)) (.cons (.refl _) .nil))))))))))
theorem ints_cc (H : Hp) (V : List Nat) (tk : Tk) (xs : List Int) (hx : xs.length ≤ 1000000000) : CC Tryz.prog 51 [.sl tk 1 (xs.map ic)] H V (Pu (.sl .sh 1 (xs.map ic)) H V) := by
  refine CC.of_swp Tryz.func51 rfl (by kernel_rfl) (by rw [Tryz.ntmps51]; exact len_le _ _ rfl) fun hok hokH => ?_
  clear hok
  refine SWp.seq (Wp.s ?_)
  simp -implicitDefEqProofs [go_sem, args0]
  refine SWp.seq (Wp.s ?_)
  simp -implicitDefEqProofs [go_sem]
  refine SWp.seq (Wp.s ?_)
  simp -implicitDefEqProofs [go_sem]
  refine ⟨by omega, ?_⟩
  refine Wp.s ?_
  simp -implicitDefEqProofs [go_sem]
  exact Fin.pu (.sh ..) (by simp [go_sem, okE_ints]) hokH (by simp) (by simp)
def ioU (l : List Int) (i : Nat) : List (List CV) := ((imOf l).take i).map imE
theorem ioU_len (l : List Int) (i : Nat) (h : i ≤ l.length) : (ioU l i).length = i := by rw [ioU, List.length_map, List.length_take, imOf_len]; omega
@[go_sem] theorem ioU_0 (l : List Int) : ioU l 0 = [] := rfl
theorem ioU_s {l : List Int} {i : Nat} (h : i < l.length) : ioU l (i + 1) = ioU l i ++ [imE (zer l[i].toNat)] := by
  rw [ioU, List.take_succ_eq_append_getElem (by rw [imOf_len]; exact h), List.map_append]
  simp [ioU, imOf]
theorem ioU_all {l : List Int} : ioU l l.length = (imOf l).map imE := by rw [ioU, List.take_of_length_le (by rw [imOf_len]; exact Nat.le_refl _)]
@[go_sem] theorem okE_ioU (i j : Nat) (l : List Int) (k : Nat) : okE i j (ioU l k) = True := by rw [ioU, okE_ims]
theorem rNew_cc (H : Hp) (V : List Nat) (l : List Int) (hl : l.length ≤ 9223372036854775807) : CC Tryz.prog 50 [.sl .sh 1 (l.map ic)] H V (Pu (.tup [imV (if sizesE l ≠ 0 then [] else imOf l), er (sizesE l)]) H V) := by
  refine CC.of_swp Tryz.func50 rfl (by kernel_rfl) (by rw [Tryz.ntmps50]; exact len_le _ _ rfl) fun hok hokH => ?_
  clear hok
  refine SWp.seq (Wp.s ?_)
  simp -implicitDefEqProofs [go_sem, args0]
  refine SWp.seq (SWp.seq (Wp.s ?_))
  simp -implicitDefEqProofs [go_sem]
  refine CC.mono (refSizes_cc _ _ .sh l hl) ?_
  rintro _ _ _ ⟨rfl, rfl, rfl⟩
  simp -implicitDefEqProofs [go_sem]
  refine SWp.seq (Wp.s ?_)
  by_cases h0 : sizesE l = 0
  case neg =>
    simp -implicitDefEqProofs [go_sem, h0]
    refine Wp.s ?_
    simp -implicitDefEqProofs [go_sem]
    exact Fin.pu (.tup (.cons (.nil 1 (by decide)) (.cons (.refl _) .nil))) (by simp [go_sem, okE]) hokH (by simp) (by simp)
  obtain ⟨s1, s2, s3⟩ := sizesE_0 h0
  simp -implicitDefEqProofs [go_sem, h0]
  refine Wp.s ?_
  simp -implicitDefEqProofs [go_sem]
  refine SWp.seq (Wp.s ?_)
  simp -implicitDefEqProofs [go_sem]
  have hil : (imOf l).length = l.length := imOf_len l
  refine SWp.join (α := Unit) (fun _ => ([(5, .sl (.own V.length l.length) 1 (bxs H.length (imOf l)))], H ++ imH (imOf l), V ++ [l.length])) (fun _ => True) ?_ ?_
  · refine SWp.seq (Wp.s ?_)
    simp -implicitDefEqProofs [go_sem]
    refine SWp.block ?_
    refine SWp.loop (α := Nat) (fun i => ([(0, .sl .sh 1 (l.map ic)), (5, .sl (.own V.length i) 1 (bxs H.length ((imOf l).take i))), (6, ci i)], H ++ imH ((imOf l).take i), V ++ [i])) (fun i => i ≤ l.length) (fun i => l.length - i) 0 (Nat.zero_le _) (Sh.tokT (by simp [go_sem, bxs]) (by simp [imH]) rfl) ?_
    intro i hi
    dsimp only
    refine SWp.seq (SWp.seq (Wp.s ?_))
    simp -implicitDefEqProofs [go_sem]
    refine Wp.s ?_
    simp -implicitDefEqProofs [go_sem]
    refine ⟨fun h => ?_, fun h => ?_⟩
    case refine_2 =>
      obtain rfl : i = l.length := by omega
      exact Sh.forget (by rw [List.take_of_length_le (by omega)]; simp [go_sem]) (by rw [List.take_of_length_le (by omega)]) rfl
    have hn := s3 _ (List.getElem_mem h)
    refine SWp.seq (SWp.block (Wp.s ?_))
    have hmn : min i l.length = i := Nat.min_eq_left (by omega)
    simp -implicitDefEqProofs [go_sem, -List.reduceReplicate, h, hmn]
    refine ⟨by omega, by omega, by omega, ?_⟩
    have hz2 := zeros_secs l[i].toNat
    simp only [List.map_cons, List.map_nil] at hz2
    rw [hz2]
    have w5 : IntKind.i64.wrap ((i : Int) + 1) = (i : Int) + 1 := IntWalk.i64_in _ ⟨by omega, by omega⟩
    have htk : (imOf l).take (i + 1) = (imOf l).take i ++ [zer l[i].toNat] := by
      rw [List.take_succ_eq_append_getElem (by omega)]; simp [imOf]
    refine Wp.s ?_
    simp -implicitDefEqProofs [go_sem, w5]
    refine ⟨i + 1, by omega, by omega, Sh.forget ?_ ?_ (by simp)⟩
    · rw [htk, bxs_snoc]; simp [go_sem, hmn]
    · rw [htk, imH, imH, List.map_append]; rfl
  rintro _ -
  dsimp only
  refine Wp.s ?_
  simp -implicitDefEqProofs [go_sem]
  obtain ⟨H', h1, h2⟩ := gst_bxs (n := 1) (nb := H.length) (nv := V.length) (b := H.length) (V := V ++ [l.length]) (cs := [er 0]) (imOf l) [] (H ++ imH (imOf l)) (.own V.length l.length) (fun j hj => imH_get H _ j hj)
  refine ⟨_, H, V, Gst.trans h2 ?_, ⟨rfl, rfl, rfl⟩⟩
  rw [List.take_left] at h1
  have := Gst.cut (n := 1) (nb := H.length) (nv := V.length) (T := [(0, .tup [imV (imOf l), er 0])]) (H := H') (V := V ++ [l.length]) H.length V.length (Nat.le_refl _) (Nat.le_refl _) (fun p hp => by simp at hp; subst hp; simp [go_sem, okL, okV]) (by rw [h1]; exact hokH)
  rwa [h1, List.take_left] at this
end Go.Proofs.YtbnkggbpocaaiaaGreatDoor
namespace Go.Proofs.YtbnkggbpocaaiaaGreatDoor
open Go.Proofs
set_option maxRecDepth 8000 in
set_option maxHeartbeats 1600000 in
theorem rvFormat_cc (H : Hp) (V : List Nat) (l : List Int) (n : Int) (hl : l.length ≤ 9223372036854775807) : CC Tryz.prog 15 [.sl .sh 1 (l.map ic), ci n] H V (Pu (flV (fmtV l n)) H V) := by
  refine CC.of_swp Tryz.func15 rfl (by kernel_rfl) (by rw [Tryz.ntmps15]; exact len_le _ _ rfl) fun hok hokH => ?_
  clear hok
  have bad : ∀ (e : Nat) (H' : Hp) (V' : List Nat), fmtV l n = (zsto, [], e) → H'.take H.length = H → V'.take V.length = V → Fin H.length V.length (Pu (flV (fmtV l n)) H V) (.tup [.agg zstC, .v (.slice none 0 0), er e]) H' V' := fun e H' V' h1 h2 h3 => by
    rw [h1]
    exact Fin.pu (.tup (.cons (.agg zsto_le) (.cons (.nil 3 (by decide)) (.cons (.refl _) .nil)))) (okV_flV _ _ _) hokH h2 h3
  refine SWp.seq (Wp.s ?_)
  simp -implicitDefEqProofs [go_sem, args0]
  refine SWp.seq (SWp.seq (Wp.s ?_))
  simp -implicitDefEqProofs [go_sem]
  refine CC.mono (rSize_cc _ _ .sh l n hl) ?_
  rintro _ _ _ ⟨rfl, rfl, rfl⟩
  simp -implicitDefEqProofs [go_sem]
  refine SWp.seq (Wp.s ?_)
  by_cases h0 : (sizeV l n).2 = 0
  case neg =>
    have h0' : ¬ (((sizeV l n).2 : Nat) : Int) = 0 := by omega
    simp -implicitDefEqProofs [go_sem, h0, h0']
    refine Wp.s ?_
    simp -implicitDefEqProofs [go_sem]
    exact bad _ _ _ (by rw [fmtV, if_pos h0]) (by simp) (by simp)
  obtain ⟨hE, hn1, hn2, hsv⟩ := sizeV_ok h0
  have hz := SzOk.of hE
  have hsm := hz.sum'
  have hl8 := (sizesE_0 hE).2.1
  have hva : validJ 0 n = true := (validJ_iff _ _).2 ⟨by omega, by omega, by omega, by omega⟩
  simp -implicitDefEqProofs [go_sem, h0]
  refine Wp.s ?_
  simp -implicitDefEqProofs [go_sem]
  refine SWp.seq (Wp.s ?_)
  simp -implicitDefEqProofs [go_sem]
  refine CC.mono (refFormat_cc _ _ 0 n) ?_
  rintro _ _ _ ⟨rfl, rfl, rfl⟩
  have hfj := formatJ_ok hva
  have hfm : fmtV l n = (⟨l, (formatJ 0 n).1, n, 0, [], imOf l⟩, opW n (List.replicate (sumI l).toNat sec0) :: opS :: (formatJ 0 n).2.1, 0) := by rw [fmtV, if_neg (by simp [h0])]
  have hfl : (formatJ 0 n).2.1.length = 6 := by rw [hfj]; rfl
  generalize formatJ 0 n = x at hfm hfl ⊢
  obtain ⟨j, A, e⟩ := x
  dsimp only at hfm hfl ⊢
  simp -implicitDefEqProofs [go_sem, jtV]
  refine SWp.seq (Wp.s ?_)
  simp -implicitDefEqProofs [go_sem]
  refine CC.mono (rNew_cc _ _ l hl) ?_
  rintro _ _ _ ⟨rfl, rfl, rfl⟩
  simp -implicitDefEqProofs [go_sem, hE]
  refine SWp.seq (Wp.s ?_)
  simp -implicitDefEqProofs [go_sem]
  refine CC.mono (rsum_cc _ _ .sh l hz) ?_
  rintro _ _ _ ⟨rfl, rfl, rfl⟩
  simp -implicitDefEqProofs [go_sem, -List.reduceReplicate]
  refine ⟨by omega, by omega, ?_⟩
  have hz2 := zeros_secs (sumI l).toNat
  simp only [List.map_cons, List.map_nil] at hz2
  rw [hz2]
  refine SWp.seq (SWp.drawnT [] [9] (.s 0 .pl <| .s 2 .pl <| .s 3 .pl <| .s 4 .pl <| .s 6 .pl <| .s 7 .pl <| .s 1 .pl <| .s 5 .pl <| .s 8 .pl <| .s 9 .st <| .s 10 .pl <| .s 11 .pl <| .n) (by kernel_rfl) (by kernel_rfl) ?_)
  simp -implicitDefEqProofs [go_sem]
  refine CC.mono (ints_cc _ _ .sh l (by omega)) ?_
  rintro _ _ _ ⟨rfl, rfl, rfl⟩
  simp -implicitDefEqProofs [go_sem]
  refine ⟨by omega, rfl, ?_⟩
  refine Wp.s ?_
  simp -implicitDefEqProofs [go_sem]
  rw [hfm]
  refine Fin.frozY (b := H.length + 2) (cs := secsF (List.replicate (sumI l).toNat sec0))
    (r1 := .tup [.agg (stoC ⟨l, j, n, 0, [], imOf l⟩), .sl .sh 3 ([iv 0, iv n, .bsl (H.length + 2) 0 (sumI l).toNat 8] :: opC opS :: A.map opC), er 0]) ⟨rfl, rfl, rfl⟩
    (.tup (.cons (.agg ?_) (.cons (.sle _ _ (.cons (LeL.rfl' _) (LeE.app LeE.sync (LeE.rfl' (A.map opC))))) (.cons (.refl _) .nil)))) (by simp)
    (.tup (.cons (.refl _) (.cons (.sl _ _ (.cons (.cons (.refl _) (.cons (.refl _) (.cons (Fy.zeros _ _) .nil))) (.cons (FyL.rfl' _ _ _) (FyE.rfl' _ _ _)))) (.cons (.refl _) .nil)))) (by omega) (okV_flV _ _ _) hokH (by simp) (by simp)
  show LeL [.sl .sh 1 (l.map ic), .v (.int .i64 j.start), .v (.int .i64 j.count), .v (.int .i64 j.head), .v (.int .i64 j.tail), .v (.int .i64 j.first), .sl .sh 1 (j.sizes.map ic), .v (.int .i64 n), .v (.int .i64 0), .v (.slice none 0 0), .sl .sh 1 ((imOf l).map imE)] _
  exact .cons (.refl _) (.cons (.refl _) (.cons (.refl _) (.cons (.refl _) (.cons (.refl _) (.cons (.refl _) (.cons (.refl _) (.cons (.refl _) (.cons (.refl _) (.cons (.nil 3 (by decide)) (.cons (.refl _) .nil))))))))))
end Go.Proofs.YtbnkggbpocaaiaaGreatDoor
namespace Go.Proofs.YtbnkggbpocaaiaaGreatDoor
open Go.Proofs
theorem SameVol_cc (H : Hp) (V : List Nat) (t1 t2 : Tk) (x y : List Sec) (hl : x.length ≤ 1000000000) : CC Tryz.prog 85 [.sl t1 8 (x.map secC), .sl t2 8 (y.map secC)] H V (Pu (.v (.bool (decide (x = y)))) H V) := by
  refine CC.of_swp Tryz.func85 rfl (by kernel_rfl) (by rw [Tryz.ntmps85]; exact len_le _ _ rfl) fun hok hokH => ?_
  clear hok
  refine SWp.seq (Wp.s ?_)
  simp -implicitDefEqProofs [go_sem, args0]
  refine SWp.seq (SWp.seq (Wp.s ?_))
  by_cases hlen : x.length = y.length
  case neg =>
    have hlen' : ¬ (x.length : Int) = (y.length : Int) := by omega
    simp -implicitDefEqProofs [go_sem, hlen']
    refine Wp.s ?_
    simp -implicitDefEqProofs [go_sem, hlen, hlen']
    exact Fin.bool (by simp [show x ≠ y from fun e => hlen (by rw [e])]) hokH (by simp) (by simp)
  simp -implicitDefEqProofs [go_sem, hlen]
  refine Wp.s ?_
  simp -implicitDefEqProofs [go_sem, hlen]
  refine SWp.join (α := Unit) (fun _ => ([], H, V)) (fun _ => x = y) ?_ ?_
  · refine SWp.seq (Wp.s ?_)
    simp -implicitDefEqProofs [go_sem]
    refine SWp.block ?_
    refine SWp.loop (α := Nat) (fun i => ([(0, .sl t1 8 (x.map secC)), (1, .sl t2 8 (y.map secC)), (5, ci i)], H, V)) (fun i => i ≤ x.length ∧ x.take i = y.take i) (fun i => x.length - i) 0 ⟨Nat.zero_le _, rfl⟩ (Sh.forget (by simp [go_sem]) rfl rfl) ?_
    rintro i ⟨hi, hp⟩
    dsimp only
    refine SWp.seq (SWp.seq (Wp.s ?_))
    simp -implicitDefEqProofs [go_sem]
    refine Wp.s ?_
    simp -implicitDefEqProofs [go_sem]
    refine ⟨fun h => ?_, fun h => ⟨eq_of_take hlen h hp, Sh.forget (by simp [go_sem]) rfl rfl⟩⟩
    have h2 : i < y.length := by omega
    refine SWp.seq (SWp.block (SWp.seq (SWp.drawnT [] [] (.s 0 .pl <| .s 1 .pl <| .s 2 .pl <| .s 3 .pl <| .s 4 .pl <| .s 5 .pl <| .s 6 .pl <| .s 7 .pl <| .s 8 .pl <| .n) (by kernel_rfl) (by kernel_rfl) ?_)))
    simp -implicitDefEqProofs [go_sem, h, h2]
    refine ⟨_, flatSec, fits_secW _, fits_secW _, fun he => ?_, fun he => ?_⟩
    · refine Wp.s ?_
      simp -implicitDefEqProofs [go_sem]
      exact Fin.bool (by simp [ne_at h h2 (fun e => he (by rw [e]))]) hokH (by simp) (by simp)
    · refine Wp.s ?_
      simp -implicitDefEqProofs [go_sem]
      refine Wp.s ?_
      simp -implicitDefEqProofs [go_sem]
      refine ⟨i + 1, ⟨by omega, take_eq_succ h h2 hp (secC_inj he)⟩, by omega, Sh.forget ?_ rfl rfl⟩
      simp [go_sem, wrap_succ (show i ≤ 1000000000 by omega)]
  · rintro _ he
    dsimp only
    refine Wp.s ?_
    simp -implicitDefEqProofs [go_sem]
    exact Fin.bool (by simp [he]) hokH (by simp) (by simp)
theorem SameSec13_cc (H : Hp) (V : List Nat) (t1 t2 : Tk) (x y : List Sec) (hl : x.length ≤ 1000000000) : CC Tryz.prog 34 [.sl t1 8 (x.map secC), .sl t2 8 (y.map secC)] H V (Pu (.v (.bool (decide (x = y)))) H V) := by
  refine CC.of_swp Tryz.func34 rfl (by kernel_rfl) (by rw [Tryz.ntmps34]; exact len_le _ _ rfl) fun hok hokH => ?_
  clear hok
  refine SWp.seq (Wp.s ?_)
  simp -implicitDefEqProofs [go_sem, args0]
  refine SWp.seq (SWp.seq (Wp.s ?_))
  by_cases hlen : x.length = y.length
  case neg =>
    have hlen' : ¬ (x.length : Int) = (y.length : Int) := by omega
    simp -implicitDefEqProofs [go_sem, hlen']
    refine Wp.s ?_
    simp -implicitDefEqProofs [go_sem, hlen, hlen']
    exact Fin.bool (by simp [show x ≠ y from fun e => hlen (by rw [e])]) hokH (by simp) (by simp)
  simp -implicitDefEqProofs [go_sem, hlen]
  refine Wp.s ?_
  simp -implicitDefEqProofs [go_sem, hlen]
  refine SWp.join (α := Unit) (fun _ => ([], H, V)) (fun _ => x = y) ?_ ?_
  · refine SWp.seq (Wp.s ?_)
    simp -implicitDefEqProofs [go_sem]
    refine SWp.block ?_
    refine SWp.loop (α := Nat) (fun i => ([(0, .sl t1 8 (x.map secC)), (1, .sl t2 8 (y.map secC)), (5, ci i)], H, V)) (fun i => i ≤ x.length ∧ x.take i = y.take i) (fun i => x.length - i) 0 ⟨Nat.zero_le _, rfl⟩ (Sh.forget (by simp [go_sem]) rfl rfl) ?_
    rintro i ⟨hi, hp⟩
    dsimp only
    refine SWp.seq (SWp.seq (Wp.s ?_))
    simp -implicitDefEqProofs [go_sem]
    refine Wp.s ?_
    simp -implicitDefEqProofs [go_sem]
    refine ⟨fun h => ?_, fun h => ⟨eq_of_take hlen h hp, Sh.forget (by simp [go_sem]) rfl rfl⟩⟩
    have h2 : i < y.length := by omega
    refine SWp.seq (SWp.block (SWp.seq (SWp.drawnT [] [] (.s 0 .pl <| .s 1 .pl <| .s 2 .pl <| .s 3 .pl <| .s 4 .pl <| .s 5 .pl <| .s 6 .pl <| .s 7 .pl <| .s 8 .pl <| .n) (by kernel_rfl) (by kernel_rfl) ?_)))
    simp -implicitDefEqProofs [go_sem, h, h2]
    refine ⟨_, flatSec, fits_secW _, fits_secW _, fun he => ?_, fun he => ?_⟩
    · refine Wp.s ?_
      simp -implicitDefEqProofs [go_sem]
      exact Fin.bool (by simp [ne_at h h2 (fun e => he (by rw [e]))]) hokH (by simp) (by simp)
    · refine Wp.s ?_
      simp -implicitDefEqProofs [go_sem]
      refine Wp.s ?_
      simp -implicitDefEqProofs [go_sem]
      refine ⟨i + 1, ⟨by omega, take_eq_succ h h2 hp (secC_inj he)⟩, by omega, Sh.forget ?_ rfl rfl⟩
      simp [go_sem, wrap_succ (show i ≤ 1000000000 by omega)]
  · rintro _ he
    dsimp only
    refine Wp.s ?_
    simp -implicitDefEqProofs [go_sem]
    exact Fin.bool (by simp [he]) hokH (by simp) (by simp)
theorem SameInts9_cc (H : Hp) (V : List Nat) (t1 t2 : Tk) (x y : List Int) (hl : x.length ≤ 1000000000) : CC Tryz.prog 52 [.sl t1 1 (x.map ic), .sl t2 1 (y.map ic)] H V (Pu (.v (.bool (decide (x = y)))) H V) := by
  refine CC.of_swp Tryz.func52 rfl (by kernel_rfl) (by rw [Tryz.ntmps52]; exact len_le _ _ rfl) fun hok hokH => ?_
  clear hok
  refine SWp.seq (Wp.s ?_)
  simp -implicitDefEqProofs [go_sem, args0]
  refine SWp.seq (SWp.seq (Wp.s ?_))
  by_cases hlen : x.length = y.length
  case neg =>
    have hlen' : ¬ (x.length : Int) = (y.length : Int) := by omega
    simp -implicitDefEqProofs [go_sem, hlen']
    refine Wp.s ?_
    simp -implicitDefEqProofs [go_sem, hlen, hlen']
    exact Fin.bool (by simp [show x ≠ y from fun e => hlen (by rw [e])]) hokH (by simp) (by simp)
  simp -implicitDefEqProofs [go_sem, hlen]
  refine Wp.s ?_
  simp -implicitDefEqProofs [go_sem, hlen]
  refine SWp.join (α := Unit) (fun _ => ([], H, V)) (fun _ => x = y) ?_ ?_
  · refine SWp.seq (Wp.s ?_)
    simp -implicitDefEqProofs [go_sem]
    refine SWp.block ?_
    refine SWp.loop (α := Nat) (fun i => ([(0, .sl t1 1 (x.map ic)), (1, .sl t2 1 (y.map ic)), (5, ci i)], H, V)) (fun i => i ≤ x.length ∧ x.take i = y.take i) (fun i => x.length - i) 0 ⟨Nat.zero_le _, rfl⟩ (Sh.forget (by simp [go_sem]) rfl rfl) ?_
    rintro i ⟨hi, hp⟩
    dsimp only
    refine SWp.seq (SWp.seq (Wp.s ?_))
    simp -implicitDefEqProofs [go_sem]
    refine Wp.s ?_
    simp -implicitDefEqProofs [go_sem]
    refine ⟨fun h => ?_, fun h => ⟨eq_of_take hlen h hp, Sh.forget (by simp [go_sem]) rfl rfl⟩⟩
    have h2 : i < y.length := by omega
    refine SWp.seq (SWp.block (SWp.seq (SWp.drawnT [] [] (.s 0 .pl <| .s 1 .pl <| .s 2 .pl <| .s 3 .pl <| .s 4 .pl <| .s 5 .pl <| .s 6 .pl <| .s 7 .pl <| .s 8 .pl <| .n) (by kernel_rfl) (by kernel_rfl) ?_)))
    by_cases he : x[i] = y[i]
    · simp -implicitDefEqProofs [go_sem, h, h2, he]
      refine Wp.s ?_
      simp -implicitDefEqProofs [go_sem]
      refine Wp.s ?_
      simp -implicitDefEqProofs [go_sem]
      refine ⟨i + 1, ⟨by omega, take_eq_succ h h2 hp he⟩, by omega, Sh.forget ?_ rfl rfl⟩
      simp [go_sem, wrap_succ (show i ≤ 1000000000 by omega)]
    · simp -implicitDefEqProofs [go_sem, h, h2, he]
      refine Wp.s ?_
      simp -implicitDefEqProofs [go_sem]
      exact Fin.bool (by simp [ne_at h h2 he]) hokH (by simp) (by simp)
  · rintro _ he
    dsimp only
    refine Wp.s ?_
    simp -implicitDefEqProofs [go_sem]
    exact Fin.bool (by simp [he]) hokH (by simp) (by simp)
theorem SameImg_cc (H : Hp) (V : List Nat) (t1 t2 : Tk) (x y : Img) (hl : x.length ≤ 1000000000) (hs : ∀ v ∈ x, v.length ≤ 1000000000) : CC Tryz.prog 27 [.sl t1 1 (x.map imE), .sl t2 1 (y.map imE)] H V (Pu (.v (.bool (decide (x = y)))) H V) := by
  refine CC.of_swp Tryz.func27 rfl (by kernel_rfl) (by rw [Tryz.ntmps27]; exact len_le _ _ rfl) fun hok hokH => ?_
  clear hok
  refine SWp.seq (Wp.s ?_)
  simp -implicitDefEqProofs [go_sem, args0]
  refine SWp.seq (SWp.seq (Wp.s ?_))
  by_cases hlen : x.length = y.length
  case neg =>
    have hlen' : ¬ (x.length : Int) = (y.length : Int) := by omega
    simp -implicitDefEqProofs [go_sem, hlen']
    refine Wp.s ?_
    simp -implicitDefEqProofs [go_sem, hlen, hlen']
    exact Fin.bool (by simp [show x ≠ y from fun e => hlen (by rw [e])]) hokH (by simp) (by simp)
  simp -implicitDefEqProofs [go_sem, hlen]
  refine Wp.s ?_
  simp -implicitDefEqProofs [go_sem, hlen]
  refine SWp.join (α := Unit) (fun _ => ([], H, V)) (fun _ => x = y) ?_ ?_
  · refine SWp.seq (Wp.s ?_)
    simp -implicitDefEqProofs [go_sem]
    refine SWp.block ?_
    refine SWp.loop (α := Nat) (fun i => ([(0, .sl t1 1 (x.map imE)), (1, .sl t2 1 (y.map imE)), (5, ci i)], H, V)) (fun i => i ≤ x.length ∧ x.take i = y.take i) (fun i => x.length - i) 0 ⟨Nat.zero_le _, rfl⟩ (Sh.forget (by simp [go_sem]) rfl rfl) ?_
    rintro i ⟨hi, hp⟩
    dsimp only
    refine SWp.seq (SWp.seq (Wp.s ?_))
    simp -implicitDefEqProofs [go_sem]
    refine Wp.s ?_
    simp -implicitDefEqProofs [go_sem]
    refine ⟨fun h => ?_, fun h => ⟨eq_of_take hlen h hp, Sh.forget (by simp [go_sem]) rfl rfl⟩⟩
    have h2 : i < y.length := by omega
    refine SWp.seq (SWp.block (SWp.seq (SWp.drawnT [] [] (.s 0 .pl <| .s 1 .pl <| .s 2 .pl <| .s 3 .pl <| .s 4 .pl <| .s 5 .pl <| .s 6 .pl <| .s 7 .pl <| .s 8 .pl <| .s 9 .pl <| .n) (by kernel_rfl) (by kernel_rfl) ?_)))
    simp -implicitDefEqProofs [go_sem, h, h2]
    refine CC.mono (SameVol_cc _ _ .sh .sh x[i] y[i] (hs _ (List.getElem_mem h))) ?_
    rintro _ _ _ ⟨rfl, rfl, rfl⟩
    by_cases he : x[i] = y[i]
    · simp -implicitDefEqProofs [go_sem, he]
      refine Wp.s ?_
      simp -implicitDefEqProofs [go_sem]
      refine Wp.s ?_
      simp -implicitDefEqProofs [go_sem]
      refine ⟨i + 1, ⟨by omega, take_eq_succ h h2 hp he⟩, by omega, Sh.forget ?_ rfl rfl⟩
      simp [go_sem, wrap_succ (show i ≤ 1000000000 by omega)]
    · simp -implicitDefEqProofs [go_sem, he]
      refine Wp.s ?_
      simp -implicitDefEqProofs [go_sem]
      exact Fin.bool (by simp [ne_at h h2 he]) hokH (by simp) (by simp)
  · rintro _ he
    dsimp only
    refine Wp.s ?_
    simp -implicitDefEqProofs [go_sem]
    exact Fin.bool (by simp [he]) hokH (by simp) (by simp)
set_option maxRecDepth 8000 in
theorem vSame_cc (H : Hp) (V : List Nat) (s : Sto) (hs : StS s) : CC Tryz.prog 16 [.agg (stoC s), .agg (stoC s)] H V (Pu (cb true) H V) := by
  refine CC.of_swp Tryz.func16 rfl (by kernel_rfl) (by rw [Tryz.ntmps16]; exact len_le _ _ rfl) fun hok hokH => ?_
  clear hok
  refine SWp.seq (Wp.s ?_)
  simp -implicitDefEqProofs [go_sem, args0]
  refine SWp.seq (Wp.s ?_)
  simp -implicitDefEqProofs [go_sem, stoC]
  refine CC.mono (SameInts9_cc _ _ .sh .sh s.sizes s.sizes hs.sl) ?_
  rintro _ _ _ ⟨rfl, rfl, rfl⟩
  simp -implicitDefEqProofs [go_sem]
  refine CC.mono (Same_cc _ _ s.jr hs.jl) ?_
  rintro _ _ _ ⟨rfl, rfl, rfl⟩
  simp -implicitDefEqProofs [go_sem]
  refine CC.mono (SameWrs_cc _ _ .sh .sh s.pend s.pend (by have := hs.pl; omega) hs.pd) ?_
  rintro _ _ _ ⟨rfl, rfl, rfl⟩
  simp -implicitDefEqProofs [go_sem]
  refine CC.mono (SameImg_cc _ _ .sh .sh s.img s.img (by have := hs.il; omega) (fun v hv => by have := hs.iv v hv; omega)) ?_
  rintro _ _ _ ⟨rfl, rfl, rfl⟩
  simp -implicitDefEqProofs [go_sem]
  refine Wp.s ?_
  simp -implicitDefEqProofs [go_sem]
  exact Fin.bool rfl hokH (by simp) (by simp)
end Go.Proofs.YtbnkggbpocaaiaaGreatDoor
namespace Go.Proofs.YtbnkggbpocaaiaaGreatDoor
open Go.Proofs
/-! ### The example of the chapter -/
def xS : Sec := ⟨[5, 6, 0, 0, 0, 0, 0, 0], rfl⟩
def aWb : Wr := ⟨1, 3, [xS]⟩
def aWg : Wr := ⟨1, 1, [xS]⟩
def vS0 : Sto := (fmtV [4, 2] 30).1
def vO0 : List Opn := (fmtV [4, 2] 30).2.1
def vD0 : Dk := (newR 36).1
def vD1 : Dk := (runR vD0 vO0).1
def vS1 : Sto := (writeV vS0 aWg).1
def vO1 : List Opn := (writeV vS0 aWg).2.2.1
def vD2 : Dk := (runR vD1 vO1).1
theorem vf0 : sizeV [4, 2] 30 = (36, 0) := by kernel_rfl
theorem vf1 : (fmtV [4, 2] 30).2.2 = 0 := by kernel_rfl
theorem vf2 : (newR 36).2 = 0 := by kernel_rfl
theorem vf3 : (runR vD0 vO0).2.2 = 0 := by kernel_rfl
theorem vf4 : (writeV vS0 aWb).2.2.2 = 2 := by kernel_rfl
theorem vf5 : (writeV vS0 aWg).2.2.2 = 0 := by kernel_rfl
theorem vf5n : (writeV vS0 aWg).2.1 = 1 := by kernel_rfl
theorem vf5s : vS1.jr.sizes = [5] := by kernel_rfl
theorem vf6 : (runR vD1 vO1).2.2 = 0 := by kernel_rfl
theorem vf7 : (flushV vD2 vS1).2.2 = 0 := by kernel_rfl
theorem vf7o : (flushV vD2 vS1).2.1 = opW 35 [xS] :: (flushV vD2 vS1).2.1.tail := by kernel_rfl
end Go.Proofs.YtbnkggbpocaaiaaGreatDoor
namespace Go.Proofs.YtbnkggbpocaaiaaGreatDoor
open Go.Proofs
def stSb (s : Sto) : Bool := Nat.ble s.sizes.length 1000 && Nat.ble s.jr.sizes.length 1000 && Nat.ble s.pend.length 1000 && s.pend.all (fun w => Nat.ble w.data.length 1000) && Nat.ble s.img.length 1000 && s.img.all (fun v => Nat.ble v.length 1000)
theorem stSb_S {s : Sto} (h : stSb s = true) : StS s := by
  simp only [stSb, Bool.and_eq_true, Nat.ble_eq, List.all_eq_true] at h
  obtain ⟨⟨⟨⟨⟨h1, h2⟩, h3⟩, h4⟩, h5⟩, h6⟩ := h
  exact ⟨by omega, by omega, by omega, fun w hw => by have := h4 w hw; omega, by omega, fun v hv => by have := h6 v hv; omega⟩
theorem vS0_S : StS vS0 := stSb_S (by kernel_rfl)
theorem vS1_S : StS vS1 := stSb_S (by kernel_rfl)
theorem vD0_l : vD0.stable.length ≤ 1000 := Nat.le_of_ble_eq_true (by kernel_rfl)
theorem vD0_c : vD0.cache.length + tot vO0 ≤ 1000 := Nat.le_of_ble_eq_true (by kernel_rfl)
theorem vO0_l : vO0.length ≤ 1000 := Nat.le_of_ble_eq_true (by kernel_rfl)
theorem vD1_l : vD1.stable.length ≤ 1000 := Nat.le_of_ble_eq_true (by kernel_rfl)
theorem vD1_c : vD1.cache.length + tot vO1 ≤ 1000 := Nat.le_of_ble_eq_true (by kernel_rfl)
theorem vO1_l : vO1.length ≤ 1000 := Nat.le_of_ble_eq_true (by kernel_rfl)
theorem vD2_l : vD2.stable.length ≤ 1000 := Nat.le_of_ble_eq_true (by kernel_rfl)
theorem vD2_c : vD2.cache.length ≤ 1000 := Nat.le_of_ble_eq_true (by kernel_rfl)
theorem stoC_6 (s : Sto) (h : 6 < (stoC s).length) : (stoC s)[6] = .sl .sh 1 (s.jr.sizes.map ic) := rfl
theorem xS_cells : [CV.v (.int .u8 5), .v (.int .u8 6), .v (.int .u8 0), .v (.int .u8 0), .v (.int .u8 0), .v (.int .u8 0), .v (.int .u8 0), .v (.int .u8 0)] = secC xS := rfl
theorem zsto_S : StS zsto := stSb_S (by kernel_rfl)
theorem fmtV_S (l : List Int) (n : Int) : StS (fmtV l n).1 := by
  unfold fmtV
  split
  · exact zsto_S
  · rename_i q
    obtain ⟨hE, h1, h2, -⟩ := sizeV_ok (l := l) (n := n) (by simpa using q)
    obtain ⟨s1, s2, s3⟩ := sizesE_0 hE
    refine ⟨by show l.length ≤ _; omega, ?_, by show ([] : List Wr).length ≤ _; simp, fun w hw => (by cases hw), by show (imOf l).length ≤ _; rw [imOf_len]; omega, fun v hv => ?_⟩
    · show (formatJ 0 n).1.sizes.length ≤ _
      unfold formatJ
      repeat' split
      all_goals simp [zjr]
    · obtain ⟨m, hm, rfl⟩ := List.mem_map.1 hv
      have := s3 m hm
      simp; omega
theorem fmtV_O (l : List Int) (n : Int) : (fmtV l n).2.1.length ≤ 1000 ∧ ∀ o ∈ (fmtV l n).2.1, o.data.length ≤ 900000000 := by
  unfold fmtV
  split
  · exact ⟨by simp, fun o ho => by cases ho⟩
  · rename_i q
    obtain ⟨hE, h1, h2, -⟩ := sizeV_ok (l := l) (n := n) (by simpa using q)
    have hsm := (SzOk.of hE).sum'
    have hl8 := (sizesE_0 hE).2.1
    have hva : validJ 0 n = true := (validJ_iff _ _).2 ⟨by omega, by omega, by omega, by omega⟩
    rw [formatJ_ok hva]
    refine ⟨by simp [fmtOps], fun o ho => ?_⟩
    simp only [fmtOps, List.mem_cons, List.not_mem_nil, or_false] at ho
    rcases ho with rfl | rfl | rfl | rfl | rfl | rfl | rfl | rfl
    all_goals first
      | (simp [opW, opS]; done)
      | (simp [opW, opS, copyS_len]; done)
      | (simp [opW, opS]; omega)
set_option maxRecDepth 8000 in
set_option maxHeartbeats 1600000 in
theorem vawake_cc (H : Hp) (V : List Nat)  : CC Tryz.prog 11 [] H V (Pu (cb true) H V) := by
  refine CC.of_swp Tryz.func11 rfl (by kernel_rfl) (by rw [Tryz.ntmps11]; exact len_le _ _ rfl) fun hok hokH => ?_
  clear hok
  refine SWp.seq (Wp.s ?_)
  simp -implicitDefEqProofs [go_sem, args0]
  refine SWp.seq (Wp.s ?_)
  simp -implicitDefEqProofs [go_sem]
  refine CC.le (ys := [.sl .sh 1 (([4, 2] : List Int).map ic), ci 30]) (.cons (.sh _ _ _) (.cons (.refl _) .nil)) ?_
  refine CC.mono (vSize_cc _ _ .sh [4, 2] 30 (by decide)) ?_
  rintro _ _ _ ⟨rfl, rfl, rfl⟩
  rw [vf0]
  simp -implicitDefEqProofs [go_sem]
  refine SWp.seq (Wp.s ?_)
  simp -implicitDefEqProofs [go_sem]
  refine CC.le (ys := [.sl .sh 1 (([4, 2] : List Int).map ic), ci 30]) (.cons (.sh _ _ _) (.cons (.refl _) .nil)) ?_
  refine CC.mono (vFormat_cc _ _ [4, 2] 30 (by decide)) ?_
  rintro _ _ _ ⟨rfl, rfl, rfl⟩
  rw [show fmtV [4, 2] 30 = (vS0, vO0, 0) from Prod.ext rfl (Prod.ext rfl vf1)]
  simp -implicitDefEqProofs [go_sem, flV]
  refine SWp.seq (Wp.s ?_)
  simp -implicitDefEqProofs [go_sem]
  refine CC.mono (sNew_cc _ _ 36) ?_
  rintro _ _ _ ⟨rfl, rfl, rfl⟩
  rw [show newR 36 = (vD0, 0) from Prod.ext rfl vf2]
  simp -implicitDefEqProofs [go_sem]
  refine SWp.seq (Wp.s ?_)
  simp -implicitDefEqProofs [go_sem]
  refine CC.mono (sRun_cc _ _ vD0 vO0 (by have := vD0_l; omega) (by have := vD0_c; omega) (by have := vO0_l; omega)) ?_
  rintro _ _ _ ⟨rfl, rfl, rfl⟩
  rw [show runR vD0 vO0 = (vD1, (runR vD0 vO0).2.1, 0) from Prod.ext rfl (Prod.ext rfl vf3)]
  simp -implicitDefEqProofs [go_sem, runV]
  refine SWp.seq (SWp.seq (Wp.s ?_))
  have w0 : IntKind.i64.wrap 0 = 0 := rfl
  simp -implicitDefEqProofs [go_sem, w0]
  refine Wp.s ?_
  simp -implicitDefEqProofs [go_sem]
  refine SWp.seq (Wp.s ?_)
  simp -implicitDefEqProofs [go_sem, xS_cells]
  refine SWp.seq (Wp.s ?_)
  simp -implicitDefEqProofs [go_sem]
  refine CC.le (ys := [.agg (stoC vS0), .agg (wrC aWb)]) (.cons (.refl _) (.cons (.agg (.cons (.refl _) (.cons (.refl _) (.cons (.sh _ _ _) .nil)))) .nil)) ?_
  refine CC.mono (vWrite_cc _ _ vS0 aWb vS0_S (by decide)) ?_
  rintro _ _ _ ⟨rfl, rfl, rfl⟩
  simp -implicitDefEqProofs [go_sem, wtV, vf4]
  refine SWp.seq (Wp.s ?_)
  simp -implicitDefEqProofs [go_sem]
  refine CC.le (ys := [.agg (stoC vS0), .agg (wrC aWg)]) (.cons (.refl _) (.cons (.agg (.cons (.refl _) (.cons (.refl _) (.cons (.sh _ _ _) .nil)))) .nil)) ?_
  refine CC.mono (vWrite_cc _ _ vS0 aWg vS0_S (by decide)) ?_
  rintro _ _ _ ⟨rfl, rfl, rfl⟩
  rw [show writeV vS0 aWg = (vS1, 1, vO1, 0) from Prod.ext rfl (Prod.ext vf5n (Prod.ext rfl vf5))]
  simp -implicitDefEqProofs [go_sem, wtV]
  refine SWp.seq (Wp.s ?_)
  simp -implicitDefEqProofs [go_sem]
  refine CC.mono (sRun_cc _ _ vD1 vO1 (by have := vD1_l; omega) (by have := vD1_c; omega) (by have := vO1_l; omega)) ?_
  rintro _ _ _ ⟨rfl, rfl, rfl⟩
  rw [show runR vD1 vO1 = (vD2, (runR vD1 vO1).2.1, 0) from Prod.ext rfl (Prod.ext rfl vf6)]
  simp -implicitDefEqProofs [go_sem, runV]
  refine SWp.seq (SWp.seq (Wp.s ?_))
  simp -implicitDefEqProofs [go_sem, stoC_6, vf5s]
  refine Wp.s ?_
  simp -implicitDefEqProofs [go_sem]
  refine SWp.seq (Wp.s ?_)
  simp -implicitDefEqProofs [go_sem]
  refine CC.mono (vFlush_cc _ _ vD2 vS1 ⟨by have := vD2_l; omega, by have := vD2_c; omega⟩ vS1_S) ?_
  rintro _ _ _ ⟨rfl, rfl, rfl⟩
  rw [show flushV vD2 vS1 = ((flushV vD2 vS1).1, opW 35 [xS] :: (flushV vD2 vS1).2.1.tail, 0) from Prod.ext rfl (Prod.ext vf7o vf7)]
  simp -implicitDefEqProofs [go_sem, flV]
  generalize (flushV vD2 vS1).2.1.tail = B
  have hlt : (0 : Int) < (B.length : Int) + 1 := by omega
  refine SWp.seq (SWp.drawnT [] [] (.s 0 .pl <| .s 1 .pl <| .s 2 .pl <| .s 3 .pl <| .s 4 .pl <| .s 5 .pl <| .s 6 .pl <| .s 7 .pl <| .s 8 .pl <| .s 9 .pl <| .s 10 .pl <| .s 11 .pl <| .s 12 .pl <| .s 13 .pl <| .s 14 .pl <| .s 15 .pl <| .s 16 .pl <| .s 17 .pl <| .s 18 .pl <| .s 19 .pl <| .s 20 .pl <| .s 21 .pl <| .s 22 .pl <| .s 23 .pl <| .n) (by kernel_rfl) (by kernel_rfl) ?_)
  simp -implicitDefEqProofs [go_sem, opW, hlt]
  refine CC.le (ys := [.sl .sh 8 ([xS].map secC), .sl .ti 8 ([xS].map secC)]) (.cons (.refl _) (.cons (.refl _) .nil)) ?_
  refine CC.mono (SameSec13_cc _ _ .sh .ti [xS] [xS] (by decide)) ?_
  rintro _ _ _ ⟨rfl, rfl, rfl⟩
  simp -implicitDefEqProofs [go_sem]
  refine Wp.s ?_
  simp -implicitDefEqProofs [go_sem]
  exact Fin.bool rfl hokH (by simp) (by simp)
set_option maxRecDepth 8000 in
theorem VFormats_law (H : Hp) (V : List Nat) (l : List Int) (n : Int) (hl : l.length ≤ 9223372036854775807) : CC Tryz.prog 3 [.sl .sh 1 (l.map ic), ci n] H V (Pu (cb true) H V) := by
  refine CC.of_swp Tryz.func3 rfl (by kernel_rfl) (by rw [Tryz.ntmps3]; exact len_le _ _ rfl) fun hok hokH => ?_
  clear hok
  refine SWp.seq (Wp.s ?_)
  simp -implicitDefEqProofs [go_sem, args0]
  refine SWp.seq (SWp.seq (Wp.s ?_))
  by_cases h20 : 20 < l.length
  · have h20' : 20 < (l.length : Int) := by omega
    simp -implicitDefEqProofs [go_sem, h20']
    refine Wp.s ?_
    simp -implicitDefEqProofs [go_sem]
    refine CC.mono (vawake_cc _ _) ?_
    rintro _ _ _ ⟨rfl, rfl, rfl⟩
    simp -implicitDefEqProofs [go_sem]
    exact Fin.bool rfl hokH (by simp) (by simp)
  have h20' : ¬ 20 < (l.length : Int) := by omega
  simp -implicitDefEqProofs [go_sem, h20']
  refine Wp.s ?_
  simp -implicitDefEqProofs [go_sem]
  refine SWp.seq (Wp.s ?_)
  simp -implicitDefEqProofs [go_sem]
  refine CC.mono (vSize_cc _ _ .sh l n hl) ?_
  rintro _ _ _ ⟨rfl, rfl, rfl⟩
  simp -implicitDefEqProofs [go_sem]
  refine SWp.seq (Wp.s ?_)
  simp -implicitDefEqProofs [go_sem]
  refine CC.mono (rSize_cc _ _ .sh l n hl) ?_
  rintro _ _ _ ⟨rfl, rfl, rfl⟩
  simp -implicitDefEqProofs [go_sem]
  refine SWp.seq (SWp.seq (Wp.s ?_))
  simp -implicitDefEqProofs [go_sem]
  refine Wp.s ?_
  simp -implicitDefEqProofs [go_sem]
  refine SWp.seq (Wp.s ?_)
  simp -implicitDefEqProofs [go_sem]
  refine CC.mono (vFormat_cc _ _ l n hl) ?_
  rintro _ _ _ ⟨rfl, rfl, rfl⟩
  simp -implicitDefEqProofs [go_sem, flV]
  refine SWp.seq (Wp.s ?_)
  simp -implicitDefEqProofs [go_sem]
  refine CC.mono (rvFormat_cc _ _ l n hl) ?_
  rintro _ _ _ ⟨rfl, rfl, rfl⟩
  simp -implicitDefEqProofs [go_sem, flV]
  have hS := fmtV_S l n
  have hO := fmtV_O l n
  generalize fmtV l n = x at hS hO ⊢
  obtain ⟨s, A, e⟩ := x
  dsimp only at hS hO ⊢
  refine SWp.seq (Wp.s ?_)
  simp -implicitDefEqProofs [go_sem]
  refine CC.mono (vawake_cc _ _) ?_
  rintro _ _ _ ⟨rfl, rfl, rfl⟩
  simp -implicitDefEqProofs [go_sem]
  refine CC.mono (vSame_cc _ _ s hS) ?_
  rintro _ _ _ ⟨rfl, rfl, rfl⟩
  simp -implicitDefEqProofs [go_sem]
  refine CC.mono (sSameOps_cc _ _ .sh .sh A (by omega) (fun o ho => hO.2 o ho)) ?_
  rintro _ _ _ ⟨rfl, rfl, rfl⟩
  simp -implicitDefEqProofs [go_sem]
  refine Wp.s ?_
  simp -implicitDefEqProofs [go_sem]
  exact Fin.bool rfl hokH (by simp) (by simp)
end Go.Proofs.YtbnkggbpocaaiaaGreatDoor
namespace Go.Proofs.YtbnkggbpocaaiaaGreatDoor
open Go.RowKit

/-- The ghost state at the beginning of a call: all blocks are fixed; no boxes, no tokens. -/
def gh0 (w : World) : Gh where
  lim k := match w.heap[k]? with
    | some (.cells c _ _) => c.size
    | _ => 0
  box := []
  tip := []

theorem gh0_inv (w : World) : Inv (gh0 w) w [] [] where
  boxlen := rfl
  tiplen := rfl
  limv k h := by
    simp only [gh0] at h ⊢
    split at h
    · rename_i c e fr hc
      exact ⟨c, e, fr, hc, by simp⟩
    · omega
  tips := by intro t k h; simp [gh0] at h
  boxes := by intro b k h; simp [gh0] at h
  uniq := by intro b b' k cs cs' h; simp at h
  live := by intro b cs h; simp at h

theorem gh0_lim {w : World} {k o : Nat} {u : Value} (h : w.cell? ⟨k, o, none⟩ = some u) : o < (gh0 w).lim k := by
  simp only [World.cell?] at h
  simp only [gh0]
  split at h
  · rename_i c e fr hc
    simp only [hc]
    simp at h
    obtain ⟨h, _⟩ := Array.getElem?_eq_some_iff.1 h
    exact h
  · cases h

/-- What a law gives: true, and below nothing is changed. -/
theorem law_calls {P : Program} {f : FuncId} {args : Array Value} {W : World} {cs : List CV} {R : CV → Hp → List Nat → Prop} (hrel : RelL (gh0 W) W [] cs args.toList) (h : CC P f cs [] [] R)
    (hR : ∀ r H V, R r H V → r = .v (.bool true)) : Calls P f args W fun e W' => e = .returned (.bool true) ∧ Below W.heap.size W W' := by
  have := h.2 (gh0 W) W args.toList (gh0_inv W) hrel
  rw [Array.toArray_toList] at this
  refine this.mono ?_
  rintro e w' ⟨u, m', r, H', V', rfl, hr, _, hu, hx⟩
  obtain rfl := hR _ _ _ hr
  rw [RelV] at hu
  subst hu
  exact ⟨rfl, hx.os, hx.tape, hx.output, hx.size, fun k hk => hx.same k hk (by simp [gh0]) (by simp [gh0])⟩

/-- The cells of a value of type t that came in: S holds of their contents. -/
def Opens (P : Program) (t : TypeId) (S : List CV → Prop) : Prop :=
  ∀ (H : Type) (enc : TypeId × Value → H) (w : World) (base : Nat) (spare : Nat → Bool) (held : Bool) (fuel : Nat) (us : List Value) (x : DataW H × List MemPlace),
    DataW.trod enc P w base spare held fuel t us = some x → ∃ cs, S cs ∧ RelL (gh0 w) w [] cs us ∧ ∀ u ∈ us, u.oneCell' = true

theorem relL_one {m : Gh} {w : World} {V : List Nat} {c : CV} {u : Value} (h : RelV m w V c u) : RelL m w V [c] [u] := by
  rw [RelL]; exact ⟨u, [], rfl, h, by rw [RelL]⟩

theorem relL_one' {m : Gh} {w : World} {V : List Nat} {c : CV} {u : Value} (h : RelL m w V [c] [u]) : RelV m w V c u := by
  rw [RelL] at h; obtain ⟨_, _, h1, h2, _⟩ := h; cases h1; exact h2

theorem relL_nil {m : Gh} {w : World} {V : List Nat} : RelL m w V [] [] := by rw [RelL]
theorem relL_mk2 {m : Gh} {w : World} {V : List Nat} {c : CV} {u : Value} {cs : List CV} {us : List Value} (h : RelV m w V c u) (h2 : RelL m w V cs us) : RelL m w V (c :: cs) (u :: us) := by
  rw [RelL]; exact ⟨u, us, rfl, h, h2⟩
variable {P : Program} {t e : TypeId}
theorem Opens.int {k : IntKind} (ht : P.underlying t = some (.int k)) : Opens P t fun cs => ∃ n, cs = [.v (.int k n)] ∧ (Lit.int k n).wf = true := by
  intro H enc w base spare held fuel us x h
  obtain ⟨n, rfl, _, hw⟩ := DataW.trod_int ht h
  exact ⟨_, ⟨n, rfl, hw⟩, relL_one (by rw [RelV]), by simp [Value.oneCell']⟩

theorem Opens.bool (ht : P.underlying t = some .bool) : Opens P t fun cs => ∃ b, cs = [.v (.bool b)] := by
  intro H enc w base spare held fuel us x h
  obtain ⟨n, rfl, _⟩ := DataW.trod_bool ht h
  exact ⟨_, ⟨n, rfl⟩, relL_one (by rw [RelV]), by simp [Value.oneCell']⟩

theorem Opens.string (ht : P.underlying t = some .string) : Opens P t fun cs => ∃ s : ByteArray, cs = [.v (.string s)] ∧ s.size ≤ maxLen := by
  intro H enc w base spare held fuel us x h
  obtain ⟨n, rfl, _, hs⟩ := DataW.trod_string ht h
  exact ⟨_, ⟨n, rfl, hs⟩, relL_one (by rw [RelV]), by simp [Value.oneCell']⟩

theorem cells_get {w : World} {base : Nat} {a : Addr} {n : Nat} {us : List Value} (h : w.cells? base a n = some us) : us.length = n ∧ ∀ j, j < n → w.cell? (a.add j) = us[j]? := by
  unfold World.cells? at h
  split at h
  · exact ⟨by simpa using mapM_some_length h, fun j hj => mapM_some_get h j j (by simp [hj])⟩
  · cases h

theorem add_none {a : Addr} (ha : a.spot = none) (i : Nat) : a.add i = ⟨a.block, a.off + i, none⟩ := by
  cases a with
  | mk b o s =>
    simp only at ha
    subst ha
    unfold Addr.add
    split <;> simp_all

theorem Opens.slice {sz : Nat} {S : List CV → Prop} (ht : P.underlying t = some (.slice e)) (hs : P.cellsOf e = sz) (h0 : 0 < sz) (he : Opens P e S) :
    Opens P t fun cs => ∃ xs, cs = [.sl .sh sz xs] ∧ xs.length ≤ maxLen ∧ ∀ x ∈ xs, S x := by
  intro H enc w base spare held fuel us x h
  rcases DataW.trod_slice ht h with ⟨rfl, _⟩ | ⟨a, len, cap, elems, rest, n, _, rfl, rfl, hb, hl, hm, hlen, hel, hsp, hns⟩
  · refine ⟨_, ⟨[], rfl, by simp, by simp⟩, relL_one ?_, by simp [Value.oneCell']⟩
    rw [RelV]
    exact ⟨none, 0, rfl, by simp, trivial, h0, .inl rfl⟩
  · have key : ∀ i, i < len → ∃ (cs : List CV) (vs : List Value), S cs ∧ RelL (gh0 w) w [] cs vs ∧ (∀ u ∈ vs, u.oneCell' = true) ∧ vs.length = sz ∧ ∀ j, j < sz → w.cell? ((a.add (i * sz)).add j) = vs[j]? := by
      intro i hi
      have h1 := hel i hi
      rw [List.getElem?_eq_getElem (by omega)] at h1
      obtain ⟨vs, h2, h3⟩ := Option.bind_eq_some_iff.1 h1
      obtain ⟨cs, h4, h5, h6⟩ := he _ enc w base spare held n vs _ h3
      rw [hs] at h2
      obtain ⟨h7, h8⟩ := cells_get h2
      exact ⟨cs, vs, h4, h5, h6, h7, h8⟩
    by_cases hz : len = 0
    · subst hz
      refine ⟨_, ⟨[], rfl, by simp, by simp⟩, relL_one ?_, by simp [Value.oneCell']⟩
      rw [RelV]
      exact ⟨some a, cap, rfl, by simp, trivial, h0, .inl rfl⟩
    · have hsp : a.spot = none := by
        obtain ⟨cs, vs, _, _, _, h7, h8⟩ := key 0 (by omega)
        have h9 := h8 0 h0
        rw [List.getElem?_eq_getElem (by omega)] at h9
        have : (a.add (0 * sz)).add 0 = a := by simp [Addr.add]
        rw [this] at h9
        simp only [World.cell?] at h9
        split at h9
        · split at h9
          · cases h9
          · rename_i h; simpa using h
        · cases h9
      let g : Nat → List CV := fun i => if h : i < len then Classical.choose (key i h) else []
      have hg : ∀ i (h : i < len), ∃ (vs : List Value), S (g i) ∧ RelL (gh0 w) w [] (g i) vs ∧ (∀ u ∈ vs, u.oneCell' = true) ∧ vs.length = sz ∧ ∀ j, j < sz → w.cell? ((a.add (i * sz)).add j) = vs[j]? := by
        intro i h
        have := Classical.choose_spec (key i h)
        simp only [g, h, dif_pos]
        exact this
      have cell : ∀ i j, i < len → j < sz → ∃ u, w.cell? ⟨a.block, a.off + i * sz + j, none⟩ = some u := by
        intro i j hi hj
        obtain ⟨vs, _, _, _, h7, h8⟩ := hg i hi
        have h9 := h8 j hj
        rw [List.getElem?_eq_getElem (by omega), add_none hsp, add_none rfl] at h9
        exact ⟨_, h9⟩
      refine ⟨_, ⟨(List.range len).map g, rfl, by simp; omega, ?_⟩, relL_one ?_, by simp [Value.oneCell']⟩
      · intro x hx
        obtain ⟨i, hi, rfl⟩ := List.mem_map.1 hx
        obtain ⟨_, h4, _⟩ := hg i (by simpa using hi)
        exact h4
      · rw [RelV]
        refine ⟨some a, cap, by simp, by simp; omega, trivial, h0, .inr ⟨a.block, a.off, by cases a; simp_all, ?_, relE_mk fun j c hc => ?_⟩⟩
        · obtain ⟨u, hu⟩ := cell (len - 1) (sz - 1) (by omega) (by omega)
          have := gh0_lim hu
          simp only [List.length_map, List.length_range]
          have h1 : len * sz = (len - 1) * sz + sz := by
            rw [← Nat.succ_mul]; congr 1; omega
          omega
        · simp only [List.getElem?_map, Option.map_eq_some_iff] at hc
          obtain ⟨i, hi, rfl⟩ := hc
          obtain ⟨hi', hi⟩ := List.getElem?_eq_some_iff.1 hi
          simp at hi hi'
          subst hi
          obtain ⟨vs, h4, h5, h6, h7, h8⟩ := hg j hi'
          have hl := relL_length h5
          refine ⟨by omega, relC_mk fun q c hc => ?_⟩
          obtain ⟨u, hu, hv⟩ := relL_get h5 q c hc
          have hq : q < sz := by
            have := (List.getElem?_eq_some_iff.1 hc).1
            omega
          have h9 := h8 q hq
          rw [hu, add_none hsp, add_none rfl] at h9
          exact ⟨u, h9, hv, h6 u (List.mem_of_getElem? hu)⟩

/-- Fields, from cell o on, of a struct of N cells. -/
def OpensF (P : Program) (N : Nat) (fs : List Field) (o : Nat) (S : List CV → Prop) : Prop :=
  ∀ (H : Type) (enc : TypeId × Value → H) (w : World) (base : Nat) (spare : Nat → Bool) (held : Bool) (fuel : Nat) (us : List Value), us.length = N →
    (∀ f ∈ fs, ∃ x, DataW.trod enc P w base spare held fuel f.type ((us.drop f.offset).take (P.cellsOf f.type)) = some x) →
    ∃ cs, S cs ∧ RelL (gh0 w) w [] cs (us.drop o) ∧ ∀ u ∈ us.drop o, u.oneCell' = true

theorem OpensF.nil {N : Nat} : OpensF P N [] N fun cs => cs = [] := by
  intro H enc w base spare held fuel us hl h
  subst hl
  exact ⟨_, rfl, by rw [List.drop_length, RelL], by simp⟩

theorem OpensF.cons {N : Nat} {f : Field} {fs : List Field} {o n : Nat} {S S' : List CV → Prop} (ho : f.offset = o) (hn : P.cellsOf f.type = n) (h1 : Opens P f.type S) (h2 : OpensF P N fs (o + n) S') :
    OpensF P N (f :: fs) o fun cs => ∃ a b, cs = a ++ b ∧ S a ∧ S' b := by
  intro H enc w base spare held fuel us hl h
  obtain ⟨x, hx⟩ := h f (by simp)
  rw [ho, hn] at hx
  obtain ⟨a, ha, ra, oa⟩ := h1 _ enc w base spare held fuel _ _ hx
  obtain ⟨b, hb, rb, ob⟩ := h2 _ enc w base spare held fuel us hl fun g hg => h g (List.mem_cons_of_mem _ hg)
  have hd : us.drop o = (us.drop o).take n ++ us.drop (o + n) := by
    rw [← List.drop_drop, List.take_append_drop]
  refine ⟨_, ⟨a, b, rfl, ha, hb⟩, ?_, ?_⟩
  · rw [hd]; exact relL_append ra rb
  · rw [hd]
    intro u hu
    rcases List.mem_append.1 hu with h | h
    · exact oa u h
    · exact ob u h

theorem Opens.struct {fs : Array Field} {S : List CV → Prop} (ht : P.underlying t = some (.struct fs)) {N : Nat} (hN : P.cellsOf t = N) (h : OpensF P N fs.toList 0 S) : Opens P t S := by
  intro H enc w base spare held fuel us x hx
  obtain ⟨xs, n, _, _, hl, hl2, hf⟩ := DataW.trod_struct ht hx
  obtain ⟨cs, h1, h2, h3⟩ := h _ enc w base spare held n us (by omega) (by
    intro f hf'
    obtain ⟨i, hi⟩ := List.getElem?_of_mem hf'
    have := hf i f (by simpa using hi)
    have hi' : i < fs.size := by
      have := (List.getElem?_eq_some_iff.1 hi).1
      simpa using this
    rw [this, List.getElem?_eq_getElem (by omega)]
    exact ⟨_, rfl⟩)
  exact ⟨cs, h1, by simpa using h2, by simpa using h3⟩

theorem Opens.array {n sz : Nat} {S : List CV → Prop} (ht : P.underlying t = some (.array n e)) (hs : P.cellsOf e = sz) (hN : P.cellsOf t = n * sz) (he : Opens P e S) :
    Opens P t fun cs => ∃ xs : List (List CV), cs = xs.flatten ∧ xs.length = n ∧ ∀ x ∈ xs, S x := by
  intro H enc w base spare held fuel us x hx
  obtain ⟨xs, m, _, _, hl, hl2, hf⟩ := DataW.trod_array ht hx
  rw [hN] at hl
  rw [hs] at hf
  have key : ∀ q, q ≤ n → ∃ ys : List (List CV), ys.length = q ∧ (∀ x ∈ ys, S x) ∧ RelL (gh0 w) w [] ys.flatten (us.drop ((n - q) * sz)) ∧ ∀ u ∈ us.drop ((n - q) * sz), u.oneCell' = true := by
    intro q
    induction q with
    | zero =>
      intro _
      refine ⟨[], rfl, by simp, ?_, ?_⟩
      · rw [Nat.sub_zero, List.drop_of_length_le (by omega), List.flatten_nil, RelL]
      · rw [Nat.sub_zero, List.drop_of_length_le (by omega)]; simp
    | succ q ih =>
      intro hq
      obtain ⟨ys, h1, h2, h3, h4⟩ := ih (by omega)
      have hx := hf (n - (q + 1)) (by omega)
      rw [List.getElem?_eq_getElem (by omega)] at hx
      obtain ⟨a, ha, ra, oa⟩ := he _ enc w base spare held m _ _ hx
      have hd : us.drop ((n - (q + 1)) * sz) = (us.drop ((n - (q + 1)) * sz)).take sz ++ us.drop ((n - q) * sz) := by
        have : (n - q) * sz = (n - (q + 1)) * sz + sz := by
          rw [← Nat.succ_mul]; congr 1; omega
        rw [this, ← List.drop_drop, List.take_append_drop]
      refine ⟨a :: ys, by simp [h1], by simpa using ⟨ha, h2⟩, ?_, ?_⟩
      · rw [hd, List.flatten_cons]; exact relL_append ra h3
      · rw [hd]
        intro u hu
        rcases List.mem_append.1 hu with h | h
        · exact oa u h
        · exact h4 u h
  obtain ⟨ys, h1, h2, h3, h4⟩ := key n (Nat.le_refl _)
  rw [Nat.sub_self, Nat.zero_mul, List.drop_zero] at h3 h4
  exact ⟨_, ⟨ys, rfl, h1, h2⟩, h3, h4⟩

theorem Opens.mono {S S' : List CV → Prop} (h : Opens P t S) (hs : ∀ cs, S cs → S' cs) : Opens P t S' := by
  intro H enc w base spare held fuel us x hx
  obtain ⟨cs, h1, h2, h3⟩ := h _ enc w base spare held fuel us x hx
  exact ⟨cs, hs cs h1, h2, h3⟩

variable {H : Type} {enc : TypeId × Value → H} {w : World} {base : Nat} {spare : Nat → Bool} {held : Bool}
/-- An argument of one cell. -/
theorem Opens.arg {S : List CV → Prop} (h : Opens P t S) {v : Value} {d : DataW H} {p : List MemPlace} (hv : v.cells.toList = [v]) (hd : DataW.Trod enc P w base spare held t v d p) :
    ∃ c, S [c] ∧ RelV (gh0 w) w [] c v := by
  obtain ⟨fuel, hf⟩ := hd
  rw [hv] at hf
  obtain ⟨cs, h1, h2, _⟩ := h _ enc w base spare held fuel _ _ hf
  have := relL_length h2
  match cs, this with
  | [c], _ => exact ⟨c, h1, relL_one' h2⟩
/-- A struct or an array. -/
theorem Opens.args {S : List CV → Prop} (h : Opens P t S) {us : Array Value} {d : DataW H} {p : List MemPlace} (hd : DataW.Trod enc P w base spare held t (.agg us) d p) :
    ∃ cs, S cs ∧ RelV (gh0 w) w [] (.agg cs) (.agg us) := by
  obtain ⟨fuel, hf⟩ := hd
  obtain ⟨cs, h1, h2, _⟩ := h _ enc w base spare held fuel _ _ hf
  refine ⟨cs, h1, ?_⟩
  rw [RelV]
  refine ⟨us.toList, by simp, ?_⟩
  simpa [Value.cells] using h2

/-- All arguments read as they did. -/
theorem trodAll_below (hl : laidOutB P = true) {W W' : World} (hb : Below W.heap.size W W') : ∀ {ts : List TypeId} {vs : List Value} {ds : List (DataW H)} {p : List MemPlace},
    (ts.all fun t => P.readableRec t && decide (t < P.types.size)) = true → DataW.TrodAll enc P W 0 (fun _ => true) true ts vs ds p → DataW.TrodAll enc P W' 0 (fun b => decide (b < W.heap.size)) true ts vs ds p
  | [], [], [], p, _, h => h
  | t :: ts, v :: vs, d :: ds, p, ht, h => by
    obtain ⟨p, q, h1, h2, rfl⟩ := h
    simp only [List.all_cons, Bool.and_eq_true, decide_eq_true_eq] at ht
    refine ⟨p, q, Below.trod hl ht.1.1 ht.1.2 h1 hb ?_, trodAll_below hl hb ht.2 h2, rfl⟩
    obtain ⟨m, hm⟩ := h1
    exact DataW.trod_lt m _ _ _ hm
  | [], [], _ :: _, _, _, h => h.elim
  | [], _ :: _, _, _, _, h => h.elim
  | _ :: _, [], _, _, _, h => h.elim
  | _ :: _, _ :: _, [], _, _, h => h.elim
end Go.Proofs.YtbnkggbpocaaiaaGreatDoor
namespace Go.Proofs.YtbnkggbpocaaiaaGreatDoor
open Go.Proofs
theorem exMapF {α : Type} {f : α → List CV} : ∀ {xs : List (List CV)}, (∀ x ∈ xs, ∃ a, x = f a) → ∃ ys : List α, xs = ys.map f
  | [], _ => ⟨[], rfl⟩
  | x :: xs, h => by
    obtain ⟨a, rfl⟩ := h x (by simp)
    obtain ⟨ys, rfl⟩ := exMapF fun y hy => h y (List.mem_cons_of_mem _ hy)
    exact ⟨a :: ys, rfl⟩
theorem opens_int : Opens Tryz.prog 3 fun cs => ∃ n, cs = ic n :=
  (Opens.int Tryz.underlying3).mono fun _ ⟨n, h, _⟩ => ⟨n, h⟩
theorem opens_u8 : Opens Tryz.prog 5 fun cs => ∃ b, cs = u8 b :=
  (Opens.int Tryz.underlying5).mono fun _ ⟨n, h, hw⟩ => ⟨byt n, by
    simp only [Lit.wf, Bool.and_eq_true, decide_eq_true_eq] at hw
    have h1 : 0 ≤ n := hw.1
    have h2 : n ≤ 255 := hw.2
    rw [h, u8, byt_toNat, Int.emod_eq_of_lt h1 (by omega)]⟩
theorem opens_sl {t e sz : Nat} {α : Type} {f : α → List CV} (ht : Tryz.prog.underlying t = some (.slice e)) (hs : Tryz.prog.cellsOf e = sz) (h0 : 0 < sz) (he : Opens Tryz.prog e fun cs => ∃ a, cs = f a) :
    Opens Tryz.prog t fun cs => ∃ l : List α, cs = [.sl .sh sz (l.map f)] ∧ l.length ≤ maxLen :=
  (Opens.slice ht hs h0 he).mono fun _ ⟨xs, h, hl, hx⟩ => by
    obtain ⟨ys, rfl⟩ := exMapF hx
    exact ⟨ys, h, by simpa using hl⟩
theorem opens_ints : Opens Tryz.prog 22 fun cs => ∃ l : List Int, cs = [.sl .sh 1 (l.map ic)] ∧ l.length ≤ 9223372036854775807 := (opens_sl Tryz.underlying22 (by kernel_rfl) (by decide) opens_int).mono fun _ ⟨l, h, hl⟩ => ⟨l, h, Nat.le_trans hl (by decide)⟩
theorem flat_u8' : ∀ l : List UInt8, (l.map u8).flatten = l.map fun b => CV.v (.int .u8 (b.toNat : Int))
  | [] => rfl
  | b :: l => by rw [List.map_cons, List.flatten_cons]; exact congrArg (_ :: ·) (flat_u8' l)
theorem opens_sec : Opens Tryz.prog 85 fun cs => ∃ s : Sec, cs = secC s :=
  (Opens.array (sz := 1) Tryz.underlying85 (by kernel_rfl) (by kernel_rfl) opens_u8).mono fun cs ⟨xs, h, hl, hx⟩ => by
    obtain ⟨l, rfl⟩ := exMapF hx
    refine ⟨⟨l, by simpa using hl⟩, ?_⟩
    rw [h]; exact flat_u8' l
theorem opens_secs : Opens Tryz.prog 46 fun cs => ∃ l : List Sec, cs = [.sl .sh 8 (l.map secC)] ∧ l.length ≤ maxLen := opens_sl Tryz.underlying46 (by kernel_rfl) (by decide) opens_sec
theorem opens_im : Opens Tryz.prog 46 fun cs => ∃ l : List Sec, cs = imE l := opens_secs.mono fun _ ⟨l, h, _⟩ => ⟨l, h⟩
theorem opens_img : Opens Tryz.prog 35 fun cs => ∃ l : Img, cs = [.sl .sh 1 (l.map imE)] ∧ l.length ≤ maxLen := opens_sl Tryz.underlying35 (by kernel_rfl) (by decide) opens_im
theorem opens_wr : Opens Tryz.prog 48 fun cs => ∃ x, cs = wrC x :=
  (Opens.struct Tryz.underlying48 (N := 3) (by kernel_rfl) (.cons rfl (n := 1) (by kernel_rfl) opens_int (.cons rfl (n := 1) (by kernel_rfl) opens_int (.cons rfl (n := 1) (by kernel_rfl) opens_secs .nil)))).mono fun cs h => by
    obtain ⟨_, _, rfl, ⟨a, rfl⟩, _, _, rfl, ⟨b, rfl⟩, _, _, rfl, ⟨c, rfl, _⟩, rfl⟩ := h
    exact ⟨⟨a, b, c⟩, rfl⟩
theorem opens_wrs : Opens Tryz.prog 33 fun cs => ∃ l : List Wr, cs = [.sl .sh 3 (l.map wrC)] ∧ l.length ≤ maxLen := opens_sl Tryz.underlying33 (by kernel_rfl) (by decide) opens_wr
theorem opens_rgn : Opens Tryz.prog 30 fun cs => ∃ a b : Int, cs = [ci a, ci b] :=
  (Opens.struct Tryz.underlying30 (N := 2) (by kernel_rfl) (.cons rfl (n := 1) (by kernel_rfl) opens_int (.cons rfl (n := 1) (by kernel_rfl) opens_int .nil))).mono fun cs h => by
    obtain ⟨_, _, rfl, ⟨a, rfl⟩, _, _, rfl, ⟨b, rfl⟩, rfl⟩ := h
    exact ⟨a, b, rfl⟩
theorem opens_jrn : Opens Tryz.prog 32 fun cs => ∃ x, cs = jrC x :=
  (Opens.struct Tryz.underlying32 (N := 6) (by kernel_rfl) (.cons rfl (n := 2) (by kernel_rfl) opens_rgn (.cons rfl (n := 1) (by kernel_rfl) opens_int (.cons rfl (n := 1) (by kernel_rfl) opens_int (.cons rfl (n := 1) (by kernel_rfl) opens_int (.cons rfl (n := 1) (by kernel_rfl) opens_ints .nil)))))).mono fun cs h => by
    obtain ⟨_, _, rfl, ⟨a, b, rfl⟩, _, _, rfl, ⟨c, rfl⟩, _, _, rfl, ⟨d, rfl⟩, _, _, rfl, ⟨e, rfl⟩, _, _, rfl, ⟨f, rfl, _⟩, rfl⟩ := h
    exact ⟨⟨a, b, c, d, e, f⟩, rfl⟩
theorem opens_sto : Opens Tryz.prog 37 fun cs => ∃ x, cs = stoC x :=
  (Opens.struct Tryz.underlying37 (N := 11) (by kernel_rfl) (.cons rfl (n := 1) (by kernel_rfl) opens_ints (.cons rfl (n := 6) (by kernel_rfl) opens_jrn (.cons rfl (n := 1) (by kernel_rfl) opens_int (.cons rfl (n := 1) (by kernel_rfl) opens_int (.cons rfl (n := 1) (by kernel_rfl) opens_wrs (.cons rfl (n := 1) (by kernel_rfl) opens_img .nil))))))).mono fun cs h => by
    obtain ⟨_, _, rfl, ⟨a, rfl, _⟩, _, _, rfl, ⟨b, rfl⟩, _, _, rfl, ⟨c, rfl⟩, _, _, rfl, ⟨d, rfl⟩, _, _, rfl, ⟨e, rfl, _⟩, _, _, rfl, ⟨f, rfl, _⟩, rfl⟩ := h
    exact ⟨⟨a, b, c, d, e, f⟩, rfl⟩
end Go.Proofs.YtbnkggbpocaaiaaGreatDoor
namespace Go.Proofs.YtbnkggbpocaaiaaGreatDoor
open Go.Proofs
/-! ### Whether a store is small -/
def fewW (l : List Wr) : Bool := l.all (fun w => decide (w.data.length ≤ 64)) && decide (l.length ≤ 60)
def FewA (l : List Wr) : Prop := l.all (fun w => decide (w.data.length ≤ 64)) = true
def fewU (l : List Wr) (i : Nat) : Bool := (l.take i).all (fun w => decide (w.data.length ≤ 64))
def FewI (l : List Wr) (i : Nat) : Prop := fewU l i = true
theorem fewW_cc (H : Hp) (V : List Nat) (l : List Wr) (hl : l.length ≤ 9223372036854775807) : CC Tryz.prog 56 [.sl .sh 3 (l.map wrC)] H V (Pu (cb (fewW l)) H V) := by
  refine CC.of_swp Tryz.func56 rfl (by kernel_rfl) (by rw [Tryz.ntmps56]; exact len_le _ _ rfl) fun hok hokH => ?_
  clear hok
  refine SWp.seq (Wp.s ?_)
  simp -implicitDefEqProofs [go_sem, args0]
  refine SWp.join (α := Unit) (fun _ => ([(0, .sl .sh 3 (l.map wrC))], H, V)) (fun _ => FewA l) ?_ ?_
  · refine SWp.seq (Wp.s ?_)
    simp -implicitDefEqProofs [go_sem]
    refine SWp.block ?_
    refine SWp.loop (α := Nat) (fun i => ([(0, .sl .sh 3 (l.map wrC)), (3, ci i)], H, V)) (fun i => i ≤ l.length ∧ FewI l i) (fun i => l.length - i) 0 ⟨Nat.zero_le _, rfl⟩ (Sh.forget (by simp [go_sem]) rfl rfl) ?_
    rintro i ⟨hi, hp⟩
    dsimp only
    refine SWp.seq (SWp.seq (Wp.s ?_))
    simp -implicitDefEqProofs [go_sem]
    refine Wp.s ?_
    simp -implicitDefEqProofs [go_sem]
    refine ⟨fun h => ?_, fun h => ⟨by unfold FewI fewU at hp; rw [List.take_of_length_le h] at hp; exact hp, Sh.forget (by simp [go_sem]) rfl rfl⟩⟩
    refine SWp.seq (SWp.block (SWp.seq (Wp.s ?_)))
    by_cases he : 64 < l[i].data.length
    · have he' : 64 < (l[i].data.length : Int) := by omega
      simp -implicitDefEqProofs [go_sem, h, he']
      refine Wp.s ?_
      simp -implicitDefEqProofs [go_sem]
      refine Fin.bool ?_ hokH (by simp) (by simp)
      symm
      rw [fewW, Bool.and_eq_false_iff]
      left
      rw [List.all_eq_false]
      exact ⟨l[i], List.getElem_mem h, by simp; omega⟩
    · have he' : ¬ 64 < (l[i].data.length : Int) := by omega
      simp -implicitDefEqProofs [go_sem, h, he']
      refine Wp.s ?_
      simp -implicitDefEqProofs [go_sem]
      refine Wp.s ?_
      simp -implicitDefEqProofs [go_sem]
      refine ⟨i + 1, ⟨by omega, ?_⟩, by omega, Sh.forget ?_ rfl rfl⟩
      · unfold FewI fewU at *
        rw [List.take_succ_eq_append_getElem h, List.all_append, hp]
        simp; omega
      · simp [go_sem, wrap_big (show i < 9223372036854775807 by omega)]
  rintro _ he
  dsimp only
  refine SWp.seq (Wp.s ?_)
  simp -implicitDefEqProofs [go_sem]
  refine Wp.s ?_
  simp -implicitDefEqProofs [go_sem]
  have he' : l.all (fun w => decide (w.data.length ≤ 64)) = true := he
  exact Fin.bool (by rw [fewW, he']; simp; omega) hokH (by simp) (by simp)
def fewV (s : Sto) : Bool := decide (s.sizes.length ≤ 20) && decide (s.jr.sizes.length ≤ 100) && fewW s.pend && few07 s.img
theorem fewV_cc (H : Hp) (V : List Nat) (s : Sto) (hp : s.pend.length ≤ 9223372036854775807) : CC Tryz.prog 18 [.agg (stoC s)] H V (Pu (cb (fewV s)) H V) := by
  refine CC.of_swp Tryz.func18 rfl (by kernel_rfl) (by rw [Tryz.ntmps18]; exact len_le _ _ rfl) fun hok hokH => ?_
  clear hok
  refine SWp.seq (Wp.s ?_)
  simp -implicitDefEqProofs [go_sem, args0]
  refine SWp.seq (Wp.s ?_)
  by_cases h1 : s.sizes.length ≤ 20
  case neg =>
    have h1' : ¬ (s.sizes.length : Int) ≤ 20 := by omega
    simp -implicitDefEqProofs [go_sem, stoC, h1, h1']
    refine Wp.s ?_
    simp -implicitDefEqProofs [go_sem]
    exact Fin.bool (by rw [fewV, decide_eq_false h1]; rfl) hokH (by simp) (by simp)
  have h1' : (s.sizes.length : Int) ≤ 20 := by omega
  by_cases h2 : s.jr.sizes.length ≤ 100
  case neg =>
    have h2' : ¬ (s.jr.sizes.length : Int) ≤ 100 := by omega
    simp -implicitDefEqProofs [go_sem, stoC, h1, h1', h2, h2']
    refine Wp.s ?_
    simp -implicitDefEqProofs [go_sem]
    exact Fin.bool (by rw [fewV, decide_eq_false h2, Bool.and_false]; rfl) hokH (by simp) (by simp)
  have h2' : (s.jr.sizes.length : Int) ≤ 100 := by omega
  simp -implicitDefEqProofs [go_sem, stoC, h1, h1', h2, h2']
  refine CC.mono (fewW_cc _ _ s.pend hp) ?_
  rintro _ _ _ ⟨rfl, rfl, rfl⟩
  cases h3 : fewW s.pend
  · simp -implicitDefEqProofs [go_sem]
    refine Wp.s ?_
    simp -implicitDefEqProofs [go_sem]
    exact Fin.bool (by rw [fewV, h3]; simp) hokH (by simp) (by simp)
  simp -implicitDefEqProofs [go_sem]
  refine CC.mono (few07_cc _ _ .sh s.img) ?_
  rintro _ _ _ ⟨rfl, rfl, rfl⟩
  simp -implicitDefEqProofs [go_sem]
  refine Wp.s ?_
  simp -implicitDefEqProofs [go_sem]
  exact Fin.bool (by rw [fewV, h3, decide_eq_true h1, decide_eq_true h2]; simp) hokH (by simp) (by simp)
theorem fewV_S {s : Sto} (h : fewV s = true) : StS s := by
  simp only [fewV, fewW, few07, Bool.and_eq_true, decide_eq_true_eq, List.all_eq_true] at h
  obtain ⟨⟨⟨h1, h2⟩, h3, h4⟩, h5, h6⟩ := h
  exact ⟨by omega, by omega, by omega, fun w hw => by have := h3 w hw; omega, by omega, fun v hv => by have := h6 v hv; omega⟩
/-! ### The reference's images -/
def szU (l : Img) (i : Nat) : List (List CV) := ((imgSz l).take i).map ic
theorem szU_len (l : Img) (i : Nat) (h : i ≤ l.length) : (szU l i).length = i := by rw [szU, List.length_map, List.length_take, imgSz_len]; omega
@[go_sem] theorem szU_0 (l : Img) : szU l 0 = [] := rfl
theorem szU_s {l : Img} {i : Nat} (h : i < l.length) : szU l (i + 1) = szU l i ++ [ic (l[i].length : Int)] := by
  rw [szU, List.take_succ_eq_append_getElem (by rw [imgSz_len]; exact h), List.map_append]; simp [szU, imgSz]
theorem rSizesOf_cc (H : Hp) (V : List Nat) (tk : Tk) (l : Img) (hl : l.length ≤ 1000000000) : CC Tryz.prog 133 [.sl tk 1 (l.map imE)] H V (Pu (.sl .sh 1 ((imgSz l).map ic)) H V) := by
  refine CC.of_swp Tryz.func133 rfl (by kernel_rfl) (by rw [Tryz.ntmps133]; exact len_le _ _ rfl) fun hok hokH => ?_
  clear hok
  refine SWp.seq (Wp.s ?_)
  simp -implicitDefEqProofs [go_sem, args0]
  refine SWp.seq (Wp.s ?_)
  simp -implicitDefEqProofs [go_sem]
  refine SWp.join (α := Unit) (fun _ => ([(3, .sl (.own V.length l.length) 1 ((imgSz l).map ic))], H, V ++ [l.length])) (fun _ => True) ?_ ?_
  · refine SWp.seq (Wp.s ?_)
    simp -implicitDefEqProofs [go_sem]
    refine SWp.block ?_
    refine SWp.loop (α := Nat) (fun i => ([(0, .sl tk 1 (l.map imE)), (3, .sl (.own V.length i) 1 (szU l i)), (4, ci i)], H, V ++ [i])) (fun i => i ≤ l.length) (fun i => l.length - i) 0 (Nat.zero_le _) (Sh.tokT (by simp [go_sem]) rfl rfl) ?_
    intro i hi
    dsimp only
    refine SWp.seq (SWp.seq (Wp.s ?_))
    simp -implicitDefEqProofs [go_sem]
    refine Wp.s ?_
    simp -implicitDefEqProofs [go_sem]
    refine ⟨fun h => ?_, fun h => ?_⟩
    case refine_2 =>
      obtain rfl : i = l.length := by omega
      exact Sh.forget (by simp [go_sem, szU, List.take_of_length_le]) rfl rfl
    refine SWp.seq (SWp.block (Wp.s ?_))
    simp -implicitDefEqProofs [go_sem, h, szU_len l i hi]
    refine ⟨by omega, ?_⟩
    have w5 : IntKind.i64.wrap ((i : Int) + 1) = (i : Int) + 1 := IntWalk.i64_in _ ⟨by omega, by omega⟩
    refine Wp.s ?_
    simp -implicitDefEqProofs [go_sem, w5]
    exact ⟨i + 1, by omega, by omega, Sh.forget (by simp [go_sem, szU_s h, ic]) rfl (by simp)⟩
  rintro _ -
  dsimp only
  refine SWp.seq (Wp.s ?_)
  simp -implicitDefEqProofs [go_sem]
  refine Wp.s ?_
  simp -implicitDefEqProofs [go_sem]
  exact Fin.pu (.sh _ _ _) (by simp [go_sem, okE_ints]) hokH (by simp) (by simp)
theorem rImChk_cc (H : Hp) (V : List Nat) (tk : Tk) (l : Img) (hl : l.length ≤ 1000000000) : CC Tryz.prog 77 [.sl tk 1 (l.map imE)] H V (Pu (er (sizesE (imgSz l))) H V) := by
  refine CC.of_swp Tryz.func77 rfl (by kernel_rfl) (by rw [Tryz.ntmps77]; exact len_le _ _ rfl) fun hok hokH => ?_
  clear hok
  refine SWp.seq (Wp.s ?_)
  simp -implicitDefEqProofs [go_sem, args0]
  refine SWp.seq (Wp.s ?_)
  simp -implicitDefEqProofs [go_sem]
  refine CC.mono (rSizesOf_cc _ _ tk l hl) ?_
  rintro _ _ _ ⟨rfl, rfl, rfl⟩
  simp -implicitDefEqProofs [go_sem]
  refine CC.mono (refSizes_cc _ _ .sh (imgSz l) (by rw [imgSz_len]; omega)) ?_
  rintro _ _ _ ⟨rfl, rfl, rfl⟩
  simp -implicitDefEqProofs [go_sem]
  refine Wp.s ?_
  simp -implicitDefEqProofs [go_sem]
  exact Fin.er rfl hokH (by simp) (by simp)
theorem rFits_cc (H : Hp) (V : List Nat) (tk : Tk) (l : Img) (w : Wr) (hl : l.length ≤ 1000000000) (hw : w.data.length ≤ 1000000000) : CC Tryz.prog 128 [.sl tk 1 (l.map imE), .agg (wrC w)] H V (Pu (er (fitsI l w)) H V) := by
  refine CC.of_swp Tryz.func128 rfl (by kernel_rfl) (by rw [Tryz.ntmps128]; exact len_le _ _ rfl) fun hok hokH => ?_
  clear hok
  refine SWp.seq (Wp.s ?_)
  simp -implicitDefEqProofs [go_sem, args0]
  refine SWp.seq (SWp.seq (Wp.s ?_))
  simp -implicitDefEqProofs [go_sem]
  refine CC.mono (rImChk_cc _ _ tk l hl) ?_
  rintro _ _ _ ⟨rfl, rfl, rfl⟩
  simp -implicitDefEqProofs [go_sem]
  refine SWp.seq (Wp.s ?_)
  by_cases h0 : sizesE (imgSz l) = 0
  case neg =>
    simp -implicitDefEqProofs [go_sem, h0]
    refine Wp.s ?_
    simp -implicitDefEqProofs [go_sem]
    exact Fin.er (by rw [fitsI, if_pos h0]) hokH (by simp) (by simp)
  simp -implicitDefEqProofs [go_sem, h0]
  refine Wp.s ?_
  simp -implicitDefEqProofs [go_sem]
  refine SWp.seq (SWp.drawnT [] [] (.s 0 .pl <| .s 2 .pl <| .s 1 .pl <| .s 3 .pl <| .s 4 .pl <| .n) (by kernel_rfl) (by kernel_rfl) ?_)
  simp -implicitDefEqProofs [go_sem]
  refine CC.mono (rSizesOf_cc _ _ tk l hl) ?_
  rintro _ _ _ ⟨rfl, rfl, rfl⟩
  simp -implicitDefEqProofs [go_sem]
  refine CC.mono (refFits_cc _ _ .sh (imgSz l) w (by rw [imgSz_len]; omega) (fun n hn => (sizesE_0 h0).2.2 n hn) hw) ?_
  rintro _ _ _ ⟨rfl, rfl, rfl⟩
  simp -implicitDefEqProofs [go_sem]
  refine Wp.s ?_
  simp -implicitDefEqProofs [go_sem]
  exact Fin.er (by rw [fitsI, if_neg (by simp [h0])]) hokH (by simp) (by simp)
end Go.Proofs.YtbnkggbpocaaiaaGreatDoor
namespace Go.Proofs.YtbnkggbpocaaiaaGreatDoor
open Go.Proofs
def pairE (a b : Img) : Nat := if sizesE (imgSz a) ≠ 0 then sizesE (imgSz a) else if sizesE (imgSz b) ≠ 0 then sizesE (imgSz b) else if imgSz a ≠ imgSz b then 22 else 0
set_option maxRecDepth 8000 in
theorem pair_cc (H : Hp) (V : List Nat) (a b : Img) (ha : a.length ≤ 1000000000) (hb : b.length ≤ 1000000000) : CC Tryz.prog 134 [.sl .sh 1 (a.map imE), .sl .sh 1 (b.map imE)] H V (Pu (er (pairE a b)) H V) := by
  refine CC.of_swp Tryz.func134 rfl (by kernel_rfl) (by rw [Tryz.ntmps134]; exact len_le _ _ rfl) fun hok hokH => ?_
  clear hok
  refine SWp.seq (Wp.s ?_)
  simp -implicitDefEqProofs [go_sem, args0]
  refine SWp.seq (SWp.seq (Wp.s ?_))
  simp -implicitDefEqProofs [go_sem]
  refine CC.mono (rImChk_cc _ _ .sh a ha) ?_
  rintro _ _ _ ⟨rfl, rfl, rfl⟩
  simp -implicitDefEqProofs [go_sem]
  refine SWp.seq (Wp.s ?_)
  by_cases h0 : sizesE (imgSz a) = 0
  case neg =>
    simp -implicitDefEqProofs [go_sem, h0]
    refine Wp.s ?_
    simp -implicitDefEqProofs [go_sem]
    exact Fin.er (by rw [pairE, if_pos h0]) hokH (by simp) (by simp)
  simp -implicitDefEqProofs [go_sem, h0]
  refine Wp.s ?_
  simp -implicitDefEqProofs [go_sem]
  refine SWp.seq (SWp.seq (Wp.s ?_))
  simp -implicitDefEqProofs [go_sem]
  refine CC.mono (rImChk_cc _ _ .sh b hb) ?_
  rintro _ _ _ ⟨rfl, rfl, rfl⟩
  simp -implicitDefEqProofs [go_sem]
  refine SWp.seq (Wp.s ?_)
  by_cases h1 : sizesE (imgSz b) = 0
  case neg =>
    simp -implicitDefEqProofs [go_sem, h1]
    refine Wp.s ?_
    simp -implicitDefEqProofs [go_sem]
    exact Fin.er (by rw [pairE, if_neg (by simp [h0]), if_pos h1]) hokH (by simp) (by simp)
  simp -implicitDefEqProofs [go_sem, h1]
  refine Wp.s ?_
  simp -implicitDefEqProofs [go_sem]
  have hpe : pairE a b = if imgSz a ≠ imgSz b then 22 else 0 := by rw [pairE, if_neg (by simp [h0]), if_neg (by simp [h1])]
  have hbad : imgSz a ≠ imgSz b → ∀ (H' : Hp) (V' : List Nat), H'.take H.length = H → V'.take V.length = V → Fin H.length V.length (Pu (er (pairE a b)) H V) (er 22) H' V' := fun q H' V' g1 g2 => Fin.er (by rw [hpe, if_pos q]) hokH g1 g2
  refine SWp.seq (SWp.seq (Wp.s ?_))
  by_cases hlen : a.length = b.length
  case neg =>
    have hlen' : ¬ (a.length : Int) = (b.length : Int) := by omega
    simp -implicitDefEqProofs [go_sem, hlen, hlen']
    refine Wp.s ?_
    simp -implicitDefEqProofs [go_sem]
    exact hbad (fun e => hlen (by have := congrArg List.length e; simpa using this)) _ _ (by simp) (by simp)
  simp -implicitDefEqProofs [go_sem, hlen]
  refine Wp.s ?_
  simp -implicitDefEqProofs [go_sem]
  refine SWp.join (α := Unit) (fun _ => ([], H, V)) (fun _ => imgSz a = imgSz b) ?_ ?_
  · refine SWp.seq (Wp.s ?_)
    simp -implicitDefEqProofs [go_sem]
    refine SWp.block ?_
    refine SWp.loop (α := Nat) (fun i => ([(0, .sl .sh 1 (a.map imE)), (1, .sl .sh 1 (b.map imE)), (7, ci i)], H, V)) (fun i => i ≤ a.length ∧ (imgSz a).take i = (imgSz b).take i) (fun i => a.length - i) 0 ⟨Nat.zero_le _, rfl⟩ (Sh.forget (by simp [go_sem]) rfl rfl) ?_
    rintro i ⟨hi, hp⟩
    dsimp only
    refine SWp.seq (SWp.seq (Wp.s ?_))
    simp -implicitDefEqProofs [go_sem]
    refine Wp.s ?_
    simp -implicitDefEqProofs [go_sem]
    refine ⟨fun h => ?_, fun h => ⟨by rwa [List.take_of_length_le (by rw [imgSz_len]; exact h), List.take_of_length_le (by rw [imgSz_len]; omega)] at hp, Sh.forget (by simp [go_sem]) rfl rfl⟩⟩
    have h2 : i < b.length := by omega
    refine SWp.seq (SWp.block (SWp.seq (SWp.drawnT [] [] (.s 0 .pl <| .s 1 .pl <| .s 2 .pl <| .s 3 .pl <| .s 4 .pl <| .s 5 .pl <| .s 6 .pl <| .s 7 .pl <| .s 8 .pl <| .s 9 .pl <| .s 10 .pl <| .n) (by kernel_rfl) (by kernel_rfl) ?_)))
    have w5 : IntKind.i64.wrap ((i : Int) + 1) = (i : Int) + 1 := IntWalk.i64_in _ ⟨by omega, by omega⟩
    by_cases he : a[i].length = b[i].length
    · simp -implicitDefEqProofs [go_sem, h, h2, he]
      refine Wp.s ?_
      simp -implicitDefEqProofs [go_sem]
      refine Wp.s ?_
      simp -implicitDefEqProofs [go_sem, w5]
      refine ⟨i + 1, ⟨by omega, imgSz_take h (by rw [imgSz_len]; exact h2) hp (by simp [imgSz, he])⟩, by omega, Sh.forget (by simp [go_sem]) rfl rfl⟩
    · have he' : ¬ (a[i].length : Int) = (b[i].length : Int) := by omega
      simp -implicitDefEqProofs [go_sem, h, h2, he, he']
      refine Wp.s ?_
      simp -implicitDefEqProofs [go_sem]
      refine hbad (fun e => he' ?_) _ _ (by simp) (by simp)
      have := congrArg (fun l : List Int => l[i]?) e
      simp only [imgSz, List.getElem?_map, List.getElem?_eq_getElem h, List.getElem?_eq_getElem h2, Option.map_some] at this
      exact Option.some.inj this
  rintro _ he
  dsimp only
  refine Wp.s ?_
  simp -implicitDefEqProofs [go_sem]
  exact Fin.er (by rw [hpe, if_neg (by simp [he])]) hokH (by simp) (by simp)
def exE (e : Int × Int) : List CV := [ci e.1, ci e.2]
theorem flat_exE : ∀ A : List (Int × Int), ((A.map exE).flatten).length = A.length * 2
  | [] => rfl
  | x :: A => by rw [List.map_cons, List.flatten_cons, List.length_append, flat_exE A, List.length_cons]; show 2 + _ = _; omega
def RepD (n i : Nat) (es : List (Int × Int)) (cv : CV) (G : Hp) : Prop := es.length ≤ i ∧ ((es = [] ∧ cv = .v (.slice none 0 0)) ∨ ∃ b, es ≠ [] ∧ cv = .bsa b es.length 2 ∧ n ≤ b ∧ G[b]? = some (some (es.map exE).flatten))
def DInv (n i : Nat) (cv : CV) (G : Hp) : Prop := ∃ es, RepD n i es cv G
def DiffR (H : Hp) (V : List Nat) : CV → Hp → List Nat → Prop := fun r H' V' => ∃ es : List (Int × Int), r = .sl .sh 2 (es.map exE) ∧ H = H' ∧ V = V'
theorem okE_exE (i j : Nat) : ∀ l : List (Int × Int), okE i j (l.map exE)
  | [] => trivial
  | x :: l => ⟨by simp [exE, go_sem], okE_exE i j l⟩
theorem chunks_exE : ∀ A : List (Int × Int), chunks 2 A.length (A.map exE).flatten = A.map exE
  | [] => rfl
  | x :: A => by
    show (exE x ++ (A.map exE).flatten).take 2 :: chunks 2 A.length ((exE x ++ (A.map exE).flatten).drop 2) = exE x :: A.map exE
    rw [show (exE x ++ (A.map exE).flatten).take 2 = exE x from rfl, show (exE x ++ (A.map exE).flatten).drop 2 = (A.map exE).flatten from rfl, chunks_exE A]
theorem set_lastD (G : Hp) (b : Nat) (c : List CV) : (G.set b none ++ [some c])[G.length]? = some (some c) := by
  rw [List.getElem?_append_right (by simp)]; simp
set_option maxRecDepth 8000 in
theorem vdiff_cc (H : Hp) (V : List Nat) (x y : List Sec) (hl : x.length ≤ 1000000000) (hxy : x.length ≤ y.length) : CC Tryz.prog 135 [.sl .sh 8 (x.map secC), .sl .sh 8 (y.map secC)] H V (DiffR H V) := by
  refine CC.of_swp Tryz.func135 rfl (by kernel_rfl) (by rw [Tryz.ntmps135]; exact len_le _ _ rfl) fun hok hokH => ?_
  clear hok
  refine SWp.seq (Wp.s ?_)
  simp -implicitDefEqProofs [go_sem, args0]
  refine SWp.seq (Wp.s ?_)
  simp -implicitDefEqProofs [go_sem]
  refine SWp.join (α := CV × Hp) (fun x => ([(5, x.1)], x.2, V)) (fun z => DInv H.length x.length z.1 z.2 ∧ z.2.take H.length = H) ?_ ?_
  · refine SWp.seq (Wp.s ?_)
    simp -implicitDefEqProofs [go_sem]
    refine SWp.block ?_
    refine SWp.loop (α := Nat × CV × Hp) (fun z => ([(0, .sl .sh 8 (x.map secC)), (1, .sl .sh 8 (y.map secC)), (5, z.2.1), (6, ci z.1)], z.2.2, V)) (fun z => z.1 ≤ x.length ∧ DInv H.length z.1 z.2.1 z.2.2 ∧ z.2.2.take H.length = H) (fun z => x.length - z.1) (0, .v (.slice none 0 0), H) ⟨Nat.zero_le _, ⟨[], Nat.le_refl _, .inl ⟨rfl, rfl⟩⟩, by simp⟩ (Sh.forget (by simp [go_sem]) rfl rfl) ?_
    rintro ⟨i, cv, G⟩ ⟨hi, ⟨es, hel, hrep⟩, hG⟩
    dsimp only at hi hel hrep hG ⊢
    have hGl : H.length ≤ G.length := by
      have := congrArg List.length hG
      simp at this; omega
    refine SWp.seq (SWp.seq (Wp.s ?_))
    simp -implicitDefEqProofs [go_sem]
    refine Wp.s ?_
    simp -implicitDefEqProofs [go_sem]
    refine ⟨fun h => ?_, fun h => ⟨cv, G, ⟨⟨es, by omega, hrep⟩, hG⟩, Sh.forget (by simp [go_sem]) rfl rfl⟩⟩
    have h2 : i < y.length := by omega
    have w5 : IntKind.i64.wrap ((i : Int) + 1) = (i : Int) + 1 := IntWalk.i64_in _ ⟨by omega, by omega⟩
    refine SWp.seq (SWp.block (SWp.seq (SWp.seq (SWp.drawnT [] [] (.s 0 .pl <| .s 1 .pl <| .s 2 .pl <| .s 3 .pl <| .s 4 .pl <| .s 5 .pl <| .s 6 .pl <| .s 7 .pl <| .s 8 .pl <| .n) (by kernel_rfl) (by kernel_rfl) ?_))))
    simp -implicitDefEqProofs [go_sem, h, h2]
    refine ⟨_, flatSec, fits_secW _, fits_secW _, fun he => ?_, fun he => ?_⟩
    case refine_2 =>
      refine Wp.s ?_
      simp -implicitDefEqProofs [go_sem]
      refine Wp.s ?_
      simp -implicitDefEqProofs [go_sem, w5]
      exact ⟨i + 1, cv, G, ⟨by omega, ⟨es, by omega, hrep⟩, hG⟩, by omega, Sh.forget (by simp [go_sem]) rfl rfl⟩
    refine Wp.s ?_
    simp -implicitDefEqProofs [go_sem]
    rcases hrep with ⟨rfl, rfl⟩ | ⟨b', hne, rfl, hb', hGb'⟩
    · refine SWp.seq (Wp.s ?_)
      simp -implicitDefEqProofs [go_sem]
      refine SWp.seq (SWp.drawnT [] [] (.s 0 .pl <| .s 1 .pl <| .s 2 .pl <| .s 3 .pl <| .s 4 .pl <| .s 5 .pl <| .s 6 .pl <| .s 7 .pl <| .s 8 .pl <| .s 9 .pl <| .s 10 .pl <| .s 11 .pl <| .s 12 .pl <| .s 13 .pl <| .s 14 .pl <| .s 15 .pl <| .s 16 .pl <| .s 17 .pl <| .s 18 .pl <| .n) (by kernel_rfl) (by kernel_rfl) ?_)
      simp -implicitDefEqProofs [go_sem]
      refine SWp.condF (by simp [go_sem]) ?_
      refine SWp.opx (pre := [_, _, _, _]) (post := [_]) rfl (by intro c e; cases e) ?_
      simp -implicitDefEqProofs [go_sem]
      refine ⟨_, _, _, appboxN (sz := 2) (tk := .ti) (ys := [[ci (i : Int), ci 1]]) slTy201 slTy201 (by decide) rfl rfl (by simp) (by simp), ?_⟩
      simp -implicitDefEqProofs [go_sem]
      refine Wp.s ?_
      simp -implicitDefEqProofs [go_sem, w5]
      refine ⟨i + 1, .bsa G.length 1 2, G ++ [some [ci (i : Int), ci 1]], ⟨by omega, ⟨[((i : Int), 1)], by simp, .inr ⟨G.length, by simp, by simp, hGl, at_len _ _⟩⟩, by rw [List.take_append_of_le_length hGl]; exact hG⟩, by omega, Sh.forget ?_ rfl rfl⟩
      simp [go_sem]
    · obtain ⟨A, z, rfl⟩ : ∃ A z, es = A ++ [z] := ⟨es.dropLast, es.getLast hne, (List.dropLast_concat_getLast hne).symm⟩
      obtain ⟨a, m⟩ := z
      rw [List.map_append, List.flatten_append, show (List.map exE [(a, m)]).flatten = [ci a, ci m] from rfl] at hGb'
      have hXl := flat_exE A
      obtain ⟨X, hX⟩ : ∃ X, X = (A.map exE).flatten := ⟨_, rfl⟩
      rw [← hX] at hGb' hXl
      have hAi : A.length + 1 ≤ i := by simpa using hel
      have w8 : IntKind.i64.wrap ((A.length : Int) + 1 - 1) = (A.length : Int) := by rw [IntWalk.i64_in _ ⟨by omega, by omega⟩]; omega
      have w8' : IntKind.i64.wrap (A.length : Int) = (A.length : Int) := IntWalk.i64_in _ ⟨by omega, by omega⟩
      have hgx0 : ∀ (h : A.length * 2 < (X ++ [ci a, ci m]).length), (X ++ [ci a, ci m])[A.length * 2] = ci a := fun h => by
        rw [List.getElem_append_right (by omega)]; simp [hXl]
      have hgx : ∀ (h : A.length * 2 + 1 < (X ++ [ci a, ci m]).length), (X ++ [ci a, ci m])[A.length * 2 + 1] = ci m := fun h => by
        rw [List.getElem_append_right (by omega)]; simp [hXl]
      have htk : (X ++ [ci a, ci m]).take (A.length * 2 + 1) = X ++ [ci a] := by
        rw [List.take_append, List.take_of_length_le (by omega), hXl, Nat.add_sub_cancel_left]; rfl
      have hdr : (X ++ [ci a, ci m]).drop (A.length * 2 + 1 + 1) = [] := List.drop_eq_nil_of_le (by simp [hXl])
      have hbG : b' < G.length := (List.getElem?_eq_some_iff.1 hGb').1
      have hpos : (0 : Int) < (A.length : Int) + 1 := by omega
      have hlt : (A.length : Int) < (A.length : Int) + 1 := by omega
      refine SWp.seq (Wp.s ?_)
      simp -implicitDefEqProofs [go_sem]
      refine SWp.seq (SWp.drawnT [] [] (.s 0 .pl <| .s 1 .pl <| .s 2 .pl <| .s 3 .pl <| .s 4 .pl <| .s 5 .pl <| .s 6 .pl <| .s 7 .pl <| .s 8 .pl <| .s 9 .pl <| .s 10 .pl <| .s 11 .pl <| .s 12 .pl <| .s 13 .pl <| .s 14 .pl <| .s 15 .pl <| .s 16 .pl <| .s 17 .pl <| .s 18 .pl <| .n) (by kernel_rfl) (by kernel_rfl) ?_)
      simp -implicitDefEqProofs [go_sem, hbx_of hGb', hgx0, hgx, w8, w8', hXl, hpos, hlt]
      by_cases hq : IntKind.i64.wrap (a + m) = (i : Int)
      · rw [decide_eq_true hq]
        refine Wp.s ?_
        simp -implicitDefEqProofs [go_sem, hbx_of hGb', hgx, w8, w8', htk, hdr, hXl, hpos, hlt]
        refine Wp.s ?_
        simp -implicitDefEqProofs [go_sem, w5]
        refine ⟨i + 1, .bsa b' (A.length + 1) 2, G.set b' (some (X ++ [ci a, ci (IntKind.i64.wrap (m + 1))])), ⟨by omega, ⟨A ++ [(a, IntKind.i64.wrap (m + 1))], by simp; omega, .inr ⟨b', by simp, by simp, hb', ?_⟩⟩, by rw [List.take_set_of_le hb']; exact hG⟩, by omega, Sh.forget ?_ ?_ rfl⟩
        · rw [List.getElem?_set_self hbG, List.map_append, List.flatten_append, ← hX]; rfl
        · simp [go_sem]
        · simp
      · rw [decide_eq_false hq]
        refine Wp.s ?_
        simp -implicitDefEqProofs [go_sem, hbx_of hGb', hXl, htk, hdr]
        refine ⟨by omega, by omega, ?_⟩
        refine Wp.s ?_
        simp -implicitDefEqProofs [go_sem, w5]
        refine ⟨i + 1, .bsa G.length (A.length + 1 + 1) 2, G.set b' none ++ [some (X ++ [ci a, ci m] ++ [ci (i : Int), ci 1])], ⟨by omega, ⟨A ++ [(a, m)] ++ [((i : Int), 1)], by simp; omega, .inr ⟨G.length, by simp, by simp, hGl, ?_⟩⟩, by rw [List.take_append_of_le_length (by simpa using hGl), List.take_set_of_le hb']; exact hG⟩, by omega, Sh.forget ?_ (by simp) rfl⟩
        · rw [set_lastD, List.map_append, List.flatten_append, List.map_append, List.flatten_append, ← hX]; rfl
        · simp [go_sem]
  rintro ⟨cv, G⟩ ⟨⟨es, h1, h3⟩, h4⟩
  dsimp only at h1 h3 h4 ⊢
  refine Wp.s ?_
  simp -implicitDefEqProofs [go_sem]
  rcases h3 with ⟨rfl, rfl⟩ | ⟨b', hne, rfl, hb', hGb'⟩
  · exact Fin.pure (r' := .sl .sh 2 []) ⟨[], rfl, rfl, rfl⟩ h4 (by simp) (.nil 2 (by decide)) (by simp [go_sem, okE]) hokH
  · exact Fin.froz (xs := es.map exE) (b := b') (o := 0) (n := es.length) ⟨es, rfl, rfl, rfl⟩ (.bsa _ _ _) hGb' (by rw [List.drop_zero, chunks_exE]) (by rw [flat_exE]; omega) hb' (okE_exE _ _ _) hokH h4 (by simp)
end Go.Proofs.YtbnkggbpocaaiaaGreatDoor
namespace Go.Proofs.YtbnkggbpocaaiaaGreatDoor
open Go.Proofs
theorem pairE_0 {a b : Img} (h0 : pairE a b = 0) : sizesE (imgSz a) = 0 ∧ imgSz a = imgSz b := by
  unfold pairE at h0
  by_cases q1 : sizesE (imgSz a) = 0
  · by_cases q2 : sizesE (imgSz b) = 0
    · rw [if_neg (by simp [q1]), if_neg (by simp [q2])] at h0
      by_cases q3 : imgSz a = imgSz b
      · exact ⟨q1, q3⟩
      · rw [if_pos q3] at h0; cases h0
    · rw [if_neg (by simp [q1]), if_pos q2] at h0; exact absurd h0 q2
  · rw [if_pos q1] at h0; exact absurd h0 q1
theorem imgSz_at {a b : Img} (h : imgSz a = imgSz b) (i : Nat) (h1 : i < a.length) (h2 : i < b.length) : a[i].length = b[i].length := by
  have := congrArg (fun l : List Int => l[i]?) h
  simp only [imgSz, List.getElem?_map, List.getElem?_eq_getElem h1, List.getElem?_eq_getElem h2, Option.map_some] at this
  exact Int.ofNat.inj (Option.some.inj this)
theorem Ge.of_le {c d : CV} (h : Le c d) : Ge c d := fun _ _ _ _ hu => h.rel hu
theorem LeE.refl' : ∀ l : List (List CV), LeE l l
  | [] => .nil
  | c :: l => .cons (LeL.refl c) (LeE.refl' l)
theorem LeE.app' : ∀ {a b c d : List (List CV)}, LeE a b → LeE c d → LeE (a ++ c) (b ++ d)
  | _, _, _, _, .nil, h => h
  | _, _, _, _, .cons h t, g => .cons h (LeE.app' t g)
theorem Sh.ge {n nb nv : Nat} {T T' : Tm} {H H' : Hp} {V V' : List Nat} (h : ∀ p ∈ T', Ge (tget T p.1) p.2) (hH : H = H') (hV : V = V') : Sh n nb nv T H V (T', H', V') := by
  subst hH hV
  exact Gst.ge h
set_option maxRecDepth 8000 in
theorem rCopyG_cc (H : Hp) (V : List Nat) (l : Img) (hl : l.length ≤ 1000000) (hn : ∀ v ∈ l, v ≠ [] ∧ v.length ≤ 1000000) (R : CV → Hp → List Nat → Prop) (hR : (∀ (b : Nat) cs, H[b]? = some (some cs) → okL H.length V.length cs) → Fin H.length V.length R (.sl (.own V.length l.length) 1 (bxs H.length l)) (H ++ imH l) (V ++ [l.length])) : CC Tryz.prog 127 [.sl .sh 1 (l.map imE)] H V (R) := by
  refine CC.of_swp Tryz.func127 rfl (by kernel_rfl) (by rw [Tryz.ntmps127]; exact len_le _ _ rfl) fun hok hokH => ?_
  clear hok
  refine SWp.seq (Wp.s ?_)
  simp -implicitDefEqProofs [go_sem, args0]
  refine SWp.seq (Wp.s ?_)
  simp -implicitDefEqProofs [go_sem]
  refine SWp.join (α := Unit) (fun _ => ([(3, .sl (.own V.length l.length) 1 (bxs H.length l))], H ++ imH l, V ++ [l.length])) (fun _ => True) ?_ ?_
  · refine SWp.seq (Wp.s ?_)
    simp -implicitDefEqProofs [go_sem]
    refine SWp.block ?_
    refine SWp.loop (α := Nat) (fun i => ([(0, .sl .sh 1 (l.map imE)), (3, .sl (.own V.length i) 1 (bxs H.length (l.take i))), (4, ci i)], H ++ imH (l.take i), V ++ [i])) (fun i => i ≤ l.length) (fun i => l.length - i) 0 (Nat.zero_le _) (Sh.tokT (by simp [go_sem, bxs]) (by simp [imH]) rfl) ?_
    intro i hi
    dsimp only
    refine SWp.seq (SWp.seq (Wp.s ?_))
    simp -implicitDefEqProofs [go_sem]
    refine Wp.s ?_
    simp -implicitDefEqProofs [go_sem]
    refine ⟨fun h => ?_, fun h => ?_⟩
    case refine_2 =>
      obtain rfl : i = l.length := by omega
      exact Sh.forget (by rw [List.take_of_length_le (by omega)]; simp [go_sem]) (by rw [List.take_of_length_le (by omega)]) rfl
    obtain ⟨n1, n2⟩ := hn l[i] (List.getElem_mem h)
    have hmn : min i l.length = i := Nat.min_eq_left (by omega)
    have w5 : IntKind.i64.wrap ((i : Int) + 1) = (i : Int) + 1 := IntWalk.i64_in _ ⟨by omega, by omega⟩
    refine SWp.seq (SWp.block (SWp.seq (Wp.s ?_)))
    simp -implicitDefEqProofs [go_sem]
    refine SWp.opx (pre := [_, _, _, _, _, _]) (post := [_, _, _]) rfl (by intro c e; cases e) ?_
    simp -implicitDefEqProofs [go_sem, h]
    refine ⟨_, _, _, appboxN (sz := 8) (tk := .sh) (ys := l[i].map secC) slTy46 slTy46 (by decide) rfl rfl (by simpa using n1) (by rw [List.length_map]; omega), ?_⟩
    simp -implicitDefEqProofs [go_sem, hmn]
    rw [show (List.map secC l[i]).flatten = secsF l[i] from rfl]
    refine ⟨by omega, ?_⟩
    refine Wp.s ?_
    simp -implicitDefEqProofs [go_sem, w5]
    refine ⟨i + 1, by omega, by omega, Sh.ge (fun p hp => ?_) ?_ (by simp)⟩
    · rw [List.take_succ_eq_append_getElem h, bxs_snoc, List.length_take, hmn] at hp
      simp only [List.mem_cons, List.not_mem_nil, or_false] at hp
      rcases hp with rfl | rfl | rfl
      · simp [go_sem]
      · simp [go_sem]; exact Ge.slk (LeE.app' (LeE.refl' _) (.cons (.cons (.bsa _ _ _) .nil) .nil))
      · simp [go_sem]
    · rw [List.take_succ_eq_append_getElem h, imH, imH, List.map_append]; rfl
  rintro _ -
  dsimp only
  refine Wp.s ?_
  simp -implicitDefEqProofs [go_sem]
  exact hR hokH
theorem rCopy_cc (H : Hp) (V : List Nat) (l : Img) (hl : l.length ≤ 1000000) (hn : ∀ v ∈ l, v ≠ [] ∧ v.length ≤ 1000000) : CC Tryz.prog 127 [.sl .sh 1 (l.map imE)] H V (fun r H' V' => r = .sl (.own V.length l.length) 1 (bxs H.length l) ∧ H' = H ++ imH l ∧ V' = V ++ [l.length]) := by
  refine rCopyG_cc H V l hl hn _ fun hokH => ?_
  refine Fin.cut (H.length + l.length) (V.length + 1) ⟨rfl, rfl, rfl⟩ (by omega) (by omega) (List.take_of_length_le (by simp)) (List.take_of_length_le (by simp)) (.refl _) ?_ ?_
  · rw [okV]
    exact ⟨Nat.lt_succ_self _, okE_bxs _ _ _ _ (Nat.le_refl _)⟩
  intro b cs hb
  rw [List.getElem?_append] at hb
  split at hb
  · exact okL_mono (by omega) (Nat.le_succ _) (hokH b cs hb)
  · obtain ⟨v, -, hv⟩ := List.mem_map.1 (List.mem_of_getElem? hb)
    obtain rfl := Option.some.inj hv
    rw [okL_secsF]; trivial
theorem gst_bxs1 {n nb nv b : Nat} {V : List Nat} : ∀ (l d : Img) (H : Hp) (tk : Tk), (∀ j (h : j < l.length), H[b + d.length + j]? = some (some (secsF l[j]))) →
    ∃ H' : Hp, H'.take b = H.take b ∧ Gst n nb nv [(0, .sl tk 1 (d.map imE ++ bxs (b + d.length) l))] H V [(0, .sl .sh 1 ((d ++ l).map imE))] H' V
  | [], d, H, tk, h => ⟨H, rfl, Gst.forget fun p hp => by
      obtain rfl : p = _ := by simpa using hp
      simp only [tget, if_pos, bxs, List.append_nil]
      exact .sh _ _ _⟩
  | v :: l, d, H, tk, h => by
    have h0 : H[b + d.length]? = some (some (secsF v)) := h 0 (by simp)
    obtain ⟨H', h1, h2⟩ := gst_bxs1 (n := n) (nb := nb) (nv := nv) (b := b) (V := V) l (d ++ [v]) (H.set (b + d.length) none) .sh (fun j hj => by
      rw [List.length_append, List.length_singleton, List.getElem?_set_ne (by omega)]
      have := h (j + 1) (by simpa using hj)
      rw [show b + (d.length + 1) + j = b + d.length + (j + 1) by omega, this]
      rfl)
    refine ⟨H', by rw [h1, List.take_set_of_le (by omega)], Gst.trans (T' := [(0, .sl .sh 1 (d.map imE ++ (imE v :: bxs (b + d.length + 1) l)))]) (Gst.freezeY h0 fun p hp => ?_) ?_⟩
    · obtain rfl : p = _ := by simpa using hp
      simp only [tget, if_pos, bxs]
      have := Fy.bsl (b := b + d.length) (cs := secsF v) 0 v.length 8 (by rw [secsF_len]; omega)
      rw [List.drop_zero, chunks_secs] at this
      exact .sl _ _ (FyE.appI (FyE.rflI _ _ _) (.cons (.cons this .nil) (FyE.rflI _ _ _)))
    · have e1 : d.map imE ++ (imE v :: bxs (b + d.length + 1) l) = (d ++ [v]).map imE ++ bxs (b + (d ++ [v]).length) l := by simp [Nat.add_assoc]
      rw [e1]
      rw [List.append_assoc] at h2
      exact h2
theorem rCopyP_cc (H : Hp) (V : List Nat) (l : Img) (hl : l.length ≤ 1000000) (hn : ∀ v ∈ l, v ≠ [] ∧ v.length ≤ 1000000) : CC Tryz.prog 127 [.sl .sh 1 (l.map imE)] H V (Pu (.sl .sh 1 (l.map imE)) H V) := by
  refine rCopyG_cc H V l hl hn _ fun hokH => ?_
  obtain ⟨H', h1, h2⟩ := gst_bxs1 (n := 1) (nb := H.length) (nv := V.length) (b := H.length) (V := V ++ [l.length]) l [] (H ++ imH l) (.own V.length l.length) (fun j hj => imH_get H l j hj)
  refine ⟨_, H, V, Gst.trans h2 ?_, ⟨rfl, rfl, rfl⟩⟩
  rw [List.take_left] at h1
  have := Gst.cut (n := 1) (nb := H.length) (nv := V.length) (T := [(0, .sl .sh 1 (l.map imE))]) (H := H') (V := V ++ [l.length]) H.length V.length (Nat.le_refl _) (Nat.le_refl _) (fun p hp => by simp at hp; subst hp; simp [go_sem, okE_ims]) (by rw [h1]; exact hokH)
  rwa [h1, List.take_left] at this
def exsE (es : List (Int × Int)) : List CV := [.sl .sh 2 (es.map exE)]
theorem rDiffer_cc (H : Hp) (V : List Nat) (a b : Img) (ha : a.length ≤ 1000000000) (hb : b.length ≤ 1000000000) : CC Tryz.prog 78 [.sl .sh 1 (a.map imE), .sl .sh 1 (b.map imE)] H V (Pu (.tup [.any, er (pairE a b)]) H V) := by
  refine CC.of_swp Tryz.func78 rfl (by kernel_rfl) (by rw [Tryz.ntmps78]; exact len_le _ _ rfl) fun hok hokH => ?_
  clear hok
  refine SWp.seq (Wp.s ?_)
  simp -implicitDefEqProofs [go_sem, args0]
  refine SWp.seq (SWp.seq (Wp.s ?_))
  simp -implicitDefEqProofs [go_sem]
  refine CC.mono (pair_cc _ _ a b ha hb) ?_
  rintro _ _ _ ⟨rfl, rfl, rfl⟩
  simp -implicitDefEqProofs [go_sem]
  refine SWp.seq (Wp.s ?_)
  by_cases h0 : pairE a b = 0
  case neg =>
    simp -implicitDefEqProofs [go_sem, h0]
    refine Wp.s ?_
    simp -implicitDefEqProofs [go_sem]
    exact Fin.pu (.tup (.cons (.any _) (.cons (.refl _) .nil))) (by simp [go_sem, okL]) hokH (by simp) (by simp)
  simp -implicitDefEqProofs [go_sem, h0]
  refine Wp.s ?_
  simp -implicitDefEqProofs [go_sem]
  refine SWp.seq (Wp.s ?_)
  simp -implicitDefEqProofs [go_sem]
  obtain ⟨hs0, hsz⟩ := pairE_0 h0
  have hab : a.length = b.length := by
    have := congrArg List.length hsz
    rwa [imgSz_len, imgSz_len] at this
  obtain ⟨ha8, hav⟩ := sizes_pos hs0
  refine SWp.join (α := List (List (Int × Int))) (fun L => ([(7, .sl (.own V.length L.length) 1 (L.map exsE))], H, V ++ [L.length])) (fun _ => True) ?_ ?_
  · refine SWp.seq (Wp.s ?_)
    simp -implicitDefEqProofs [go_sem]
    refine SWp.block ?_
    refine SWp.loop (α := List (List (Int × Int))) (fun L => ([(0, .sl .sh 1 (a.map imE)), (1, .sl .sh 1 (b.map imE)), (7, .sl (.own V.length L.length) 1 (L.map exsE)), (8, ci L.length)], H, V ++ [L.length])) (fun L => L.length ≤ a.length) (fun L => a.length - L.length) [] (Nat.zero_le _) (Sh.tokT (by simp [go_sem]) rfl rfl) ?_
    intro L hi
    dsimp only
    refine SWp.seq (SWp.seq (Wp.s ?_))
    simp -implicitDefEqProofs [go_sem]
    refine Wp.s ?_
    simp -implicitDefEqProofs [go_sem]
    refine ⟨fun h => ?_, fun h => ⟨L, Sh.forget (by simp [go_sem]) rfl rfl⟩⟩
    have h2 : L.length < b.length := by omega
    have w5 : IntKind.i64.wrap ((L.length : Int) + 1) = (L.length : Int) + 1 := IntWalk.i64_in _ ⟨by omega, by omega⟩
    refine SWp.seq (SWp.block (SWp.drawnT [] [] (.s 0 .pl <| .s 1 .pl <| .s 2 .pl <| .s 3 .pl <| .s 4 .pl <| .s 5 .pl <| .s 6 .pl <| .s 7 .pl <| .s 8 .pl <| .s 9 .pl <| .s 10 .pl <| .s 11 .pl <| .s 12 .pl <| .n) (by kernel_rfl) (by kernel_rfl) ?_))
    simp -implicitDefEqProofs [go_sem, h, h2]
    have hv := hav _ (List.getElem_mem h)
    refine CC.mono (vdiff_cc _ _ a[L.length] b[L.length] (by omega) (by rw [imgSz_at hsz _ h h2]; exact Nat.le_refl _)) ?_
    rintro _ _ _ ⟨es, rfl, rfl, rfl⟩
    simp -implicitDefEqProofs [go_sem]
    refine ⟨by omega, ?_⟩
    refine Wp.s ?_
    simp -implicitDefEqProofs [go_sem, w5]
    refine ⟨L ++ [es], by simp; omega, by simp; omega, Sh.forget ?_ rfl (by simp)⟩
    simp [go_sem, exsE]
  rintro L -
  dsimp only
  refine Wp.s ?_
  simp -implicitDefEqProofs [go_sem]
  exact Fin.pu (.tup (.cons (.any _) (.cons (.refl _) .nil))) (by simp [go_sem, okL]) hokH (by simp) (by simp)
end Go.Proofs.YtbnkggbpocaaiaaGreatDoor
