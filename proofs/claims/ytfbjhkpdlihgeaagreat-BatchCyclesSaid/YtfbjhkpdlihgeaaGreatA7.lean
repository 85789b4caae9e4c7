import Derived.Test.YtfbjhkpdlihgeaaGreatA6
import Derived.Test.YtfbjhkpdlihgeaaGreatA3
import Derived.ProofKit
import Derived.OpenShut
import Derived.Below
import Derived.Test.YtfbjhkpdlihgeaaGreatA5
import Derived.Test.YtfbjhkpdlihgeaaGreatProg
set_option linter.unusedSimpArgs false
set_option linter.unusedVariables false
set_option linter.unusedSectionVars false
namespace Go.Proofs.YtfbjhkpdlihgeaaGreat
open Go.Proofs
theorem refSizes_cc (H : Hp) (V : List Nat) (tk : Tk) (l : List Int) (hl : l.length ≤ 9223372036854775807) : CC Tryz.prog 77 [.sl tk 1 (l.map ic)] H V (Pu (er (sizesE l)) H V) := by
  refine CC.of_swp Tryz.func77 rfl (by kernel_rfl) (by rw [Tryz.ntmps77]; exact len_le _ _ rfl) fun hok hokH => ?_
  clear hok
  refine SWp.seq (Wp.s ?_)
  simp -implicitDefEqProofs [go_sem, args0]
  refine SWp.seq (SWp.seq (Wp.s ?_))
  by_cases h1 : l.length < 1
  · simp -implicitDefEqProofs [go_sem, h1, show (l.length : Int) < 1 by omega]
    refine Wp.s ?_
    simp -implicitDefEqProofs [go_sem]
    exact Fin.er (by rw [sizesE, if_pos (.inl h1)]) hokH (by simp) (by simp)
  by_cases h2 : 8 < l.length
  · simp -implicitDefEqProofs [go_sem, h1, show ¬ (l.length : Int) < 1 by omega, show (8 : Int) < l.length by omega]
    refine Wp.s ?_
    simp -implicitDefEqProofs [go_sem]
    exact Fin.er (by rw [sizesE, if_pos (.inr h2)]) hokH (by simp) (by simp)
  simp -implicitDefEqProofs [go_sem, h1, show ¬ (l.length : Int) < 1 by omega, show ¬ (8 : Int) < l.length by omega]
  refine Wp.s ?_
  simp -implicitDefEqProofs [go_sem]
  refine SWp.join (α := Unit) (fun _ => ([], H, V)) (fun _ => sizesE l = 0) ?_ ?_
  · refine SWp.seq (Wp.s ?_)
    simp -implicitDefEqProofs [go_sem]
    refine SWp.block ?_
    refine SWp.loop (α := Nat) (fun i => ([(0, .sl tk 1 (l.map ic)), (3, ci i)], H, V)) (fun i => i ≤ l.length ∧ (l.take i).any badSz = false) (fun i => l.length - i) 0 ⟨Nat.zero_le _, rfl⟩ (Sh.forget (by simp [go_sem]) rfl rfl) ?_
    rintro i ⟨hi, hp⟩
    dsimp only
    refine SWp.seq (SWp.seq (Wp.s ?_))
    simp -implicitDefEqProofs [go_sem]
    refine Wp.s ?_
    simp -implicitDefEqProofs [go_sem]
    refine ⟨fun h => ?_, fun h => ⟨?_, Sh.forget (by simp [go_sem]) rfl rfl⟩⟩
    · refine SWp.seq (SWp.block (SWp.seq (Wp.s ?_)))
      have bad : l[i] < 1 ∨ 4096 < l[i] → sizesE l = 2 := fun q => by rw [sizesE, if_neg (by omega), if_pos (any_at h (by simpa [badSz] using q))]
      by_cases b1 : l[i] < 1
      · simp -implicitDefEqProofs [go_sem, h, b1]
        refine Wp.s ?_
        simp -implicitDefEqProofs [go_sem]
        exact Fin.er (bad (.inl b1)) hokH (by simp) (by simp)
      by_cases b2 : 4096 < l[i]
      · simp -implicitDefEqProofs [go_sem, h, b1, b2]
        refine Wp.s ?_
        simp -implicitDefEqProofs [go_sem]
        exact Fin.er (bad (.inr b2)) hokH (by simp) (by simp)
      simp -implicitDefEqProofs [go_sem, h, b1, b2]
      refine Wp.s ?_
      simp -implicitDefEqProofs [go_sem]
      refine Wp.s ?_
      simp -implicitDefEqProofs [go_sem]
      refine ⟨i + 1, ⟨by omega, by simpa using any_take h hp (by simp only [badSz, b1, b2, decide_false, Bool.or_false])⟩, by omega, Sh.forget ?_ rfl rfl⟩
      simp [go_sem, wrap_big (show i < 9223372036854775807 by omega)]
    · rw [List.take_of_length_le h] at hp
      rw [sizesE, if_neg (by omega), if_neg (by rw [hp]; decide)]
  · rintro _ hp
    dsimp only
    refine SWp.seq (Wp.s ?_)
    simp -implicitDefEqProofs [go_sem]
    refine Wp.s ?_
    simp -implicitDefEqProofs [go_sem]
    exact Fin.er hp hokH (by simp) (by simp)
theorem fitsS_7 {l : List Int} {w : Wr} (h : w.volume < 0 ∨ (l.length : Int) ≤ w.volume) : fitsS l w = 7 := by rw [fitsS, if_pos h]
set_option maxRecDepth 8000 in
theorem refFits_cc (H : Hp) (V : List Nat) (tk : Tk) (l : List Int) (w : Wr) (hl : l.length ≤ 1000000000) (hs : ∀ n ∈ l, 1 ≤ n ∧ n ≤ 4096) (hw : w.data.length ≤ 1000000000) : CC Tryz.prog 106 [.sl tk 1 (l.map ic), .agg (wrC w)] H V (Pu (er (fitsS l w)) H V) := by
  refine CC.of_swp Tryz.func106 rfl (by kernel_rfl) (by rw [Tryz.ntmps106]; exact len_le _ _ rfl) fun hok hokH => ?_
  clear hok
  refine SWp.seq (Wp.s ?_)
  simp -implicitDefEqProofs [go_sem, args0]
  refine SWp.seq (SWp.seq (Wp.s ?_))
  by_cases h1 : w.volume < 0
  · simp -implicitDefEqProofs [go_sem, h1]
    refine Wp.s ?_
    simp -implicitDefEqProofs [go_sem]
    exact Fin.er (fitsS_7 (.inl h1)) hokH (by simp) (by simp)
  by_cases h2 : (l.length : Int) ≤ w.volume
  · simp -implicitDefEqProofs [go_sem, h1, h2]
    refine Wp.s ?_
    simp -implicitDefEqProofs [go_sem]
    exact Fin.er (fitsS_7 (.inr h2)) hokH (by simp) (by simp)
  simp -implicitDefEqProofs [go_sem, h1, h2]
  refine Wp.s ?_
  simp -implicitDefEqProofs [go_sem]
  refine SWp.seq (SWp.seq (Wp.s ?_))
  by_cases h3 : w.data.length = 0
  · have h3' : w.data = [] := List.length_eq_zero_iff.1 h3
    simp -implicitDefEqProofs [go_sem, h3']
    refine Wp.s ?_
    simp -implicitDefEqProofs [go_sem]
    exact Fin.er (by rw [fitsS, if_neg (by omega), if_pos h3]) hokH (by simp) (by simp)
  have h3' : ¬ w.data = [] := fun q => h3 (by rw [q]; rfl)
  simp -implicitDefEqProofs [go_sem, h3']
  refine Wp.s ?_
  simp -implicitDefEqProofs [go_sem]
  obtain ⟨k, hk⟩ := Int.eq_ofNat_of_zero_le (show 0 ≤ w.volume by omega)
  have hkl : k < l.length := by omega
  have hlk := hs _ (List.getElem_mem hkl)
  have e0 : fitsS l w = if w.start < 0 ∨ l[k] - w.data.length < w.start then 2 else 0 := by
    rw [fitsS, if_neg (by omega), if_neg h3, hk, Int.toNat_natCast, List.getD_eq_getElem?_getD, List.getElem?_eq_getElem hkl]; rfl
  refine SWp.seq (SWp.seq (SWp.drawnT [] [] (.s 0 .pl <| .s 1 .pl <| .s 2 .pl <| .s 3 .pl <| .s 4 .pl <| .s 5 .pl <| .s 6 .pl <| .s 7 .pl <| .s 8 .pl <| .s 9 .pl <| .s 10 .pl <| .s 11 .pl <| .s 12 .pl <| .s 13 .pl <| .s 14 .pl <| .s 15 .pl <| .s 16 .pl <| .s 17 .pl <| .s 18 .pl <| .s 19 .pl <| .s 20 .pl <| .s 21 .pl <| .s 22 .pl <| .s 23 .pl <| .s 24 .pl <| .s 25 .pl <| .s 26 .pl <| .n) (by kernel_rfl) (by kernel_rfl) ?_))
  by_cases b1 : w.start < 0
  · simp -implicitDefEqProofs [go_sem, b1]
    refine Wp.s ?_
    simp -implicitDefEqProofs [go_sem]
    exact Fin.er (by rw [e0, if_pos (.inl b1)]) hokH (by simp) (by simp)
  by_cases b2 : l[k] ≤ w.start
  · simp -implicitDefEqProofs [go_sem, b1, hk, hkl, b2]
    refine Wp.s ?_
    simp -implicitDefEqProofs [go_sem]
    exact Fin.er (by rw [e0, if_pos (.inr (by omega))]) hokH (by simp) (by simp)
  have w1 : IntKind.i64.wrap (l[k] - w.start) = l[k] - w.start := IntWalk.i64_in _ ⟨by omega, by omega⟩
  by_cases b3 : l[k] - w.start < (w.data.length : Int)
  · simp -implicitDefEqProofs [go_sem, b1, hk, hkl, b2, w1, b3]
    refine Wp.s ?_
    simp -implicitDefEqProofs [go_sem]
    exact Fin.er (by rw [e0, if_pos (.inr (by omega))]) hokH (by simp) (by simp)
  · simp -implicitDefEqProofs [go_sem, b1, hk, hkl, b2, w1, b3]
    refine Wp.s ?_
    simp -implicitDefEqProofs [go_sem]
    refine SWp.seq (Wp.s ?_)
    simp -implicitDefEqProofs [go_sem]
    refine Wp.s ?_
    simp -implicitDefEqProofs [go_sem]
    exact Fin.er (by rw [e0, if_neg (by omega)]) hokH (by simp) (by simp)
def mrep (i : Nat) : List (List CV) := (List.replicate i (4096 : Int)).map ic
theorem mrep_8 : mrep 8 = mostS.map ic := rfl
theorem mrep_1 : [[CV.v (.int .i64 4096)]] = mrep 1 := rfl
theorem mrep_len (i : Nat) : (mrep i).length = i := by rw [mrep, List.length_map, List.length_replicate]
theorem mrep_step (i : Nat) : mrep i ++ [[CV.v (.int .i64 4096)]] = mrep (i + 1) := by
  unfold mrep; rw [List.replicate_succ', List.map_append]; rfl
theorem most_cc (H : Hp) (V : List Nat)  : CC Tryz.prog 48 [] H V (Fr 1 (mostS.map ic) H V) := by
  refine CC.of_swp Tryz.func48 rfl (by kernel_rfl) (by rw [Tryz.ntmps48]; exact len_le _ _ rfl) fun hok hokH => ?_
  clear hok
  refine SWp.seq (Wp.s ?_)
  simp -implicitDefEqProofs [go_sem, args0]
  refine SWp.seq (Wp.s ?_)
  simp -implicitDefEqProofs [go_sem]
  refine SWp.join (α := Nat) (fun v => ([(1, .sl (.own V.length v) 1 (mostS.map ic))], H, V ++ [v])) (fun _ => True) ?_ ?_
  · refine SWp.seq (Wp.s ?_)
    simp -implicitDefEqProofs [go_sem]
    refine SWp.block ?_
    refine SWp.loop (α := Nat × CV × List Nat) (fun x => ([(1, x.2.1), (2, ci x.1)], H, x.2.2)) (fun x => x.1 ≤ 8 ∧ ((x.1 = 0 ∧ x.2.1 = .v (.slice none 0 0) ∧ x.2.2 = V) ∨ ∃ v, x.2.1 = .sl (.own V.length v) 1 (mrep x.1) ∧ x.2.2 = V ++ [v])) (fun x => 8 - x.1) (0, .v (.slice none 0 0), V) ⟨by simp, .inl ⟨rfl, rfl, rfl⟩⟩ (Sh.forget (by simp [go_sem]) rfl rfl) ?_
    rintro ⟨i, cv, V1⟩ ⟨hi, hcv⟩
    dsimp only at hi hcv ⊢
    refine SWp.seq (SWp.seq (Wp.s ?_))
    by_cases h : i < 8
    case neg =>
      simp -implicitDefEqProofs [go_sem, show ¬ (i : Int) < 8 by omega]
      refine Wp.s ?_
      simp -implicitDefEqProofs [go_sem]
      obtain rfl : i = 8 := by omega
      rcases hcv with ⟨h0, _⟩ | ⟨v, rfl, rfl⟩
      · cases h0
      · exact ⟨v, Sh.forget (by rw [← mrep_8]; simp [go_sem]) rfl rfl⟩
    simp -implicitDefEqProofs [go_sem, show (i : Int) < 8 by omega]
    refine Wp.s ?_
    simp -implicitDefEqProofs [go_sem]
    refine SWp.seq (SWp.block (Wp.s ?_))
    rcases hcv with ⟨rfl, rfl, rfl⟩ | ⟨v, rfl, rfl⟩
    · simp -implicitDefEqProofs [go_sem]
      refine Wp.s ?_
      simp -implicitDefEqProofs [go_sem]
      exact ⟨1, _, _, ⟨by omega, .inr ⟨0, rfl, rfl⟩⟩, by omega, Sh.forget (by simp [go_sem, mrep_1]; exact .refl _) rfl rfl⟩
    · simp -implicitDefEqProofs [go_sem, mrep_len]
      refine ⟨by omega, ?_⟩
      refine Wp.s ?_
      simp -implicitDefEqProofs [go_sem]
      refine ⟨i + 1, _, _, ⟨by omega, .inr ⟨v + 1, rfl, rfl⟩⟩, by omega, Sh.forget ?_ rfl rfl⟩
      rw [← mrep_step]
      simp [go_sem, wrap_succ (show i ≤ 1000000000 by omega)]
  · rintro v -
    dsimp only
    refine SWp.seq (Wp.s ?_)
    simp -implicitDefEqProofs [go_sem]
    refine Wp.s ?_
    simp -implicitDefEqProofs [go_sem]
    exact Fin.fresh rfl (by simp [go_sem]) hokH (by simp)
end Go.Proofs.YtfbjhkpdlihgeaaGreat
namespace Go.Proofs.YtfbjhkpdlihgeaaGreat
open Go.Proofs
theorem fitsS_st {l : List Int} {w : Wr} (hs : ∀ n ∈ l, 1 ≤ n ∧ n ≤ 4096) (h : fitsS l w = 0) : 0 ≤ w.start ∧ w.start ≤ 4096 := by
  unfold fitsS at h
  split at h
  · cases h
  · rename_i h1
    split at h
    · cases h
    · split at h
      · cases h
      · rename_i h3
        have hk : w.volume.toNat < l.length := by omega
        rw [List.getD_eq_getElem?_getD, List.getElem?_eq_getElem hk, Option.getD_some] at h3
        have := hs _ (List.getElem_mem hk)
        omega
set_option maxRecDepth 8000 in
theorem refWs_cc (H : Hp) (V : List Nat) (tk t2 : Tk) (l : List Wr) (sizes : List Int) (hl : l.length ≤ 1000000000) (hw : WrS l) (h2 : sizes.length ≤ 1000000000) : CC Tryz.prog 79 [.sl tk 3 (l.map wrC), .sl t2 1 (sizes.map ic)] H V (Pu (er (wsE sizes l)) H V) := by
  refine CC.of_swp Tryz.func79 rfl (by kernel_rfl) (by rw [Tryz.ntmps79]; exact len_le _ _ rfl) fun hok hokH => ?_
  have ht : okTk V.length tk ∧ okTk V.length t2 := by
    rw [okL, okL, okL, okV, okV] at hok
    exact ⟨hok.1.1, hok.2.1.1⟩
  refine SWp.seq (Wp.s ?_)
  simp -implicitDefEqProofs [go_sem, args0]
  refine SWp.seq (SWp.seq (Wp.s ?_))
  simp -implicitDefEqProofs [go_sem]
  refine CC.mono (refSizes_cc _ _ _ sizes (by omega)) ?_
  rintro _ _ _ ⟨rfl, rfl, rfl⟩
  simp -implicitDefEqProofs [go_sem]
  by_cases hz : sizesE sizes = 0
  case neg =>
    refine SWp.seq (Wp.s ?_)
    simp -implicitDefEqProofs [go_sem]
    refine Wp.s ?_
    simp -implicitDefEqProofs [go_sem, hz]
    exact Fin.er (by rw [wsE, if_pos hz]) hokH (by simp) (by simp)
  refine SWp.seq (Wp.s ?_)
  simp -implicitDefEqProofs [go_sem]
  refine Wp.s ?_
  simp -implicitDefEqProofs [go_sem, hz]
  have hss := (sizesE_0 hz).2.2
  have ew : wsE sizes l = chkW (fitsS sizes) none l := by rw [wsE, if_neg (by simp [hz])]
  refine SWp.join (α := Unit) (fun _ => ([], H, V)) (fun _ => chkW (fitsS sizes) none l = 0) ?_ ?_
  · refine SWp.seq (Wp.s ?_)
    simp -implicitDefEqProofs [go_sem]
    refine SWp.block ?_
    refine SWp.loop (α := Nat) (fun i => ([(0, .sl tk 3 (l.map wrC)), (1, .sl t2 1 (sizes.map ic)), (6, ci i)], H, V)) (fun i => i ≤ l.length ∧ chkW (fitsS sizes) none l = chkW (fitsS sizes) (prevW l i) (l.drop i) ∧ ∀ x, prevW l i = some x → fitsS sizes x = 0) (fun i => l.length - i) 0 ⟨Nat.zero_le _, rfl, fun x hx => by cases hx⟩ (Sh.forget (by simp [go_sem]) rfl rfl) ?_
    rintro i ⟨hi, hp, hpf⟩
    dsimp only
    refine SWp.seq (SWp.seq (Wp.s ?_))
    simp -implicitDefEqProofs [go_sem]
    refine Wp.s ?_
    simp -implicitDefEqProofs [go_sem]
    refine ⟨fun h => ?_, fun h => ⟨?_, Sh.forget (by simp [go_sem]) rfl rfl⟩⟩
    case refine_2 => rw [hp, List.drop_of_length_le h]; cases prevW l i <;> rfl
    have hwi := hw _ (List.getElem_mem h)
    refine SWp.seq (SWp.block (SWp.seq (SWp.seq (Wp.s ?_))))
    simp -implicitDefEqProofs [go_sem, h]
    refine CC.mono (refFits_cc _ _ _ sizes l[i] h2 hss (by omega)) ?_
    rintro _ _ _ ⟨rfl, rfl, rfl⟩
    simp -implicitDefEqProofs [go_sem]
    have next : (∀ x, prevW l i = some x → badO x l[i] = false) → fitsS sizes l[i] = 0 → (chkW (fitsS sizes) none l = chkW (fitsS sizes) (prevW l (i + 1)) (l.drop (i + 1)) ∧ ∀ x, prevW l (i + 1) = some x → fitsS sizes x = 0) := fun hb h0 => by
      have e : prevW l (i + 1) = some l[i] := List.getElem?_eq_getElem h
      rw [hp, chkW_step h h0 hb, e]
      exact ⟨rfl, fun x hx => by cases hx; exact h0⟩
    by_cases h0 : fitsS sizes l[i] = 0
    case neg =>
      refine SWp.seq (Wp.s ?_)
      simp -implicitDefEqProofs [go_sem]
      refine Wp.s ?_
      simp -implicitDefEqProofs [go_sem, h0]
      exact Fin.er (by rw [ew, hp, List.drop_eq_getElem_cons h]; cases prevW l i <;> rw [chkW, if_pos h0]) hokH (by simp) (by simp)
    refine SWp.seq (Wp.s ?_)
    simp -implicitDefEqProofs [go_sem]
    refine Wp.s ?_
    simp -implicitDefEqProofs [go_sem, h0]
    have fin : ∀ {T : Tm} {L : Hp}, TLe T [(0, .sl tk 3 (l.map wrC)), (1, .sl t2 1 (sizes.map ic)), (6, ci (i + 1 : Nat))] → Sh 69 H.length V.length T (H ++ L) V ([(0, .sl tk 3 (l.map wrC)), (1, .sl t2 1 (sizes.map ic)), (6, ci (i + 1 : Nat))], H, V) := fun {T L} hT =>
      Sh.back hT rfl rfl (by simp [go_sem, okV_slt, ht.1, ht.2, okE_wrs, okE_ints]) hokH (by simp) (by simp)
    refine SWp.seq (SWp.seq (Wp.s ?_))
    by_cases hi0 : i = 0
    · subst hi0
      simp -implicitDefEqProofs [go_sem]
      refine Wp.s ?_
      simp -implicitDefEqProofs [go_sem]
      refine Wp.s ?_
      simp -implicitDefEqProofs [go_sem, show IntKind.i64.wrap 1 = 1 from rfl]
      exact ⟨1, ⟨by omega, next (fun x hx => by cases hx) h0⟩, by omega, Sh.forget (by simp [go_sem]) rfl rfl⟩
    · have hwm : IntKind.i64.wrap ((i : Int) - 1) = ((i - 1 : Nat) : Int) := by rw [IntWalk.i64_in _ ⟨by omega, by omega⟩]; omega
      have hx1 : i - 1 < l.length := by omega
      have hprev : prevW l i = some l[i - 1] := by
        obtain ⟨k, rfl⟩ : ∃ k, i = k + 1 := ⟨i - 1, by omega⟩
        simp only [prevW, Nat.add_sub_cancel]
        exact List.getElem?_eq_getElem (by omega)
      simp -implicitDefEqProofs [go_sem, hi0]
      refine Wp.s ?_
      simp -implicitDefEqProofs [go_sem]
      refine SWp.seq (Wp.s ?_)
      simp -implicitDefEqProofs [go_sem, hwm, hx1]
      have hwx := hw _ (List.getElem_mem hx1)
      obtain ⟨s1, s2⟩ := fitsS_st hss (hpf _ hprev)
      have hadd : IntKind.i64.wrap (l[i - 1].start + (l[i - 1].data.length : Int)) = l[i - 1].start + (l[i - 1].data.length : Int) := IntWalk.i64_in _ ⟨by omega, by omega⟩
      have hadd2 : IntKind.i64.wrap (l[i - 1].start + (l[i - 1].data.length : Int) + 1) = l[i - 1].start + (l[i - 1].data.length : Int) + 1 := IntWalk.i64_in _ ⟨by omega, by omega⟩
      have bad : badO l[i - 1] l[i] = true → chkW (fitsS sizes) none l = 3 := fun hb => by
        rw [hp, hprev, List.drop_eq_getElem_cons h, chkW, if_neg (by simp [h0]), if_pos hb]
      have good : badO l[i - 1] l[i] = false → _ := fun hb => next (fun x hx => by rw [hprev] at hx; cases hx; exact hb) h0
      refine SWp.seq (SWp.drawnT [] [] (.s 0 .pl <| .s 1 .pl <| .s 2 .pl <| .s 3 .pl <| .s 4 .pl <| .s 5 .pl <| .s 6 .pl <| .s 7 .pl <| .s 8 .pl <| .s 9 .pl <| .s 10 .pl <| .s 11 .pl <| .s 12 .pl <| .s 13 .pl <| .s 14 .pl <| .s 15 .pl <| .s 16 .pl <| .s 17 .pl <| .s 18 .pl <| .s 19 .pl <| .s 20 .pl <| .s 21 .pl <| .s 22 .pl <| .s 23 .pl <| .s 24 .pl <| .s 25 .pl <| .s 26 .pl <| .s 27 .pl <| .s 28 .pl <| .s 29 .pl <| .s 30 .pl <| .s 31 .pl <| .s 32 .pl <| .n) (by kernel_rfl) (by kernel_rfl) ?_)
      by_cases b1 : l[i].volume < l[i - 1].volume
      · simp -implicitDefEqProofs [go_sem, h, b1]
        refine Wp.s ?_
        simp -implicitDefEqProofs [go_sem]
        exact Fin.er (by rw [ew]; exact bad (by simp [badO, b1])) hokH (by simp) (by simp)
      by_cases b2 : l[i].volume = l[i - 1].volume
      · by_cases b3 : l[i].start ≤ l[i - 1].start + l[i - 1].data.length
        · simp -implicitDefEqProofs [go_sem, h, b1, b2, hadd, hadd2, show l[i].start < l[i - 1].start + (l[i - 1].data.length : Int) + 1 by omega]
          refine Wp.s ?_
          simp -implicitDefEqProofs [go_sem]
          exact Fin.er (by rw [ew]; exact bad (by simp [badO, b2, b3])) hokH (by simp) (by simp)
        · simp -implicitDefEqProofs [go_sem, h, b1, b2, hadd, hadd2, show ¬ l[i].start < l[i - 1].start + (l[i - 1].data.length : Int) + 1 by omega]
          refine Wp.s ?_
          simp -implicitDefEqProofs [go_sem]
          refine Wp.s ?_
          simp -implicitDefEqProofs [go_sem, wrap_succ (show i ≤ 1000000000 by omega)]
          refine ⟨i + 1, ⟨by omega, good (by simp [badO, b2]; omega)⟩, by omega, fin ?_⟩
          simp [go_sem]
      · simp -implicitDefEqProofs [go_sem, h, b1, b2]
        refine Wp.s ?_
        simp -implicitDefEqProofs [go_sem]
        refine Wp.s ?_
        simp -implicitDefEqProofs [go_sem, wrap_succ (show i ≤ 1000000000 by omega)]
        refine ⟨i + 1, ⟨by omega, good (by simp [badO, b1, b2])⟩, by omega, fin ?_⟩
        simp [go_sem]
  · rintro _ hp
    dsimp only
    refine SWp.seq (Wp.s ?_)
    simp -implicitDefEqProofs [go_sem]
    refine Wp.s ?_
    simp -implicitDefEqProofs [go_sem]
    exact Fin.er (by rw [ew, hp]) hokH (by simp) (by simp)
def posB (l : List Int) : Bool := l.any badPos
def posT (l : List Int) (i : Nat) : Bool := (l.take i).any badPos
theorem refPos_cc (H : Hp) (V : List Nat) (tk : Tk) (l : List Int) (hl : l.length ≤ 9223372036854775807) : CC Tryz.prog 78 [.sl tk 1 (l.map ic)] H V (Pu (er (if posB l = true then 2 else 0)) H V) := by
  refine CC.of_swp Tryz.func78 rfl (by kernel_rfl) (by rw [Tryz.ntmps78]; exact len_le _ _ rfl) fun hok hokH => ?_
  clear hok
  refine SWp.seq (Wp.s ?_)
  simp -implicitDefEqProofs [go_sem, args0]
  refine SWp.join (α := Unit) (fun _ => ([], H, V)) (fun _ => posB l = false) ?_ ?_
  · refine SWp.seq (Wp.s ?_)
    simp -implicitDefEqProofs [go_sem]
    refine SWp.block ?_
    refine SWp.loop (α := Nat) (fun i => ([(0, .sl tk 1 (l.map ic)), (3, ci i)], H, V)) (fun i => i ≤ l.length ∧ posT l i = false) (fun i => l.length - i) 0 ⟨Nat.zero_le _, rfl⟩ (Sh.forget (by simp [go_sem]) rfl rfl) ?_
    rintro i ⟨hi, hp⟩
    dsimp only
    refine SWp.seq (SWp.seq (Wp.s ?_))
    simp -implicitDefEqProofs [go_sem]
    refine Wp.s ?_
    simp -implicitDefEqProofs [go_sem]
    refine ⟨fun h => ?_, fun h => ⟨?_, Sh.forget (by simp [go_sem]) rfl rfl⟩⟩
    · refine SWp.seq (SWp.block (SWp.seq (Wp.s ?_)))
      have bad : l[i] < 0 ∨ 1073741824 < l[i] → posB l = true := fun q => any_at h (by simp only [badPos, inB, Bool.not_eq_true', Bool.and_eq_false_iff, decide_eq_false_iff_not]; omega)
      by_cases b1 : l[i] < 0
      · simp -implicitDefEqProofs [go_sem, h, b1]
        refine Wp.s ?_
        simp -implicitDefEqProofs [go_sem]
        exact Fin.er (by rw [if_pos (bad (.inl b1))]) hokH (by simp) (by simp)
      by_cases b2 : 1073741824 < l[i]
      · simp -implicitDefEqProofs [go_sem, h, b1, b2]
        refine Wp.s ?_
        simp -implicitDefEqProofs [go_sem]
        exact Fin.er (by rw [if_pos (bad (.inr b2))]) hokH (by simp) (by simp)
      simp -implicitDefEqProofs [go_sem, h, b1, b2]
      refine Wp.s ?_
      simp -implicitDefEqProofs [go_sem]
      refine Wp.s ?_
      simp -implicitDefEqProofs [go_sem]
      refine ⟨i + 1, ⟨by omega, any_take h hp (by simp only [badPos, inB, Bool.not_eq_false', Bool.and_eq_true, decide_eq_true_eq]; omega)⟩, by omega, Sh.forget ?_ rfl rfl⟩
      simp [go_sem, wrap_big (show i < 9223372036854775807 by omega)]
    · unfold posT at hp; rwa [List.take_of_length_le h] at hp
  · rintro _ hp
    dsimp only
    refine SWp.seq (Wp.s ?_)
    simp -implicitDefEqProofs [go_sem]
    refine Wp.s ?_
    simp -implicitDefEqProofs [go_sem]
    exact Fin.er (by rw [if_neg (by rw [hp]; decide)]) hokH (by simp) (by simp)
theorem refCChk_cc (H : Hp) (V : List Nat) (t2 : Tk) (c : Cyc) (sizes : List Int) (hl : c.wrs.length ≤ 1000000000) (hw : WrS c.wrs) (h2 : sizes.length ≤ 1000000000) (h3 : c.poss.length ≤ 1000000000) : CC Tryz.prog 47 [.agg (cycC c), .sl t2 1 (sizes.map ic)] H V (Pu (er (chkC c sizes)) H V) := by
  refine CC.of_swp Tryz.func47 rfl (by kernel_rfl) (by rw [Tryz.ntmps47]; exact len_le _ _ rfl) fun hok hokH => ?_
  clear hok
  refine SWp.seq (Wp.s ?_)
  simp -implicitDefEqProofs [go_sem, args0]
  refine SWp.seq (SWp.seq (Wp.s ?_))
  simp -implicitDefEqProofs [go_sem]
  refine CC.mono (refSizes_cc _ _ _ sizes (by omega)) ?_
  rintro _ _ _ ⟨rfl, rfl, rfl⟩
  simp -implicitDefEqProofs [go_sem]
  by_cases hz : sizesE sizes = 0
  case neg =>
    refine SWp.seq (Wp.s ?_)
    simp -implicitDefEqProofs [go_sem]
    refine Wp.s ?_
    simp -implicitDefEqProofs [go_sem, hz]
    exact Fin.er (by rw [chkC, if_pos hz]) hokH (by simp) (by simp)
  refine SWp.seq (Wp.s ?_)
  simp -implicitDefEqProofs [go_sem]
  refine Wp.s ?_
  simp -implicitDefEqProofs [go_sem, hz]
  have e0 : chkC c sizes = if c.base < 0 ∨ c.number ≤ c.base ∨ 1073741824 < c.number then 2 else if inB c.time 0 1073741824 = false then 24 else if posE c.poss 0 ≠ 0 then posE c.poss 0 else wsE sizes c.wrs := by rw [chkC, if_neg (by simp [hz])]
  refine SWp.seq (SWp.seq (Wp.s ?_))
  by_cases b1 : c.base < 0
  · simp -implicitDefEqProofs [go_sem, b1]
    refine Wp.s ?_
    simp -implicitDefEqProofs [go_sem]
    exact Fin.er (by rw [e0, if_pos (.inl b1)]) hokH (by simp) (by simp)
  by_cases b2 : c.number ≤ c.base
  · simp -implicitDefEqProofs [go_sem, b1, b2]
    refine Wp.s ?_
    simp -implicitDefEqProofs [go_sem]
    exact Fin.er (by rw [e0, if_pos (.inr (.inl b2))]) hokH (by simp) (by simp)
  by_cases b3 : 1073741824 < c.number
  · simp -implicitDefEqProofs [go_sem, b1, b2, b3]
    refine Wp.s ?_
    simp -implicitDefEqProofs [go_sem]
    exact Fin.er (by rw [e0, if_pos (.inr (.inr b3))]) hokH (by simp) (by simp)
  rw [if_neg (by omega)] at e0
  simp -implicitDefEqProofs [go_sem, b1, b2, b3]
  refine Wp.s ?_
  simp -implicitDefEqProofs [go_sem]
  refine SWp.seq (SWp.seq (Wp.s ?_))
  by_cases t1 : c.time < 0
  · simp -implicitDefEqProofs [go_sem, t1]
    refine Wp.s ?_
    simp -implicitDefEqProofs [go_sem]
    exact Fin.er (by rw [e0, if_pos (by simp [inB]; omega)]) hokH (by simp) (by simp)
  by_cases t2 : 1073741824 < c.time
  · simp -implicitDefEqProofs [go_sem, t1, t2]
    refine Wp.s ?_
    simp -implicitDefEqProofs [go_sem]
    exact Fin.er (by rw [e0, if_pos (by simp [inB]; omega)]) hokH (by simp) (by simp)
  rw [if_neg (by simp [inB]; omega)] at e0
  simp -implicitDefEqProofs [go_sem, t1, t2]
  refine Wp.s ?_
  simp -implicitDefEqProofs [go_sem]
  refine SWp.seq (SWp.seq (Wp.s ?_))
  by_cases p1 : 8 < c.poss.length
  · simp -implicitDefEqProofs [go_sem, show (8 : Int) < c.poss.length by omega]
    refine Wp.s ?_
    simp -implicitDefEqProofs [go_sem]
    have hpe : posE c.poss 0 = 6 := by rw [posE, if_pos (by simp [inB]; omega)]
    exact Fin.er (by rw [e0, hpe]; rfl) hokH (by simp) (by simp)
  have hpe : posE c.poss 0 = if posB c.poss = true then 2 else 0 := by rw [posE, if_neg (by simp [inB]; omega)]; rfl
  rw [hpe] at e0
  simp -implicitDefEqProofs [go_sem, show ¬ (8 : Int) < c.poss.length by omega]
  refine Wp.s ?_
  simp -implicitDefEqProofs [go_sem]
  refine SWp.seq (SWp.seq (Wp.s ?_))
  simp -implicitDefEqProofs [go_sem]
  refine CC.mono (refPos_cc _ _ .sh c.poss (by omega)) ?_
  rintro _ _ _ ⟨rfl, rfl, rfl⟩
  cases hpb : posB c.poss with
  | true =>
    rw [hpb] at e0
    simp -implicitDefEqProofs [go_sem, hpb]
    refine SWp.seq (Wp.s ?_)
    simp -implicitDefEqProofs [go_sem]
    refine Wp.s ?_
    simp -implicitDefEqProofs [go_sem]
    exact Fin.er (by rw [e0]; rfl) hokH (by simp) (by simp)
  | false =>
    rw [hpb] at e0
    simp -implicitDefEqProofs [go_sem, hpb]
    refine SWp.seq (Wp.s ?_)
    simp -implicitDefEqProofs [go_sem]
    refine Wp.s ?_
    simp -implicitDefEqProofs [go_sem]
    refine SWp.seq (Wp.s ?_)
    simp -implicitDefEqProofs [go_sem]
    refine CC.mono (refWs_cc _ _ .sh _ c.wrs sizes hl hw h2) ?_
    rintro _ _ _ ⟨rfl, rfl, rfl⟩
    simp -implicitDefEqProofs [go_sem]
    refine Wp.s ?_
    simp -implicitDefEqProofs [go_sem]
    exact Fin.er (by rw [e0]; rfl) hokH (by simp) (by simp)
end Go.Proofs.YtfbjhkpdlihgeaaGreat
namespace Go.Proofs.YtfbjhkpdlihgeaaGreat
open Go.Proofs
theorem refEncode_cc (H : Hp) (V : List Nat) (c : Cyc) (hl : c.wrs.length ≤ 800000000) (hw : WrS c.wrs) (h3 : c.poss.length ≤ 1000000) (h4 : (encWrs c.wrs).length ≤ 800000000) : CC Tryz.prog 25 [.agg (cycC c)] H V (Pu (.tup [.sl .sh 1 (bs (encB c)), er (encE c)]) H V) := by
  refine CC.of_swp Tryz.func25 rfl (by kernel_rfl) (by rw [Tryz.ntmps25]; exact len_le _ _ rfl) fun hok hokH => ?_
  clear hok
  refine SWp.seq (Wp.s ?_)
  simp -implicitDefEqProofs [go_sem, args0]
  refine SWp.seq (SWp.seq (SWp.drawnT [] [] (.s 0 .pl <| .s 1 .pl <| .s 2 .pl <| .s 3 .pl <| .n) (by kernel_rfl) (by kernel_rfl) ?_))
  simp -implicitDefEqProofs [go_sem]
  refine CC.mono (most_cc _ _) ?_
  rintro _ _ _ ⟨v, rfl, rfl, rfl⟩
  simp -implicitDefEqProofs [go_sem]
  refine CC.mono (refCChk_cc _ _ _ c mostS (by omega) hw (by decide) (by omega)) ?_
  rintro _ _ _ ⟨rfl, rfl, rfl⟩
  simp -implicitDefEqProofs [go_sem]
  by_cases he : chkC c mostS = 0
  case neg =>
    refine SWp.seq (Wp.s ?_)
    simp -implicitDefEqProofs [go_sem]
    refine Wp.s ?_
    simp -implicitDefEqProofs [go_sem, he]
    have e1 : encE c = chkC c mostS := by rw [encE, if_pos he]
    exact Fin.tup2 (by rw [encB, e1, if_neg he]; exact .nil 1 (by decide)) (.of_eq (by rw [e1] <;> rfl)) (by simp [go_sem]) (by simp [go_sem]) hokH (by simp) (by simp)
  refine SWp.seq (Wp.s ?_)
  simp -implicitDefEqProofs [go_sem]
  refine Wp.s ?_
  simp -implicitDefEqProofs [go_sem, he]
  have e0 : encE c = if 65536 < (encCyc c).length then 5 else 0 := by rw [encE, if_neg (by simp [he])]
  have hi8 : (encInts c.poss).length ≤ 8 + 8 * c.poss.length := by
    rw [encInts, List.length_append]
    have := enc_len c.poss.length
    have := flat_len (f := enc) enc_len c.poss
    omega
  have a1 := enc_len c.base
  have a2 := enc_len c.number
  have a3 := enc_len c.time
  refine SWp.seq (SWp.drawnT [] [] (.s 0 .pl <| .s 1 .pl <| .s 3 .pl <| .s 4 .pl <| .s 6 .pl <| .s 7 .pl <| .s 2 .pl <| .s 5 .pl <| .s 8 .pl <| .s 9 .pl <| .n) (by kernel_rfl) (by kernel_rfl) ?_)
  simp -implicitDefEqProofs [go_sem]
  refine CC.mono (CC.nil0 (sz := 1) (by decide) (refPutInt_cc _ _ .sh [] c.base (by simp))) ?_
  rintro _ _ _ ⟨v1, rfl, rfl, rfl⟩
  simp -implicitDefEqProofs [go_sem]
  refine CC.mono (refPutInt_cc _ _ _ (enc c.base) c.number (by omega)) ?_
  rintro _ _ _ ⟨v2, rfl, rfl, rfl⟩
  simp -implicitDefEqProofs [go_sem]
  refine CC.mono (refPutInt_cc _ _ _ (enc c.base ++ enc c.number) c.time (by simp only [List.length_append]; omega)) ?_
  rintro _ _ _ ⟨v3, rfl, rfl, rfl⟩
  simp -implicitDefEqProofs [go_sem]
  refine SWp.seq (SWp.drawnT [] [] (.s 0 .pl <| .s 1 .pl <| .s 2 .pl <| .s 4 .pl <| .s 5 .pl <| .s 3 .pl <| .s 6 .pl <| .s 7 .pl <| .n) (by kernel_rfl) (by kernel_rfl) ?_)
  simp -implicitDefEqProofs [go_sem]
  refine CC.mono (refPutInts_cc _ _ _ .sh (enc c.base ++ (enc c.number ++ enc c.time)) c.poss (by simp only [List.length_append]; omega)) ?_
  rintro _ _ _ ⟨rfl, rfl, rfl⟩
  simp -implicitDefEqProofs [go_sem]
  refine CC.mono (refPutWrites_cc _ _ .sh .sh (enc c.base ++ (enc c.number ++ (enc c.time ++ encInts c.poss))) c.wrs (by omega) (by simp only [List.length_append]; omega)) ?_
  rintro _ _ _ ⟨rfl, rfl, rfl⟩
  have eC : enc c.base ++ (enc c.number ++ (enc c.time ++ encInts c.poss)) ++ encWrs c.wrs = encCyc c := by unfold encCyc; simp
  rw [eC]
  simp -implicitDefEqProofs [go_sem]
  refine SWp.seq (SWp.seq (Wp.s ?_))
  by_cases hbig : 65536 < (encCyc c).length
  · rw [if_pos hbig] at e0
    simp -implicitDefEqProofs [go_sem, show 65536 < ((encCyc c).length : Int) by omega]
    refine Wp.s ?_
    simp -implicitDefEqProofs [go_sem]
    exact Fin.tup2 (by rw [encB, e0, if_neg (by decide)]; exact .nil 1 (by decide)) (.of_eq (by rw [e0] <;> rfl)) (by simp [go_sem]) (by simp [go_sem]) hokH (by simp) (by simp)
  · rw [if_neg hbig] at e0
    simp -implicitDefEqProofs [go_sem, show ¬ 65536 < ((encCyc c).length : Int) by omega]
    refine Wp.s ?_
    simp -implicitDefEqProofs [go_sem]
    refine SWp.seq (Wp.s ?_)
    simp -implicitDefEqProofs [go_sem]
    refine Wp.s ?_
    simp -implicitDefEqProofs [go_sem]
    exact Fin.tup2 (by rw [encB, if_pos e0]; exact .refl _) (.of_eq (by rw [e0] <;> rfl)) (by simp [go_sem]) (by simp [go_sem]) hokH (by simp) (by simp)
theorem refDecode_cc (H : Hp) (V : List Nat) (tk : Tk) (b : List UInt8) (hl : b.length ≤ 800000000) : CC Tryz.prog 33 [.sl tk 1 (bs b)] H V (Pu (dvC (decC b)) H V) := by
  refine CC.of_swp Tryz.func33 rfl (by kernel_rfl) (by rw [Tryz.ntmps33]; exact len_le _ _ rfl) fun hok hokH => ?_
  clear hok
  have stop : ∀ {e : Nat} {H' : Hp} {V' : List Nat}, decC b = .error e → H'.take H.length = H → V'.take V.length = V → Fin H.length V.length (Pu (dvC (decC b)) H V) (.tup [.agg cycZ, er e]) H' V' := fun h1 h2 h3 => by
    rw [h1]; exact Fin.pu (.tup (.cons Le_zc (.cons (.refl _) .nil))) (by simp [go_sem, dvC]) hokH h2 h3
  refine SWp.seq (Wp.s ?_)
  simp -implicitDefEqProofs [go_sem, args0]
  refine SWp.seq (SWp.seq (Wp.s ?_))
  by_cases hb : 65536 < b.length
  · simp -implicitDefEqProofs [go_sem, show 65536 < (b.length : Int) by omega]
    refine Wp.s ?_
    simp -implicitDefEqProofs [go_sem]
    exact stop (by rw [decC, if_pos hb]) (by simp) (by simp)
  simp -implicitDefEqProofs [go_sem, show ¬ 65536 < (b.length : Int) by omega]
  refine Wp.s ?_
  simp -implicitDefEqProofs [go_sem]
  have e0 : decC b = (match cycP b with | .error e => .error e | .ok (c, r) => if r.length ≠ 0 then .error 3 else if chkC c mostS ≠ 0 then .error (chkC c mostS) else .ok c) := by rw [decC, if_neg hb]; rfl
  refine SWp.seq (Wp.s ?_)
  simp -implicitDefEqProofs [go_sem]
  refine SWp.seq (Wp.s ?_)
  simp -implicitDefEqProofs [go_sem]
  refine SWp.seq (SWp.seq (Wp.s ?_))
  simp -implicitDefEqProofs [go_sem]
  refine CC.mono (refInt_cc _ _ _ b (by omega)) ?_
  rintro _ _ _ ⟨rfl, rfl, rfl⟩
  rcases h1 : number b with e | ⟨n1, r1⟩
  · have hne := ne0_number _ _ h1
    simp -implicitDefEqProofs [go_sem, rdv]
    refine SWp.seq (Wp.s ?_)
    simp -implicitDefEqProofs [go_sem, hne]
    refine Wp.s ?_
    simp -implicitDefEqProofs [go_sem, hne]
    exact stop (by rw [e0, cycP, repP, h1]) (by simp) (by simp)
  have hl1 := shr_number _ _ _ h1
  simp -implicitDefEqProofs [go_sem, rdv]
  refine SWp.seq (Wp.s ?_)
  simp -implicitDefEqProofs [go_sem]
  refine Wp.s ?_
  simp -implicitDefEqProofs [go_sem]
  refine SWp.seq (SWp.seq (Wp.s ?_))
  simp -implicitDefEqProofs [go_sem]
  refine CC.mono (refInt_cc _ _ .sh r1 (by omega)) ?_
  rintro _ _ _ ⟨rfl, rfl, rfl⟩
  rcases h2 : number r1 with e | ⟨n2, r2⟩
  · have hne := ne0_number _ _ h2
    simp -implicitDefEqProofs [go_sem, rdv]
    refine SWp.seq (Wp.s ?_)
    simp -implicitDefEqProofs [go_sem, hne]
    refine Wp.s ?_
    simp -implicitDefEqProofs [go_sem, hne]
    exact stop (by rw [e0, cycP, repP, h1]; dsimp only; rw [repP, h2]) (by simp) (by simp)
  have hl2 := shr_number _ _ _ h2
  simp -implicitDefEqProofs [go_sem, rdv]
  refine SWp.seq (Wp.s ?_)
  simp -implicitDefEqProofs [go_sem]
  refine Wp.s ?_
  simp -implicitDefEqProofs [go_sem]
  refine SWp.seq (SWp.seq (Wp.s ?_))
  simp -implicitDefEqProofs [go_sem]
  refine CC.mono (refInt_cc _ _ .sh r2 (by omega)) ?_
  rintro _ _ _ ⟨rfl, rfl, rfl⟩
  rcases h3 : number r2 with e | ⟨n3, r3⟩
  · have hne := ne0_number _ _ h3
    simp -implicitDefEqProofs [go_sem, rdv]
    refine SWp.seq (Wp.s ?_)
    simp -implicitDefEqProofs [go_sem, hne]
    refine Wp.s ?_
    simp -implicitDefEqProofs [go_sem, hne]
    exact stop (by rw [e0, cycP, repP, h1]; dsimp only; rw [repP, h2]; dsimp only; rw [repP, h3]) (by simp) (by simp)
  have hl3 := shr_number _ _ _ h3
  have e3 : repP number 3 b = .ok ([n1, n2, n3], r3) := by rw [repP, h1]; dsimp only; rw [repP, h2]; dsimp only; rw [repP, h3]; rfl
  simp -implicitDefEqProofs [go_sem, rdv]
  refine SWp.seq (Wp.s ?_)
  simp -implicitDefEqProofs [go_sem]
  refine Wp.s ?_
  simp -implicitDefEqProofs [go_sem]
  refine SWp.seq (SWp.seq (Wp.s ?_))
  simp -implicitDefEqProofs [go_sem]
  refine CC.mono (refInts_cc _ _ .sh r3 (by omega)) ?_
  rintro _ _ _ ⟨rfl, rfl, rfl⟩
  rcases h4 : listP intP r3 with e | ⟨ps, r4⟩
  · have hne := (ne0_list ne0_int) _ _ h4
    simp -implicitDefEqProofs [go_sem, rdv]
    refine SWp.seq (Wp.s ?_)
    simp -implicitDefEqProofs [go_sem, hne]
    refine Wp.s ?_
    simp -implicitDefEqProofs [go_sem, hne]
    exact stop (by rw [e0, cycP, e3]; dsimp only; rw [h4]) (by simp) (by simp)
  have hl4 := shr_list shr_int _ _ _ h4
  simp -implicitDefEqProofs [go_sem, rdv]
  refine SWp.seq (Wp.s ?_)
  simp -implicitDefEqProofs [go_sem]
  refine Wp.s ?_
  simp -implicitDefEqProofs [go_sem]
  refine SWp.seq (SWp.seq (Wp.s ?_))
  simp -implicitDefEqProofs [go_sem]
  refine CC.mono (refWrites_cc _ _ .sh r4 (by omega)) ?_
  rintro _ _ _ ⟨rfl, rfl, rfl⟩
  rcases h5 : listP wrP r4 with e | ⟨ws, r5⟩
  · have hne := (ne0_list ne0_wr) _ _ h5
    simp -implicitDefEqProofs [go_sem, rdv]
    refine SWp.seq (Wp.s ?_)
    simp -implicitDefEqProofs [go_sem, hne]
    refine Wp.s ?_
    simp -implicitDefEqProofs [go_sem, hne]
    exact stop (by rw [e0, cycP, e3]; dsimp only; rw [h4]; dsimp only; rw [h5]) (by simp) (by simp)
  simp -implicitDefEqProofs [go_sem, rdv]
  refine SWp.seq (Wp.s ?_)
  simp -implicitDefEqProofs [go_sem]
  refine Wp.s ?_
  simp -implicitDefEqProofs [go_sem]
  obtain ⟨c, hc⟩ : ∃ c : Cyc, c = ⟨n1, n2, n3, ps, ws⟩ := ⟨_, rfl⟩
  have ec : cycP b = .ok (c, r5) := by rw [cycP, e3]; dsimp only; rw [h4]; dsimp only; rw [h5, hc]; rfl
  rw [ec] at e0
  dsimp only at e0
  have ecc : [ci n1, ci n2, ci n3, CV.sl .sh 1 (ps.map ic), CV.sl .sh 3 (ws.map wrC)] = cycC c := by rw [hc]; rfl
  refine SWp.seq (SWp.seq (Wp.s ?_))
  by_cases h6 : r5 = []
  case neg =>
    simp -implicitDefEqProofs [go_sem, show 0 < r5.length from List.length_pos_iff.2 h6]
    refine Wp.s ?_
    simp -implicitDefEqProofs [go_sem]
    exact stop (e := 3) (by rw [e0, if_pos (fun q => h6 (List.length_eq_zero_iff.1 q))]) (by simp) (by simp)
  rw [if_neg (by simp [h6])] at e0
  simp -implicitDefEqProofs [go_sem, h6]
  refine Wp.s ?_
  simp -implicitDefEqProofs [go_sem]
  have hwl := list_len h5
  have hpl := list_len h4
  refine SWp.seq (SWp.seq (SWp.drawnT [] [] (.s 0 .pl <| .s 1 .pl <| .s 2 .pl <| .s 3 .pl <| .n) (by kernel_rfl) (by kernel_rfl) ?_))
  simp -implicitDefEqProofs [go_sem]
  rw [ecc]
  refine CC.mono (most_cc _ _) ?_
  rintro _ _ _ ⟨v, rfl, rfl, rfl⟩
  simp -implicitDefEqProofs [go_sem]
  refine CC.mono (refCChk_cc _ _ _ c mostS (by subst hc; show ws.length ≤ _; omega) (by subst hc; exact fun w hw => by have := list_all (Q := fun w => w.data.length ≤ 65536) (fun s a r h => wrP_data h) h5 w hw; omega) (by decide) (by subst hc; show ps.length ≤ _; omega)) ?_
  rintro _ _ _ ⟨rfl, rfl, rfl⟩
  simp -implicitDefEqProofs [go_sem]
  by_cases h7 : chkC c mostS = 0
  case neg =>
    rw [if_pos h7] at e0
    refine SWp.seq (Wp.s ?_)
    simp -implicitDefEqProofs [go_sem]
    refine Wp.s ?_
    simp -implicitDefEqProofs [go_sem, h7]
    exact stop e0 (by simp) (by simp)
  rw [if_neg (by simp [h7])] at e0
  refine SWp.seq (Wp.s ?_)
  simp -implicitDefEqProofs [go_sem]
  refine Wp.s ?_
  simp -implicitDefEqProofs [go_sem, h7]
  refine SWp.seq (Wp.s ?_)
  simp -implicitDefEqProofs [go_sem]
  refine Wp.s ?_
  simp -implicitDefEqProofs [go_sem]
  rw [e0]
  exact Fin.pu (.tup (.cons (.refl _) (.cons (.refl _) .nil))) (by simp [go_sem, dvC]) hokH (by simp) (by simp)
end Go.Proofs.YtfbjhkpdlihgeaaGreat
namespace Go.Proofs.YtfbjhkpdlihgeaaGreat
open Go.Proofs
@[go_sem] theorem cycZ_len : cycZ.length = 5 := rfl
@[go_sem] theorem cycZ_drop5 : cycZ.drop 5 = [] := rfl
theorem flt_mono (l : List (List UInt8)) {i j : Nat} (h : i ≤ j) : (ftk l i).length ≤ (ftk l j).length := by
  unfold ftk
  have : l.take i = (l.take j).take i := by rw [List.take_take, Nat.min_eq_left h]
  rw [this]
  exact flt_le _ _
theorem refCycle_cc (H : Hp) (V : List Nat) (a : Asm) (hl : a.pcs.length ≤ 1000000000) : CC Tryz.prog 12 [.agg (asmC a)] H V (Pu (dvC (cycA a)) H V) := by
  refine CC.of_swp Tryz.func12 rfl (by kernel_rfl) (by rw [Tryz.ntmps12]; exact len_le _ _ rfl) fun hok hokH => ?_
  clear hok
  have stop : ∀ {e : Nat} {H' : Hp} {V' : List Nat}, cycA a = .error e → H'.take H.length = H → V'.take V.length = V → Fin H.length V.length (Pu (dvC (cycA a)) H V) (.tup [.agg cycZ, er e]) H' V' := fun h1 h2 h3 => by
    rw [h1]; exact Fin.pu (.tup (.cons Le_zc (.cons (.refl _) .nil))) (by simp [go_sem, dvC]) hokH h2 h3
  have e0 := cycA_eq a
  refine SWp.seq (Wp.s ?_)
  simp -implicitDefEqProofs [go_sem, args0]
  refine SWp.seq (SWp.seq (Wp.s ?_))
  simp -implicitDefEqProofs [go_sem]
  refine CC.mono (refCheck_cc _ _ a hl) ?_
  rintro _ _ _ ⟨rfl, rfl, rfl⟩
  by_cases hc : chkA a = 0
  case neg =>
    have h3 : chkA a = 3 := by
      unfold chkA at hc ⊢
      split
      · rfl
      · rename_i q
        rw [if_neg q] at hc
        split
        · rfl
        · rename_i q2; rw [if_neg q2] at hc; exact absurd rfl hc
    rw [if_pos hc, h3] at e0
    simp -implicitDefEqProofs [go_sem, hc]
    refine Wp.s ?_
    simp -implicitDefEqProofs [go_sem]
    exact stop e0 (by simp) (by simp)
  obtain ⟨q1, q2, q3, q4⟩ := chkA_len hc
  have hcat := catP_nil0 hc
  have hp4 := chkA_p4 hc
  rw [if_neg (by simp [hc])] at e0
  simp -implicitDefEqProofs [go_sem, hc]
  refine Wp.s ?_
  simp -implicitDefEqProofs [go_sem]
  refine SWp.seq (Wp.s ?_)
  simp -implicitDefEqProofs [go_sem]
  have hps : a.parts = (a.pcs.length : Int) := q1.symm
  have hsl : a.seen.length = a.pcs.length := by omega
  refine SWp.join (α := Unit) (fun _ => ([(1, .ptr H.length 0), (2, .ptr (H.length + 1) 0), (4, .v (.slice none 0 0))], H ++ [some (asmC a), some cycZ], V)) (fun _ => gapB a.seen = false) ?_ ?_
  · refine SWp.seq (Wp.s ?_)
    simp -implicitDefEqProofs [go_sem]
    refine SWp.block ?_
    refine SWp.loop (α := Nat) (fun i => ([(1, .ptr H.length 0), (2, .ptr (H.length + 1) 0), (4, .v (.slice none 0 0)), (5, ci i)], H ++ [some (asmC a), some cycZ], V)) (fun i => i ≤ a.seen.length ∧ gapT a.seen i = false) (fun i => a.seen.length - i) 0 ⟨Nat.zero_le _, rfl⟩ (Sh.forget (by simp [go_sem]) rfl rfl) ?_
    rintro i ⟨hi, hp⟩
    dsimp only
    refine SWp.seq (SWp.seq (Wp.s ?_))
    by_cases h : i < a.seen.length
    case neg =>
      simp -implicitDefEqProofs [go_sem, hps, show ¬ (i : Int) < (a.pcs.length : Int) by omega]
      refine Wp.s ?_
      simp -implicitDefEqProofs [go_sem]
      exact ⟨gapB_all (by omega) hp, Sh.forget (by simp [go_sem]) rfl rfl⟩
    simp -implicitDefEqProofs [go_sem, hps, show (i : Int) < (a.pcs.length : Int) by omega]
    refine Wp.s ?_
    simp -implicitDefEqProofs [go_sem]
    refine SWp.seq (SWp.block (SWp.seq (Wp.s ?_)))
    cases hq : a.seen[i]
    · rw [if_pos (gapB_at h hq)] at e0
      simp -implicitDefEqProofs [go_sem, h, hq]
      refine Wp.s ?_
      simp -implicitDefEqProofs [go_sem]
      exact stop e0 (by simp) (by simp)
    · simp -implicitDefEqProofs [go_sem, h, hq]
      refine Wp.s ?_
      simp -implicitDefEqProofs [go_sem]
      refine Wp.s ?_
      simp -implicitDefEqProofs [go_sem]
      refine ⟨i + 1, ⟨by omega, gapT_step h hp hq⟩, by omega, Sh.forget ?_ rfl rfl⟩
      simp [go_sem, wrap_succ (show i ≤ 1000000000 by omega)]
  · rintro _ hg
    dsimp only
    rw [if_neg (by rw [hg]; decide)] at e0
    refine SWp.join (α := Nat) (fun v => ([(1, .ptr H.length 0), (2, .ptr (H.length + 1) 0), (4, .sl (.own V.length v) 1 (bs (catP a.pcs)))], H ++ [some (asmC a), some cycZ], V ++ [v])) (fun _ => ¬ 65536 < (catP a.pcs).length) ?_ ?_
    · refine SWp.seq (Wp.s ?_)
      simp -implicitDefEqProofs [go_sem]
      refine SWp.block ?_
      refine SWp.loop (α := Nat × CV × List Nat) (fun x => ([(1, .ptr H.length 0), (2, .ptr (H.length + 1) 0), (4, x.2.1), (6, ci x.1)], H ++ [some (asmC a), some cycZ], x.2.2)) (fun x => x.1 ≤ a.pcs.length ∧ (ftk a.pcs x.1).length ≤ 65536 ∧ ((x.1 = 0 ∧ x.2.1 = .v (.slice none 0 0) ∧ x.2.2 = V) ∨ ∃ v, x.2.1 = .sl (.own V.length v) 1 (bs (ftk a.pcs x.1)) ∧ x.2.2 = V ++ [v])) (fun x => a.pcs.length - x.1) (0, .v (.slice none 0 0), V) ⟨by simp, by simp [ftk], .inl ⟨rfl, rfl, rfl⟩⟩ (Sh.forget (by simp [go_sem]) rfl rfl) ?_
      rintro ⟨i, cv, V1⟩ ⟨hi, hft, hcv⟩
      dsimp only at hi hft hcv ⊢
      refine SWp.seq (SWp.seq (Wp.s ?_))
      by_cases h : i < a.pcs.length
      case neg =>
        simp -implicitDefEqProofs [go_sem, hps, show ¬ (i : Int) < (a.pcs.length : Int) by omega]
        refine Wp.s ?_
        simp -implicitDefEqProofs [go_sem]
        have hall := ftk_all (show a.pcs.length ≤ i by omega)
        rw [hall] at hft hcv
        rcases hcv with ⟨h0, _⟩ | ⟨v, rfl, rfl⟩
        · omega
        · exact ⟨by omega, v, Sh.forget (by simp [go_sem]) rfl rfl⟩
      have q5 := ftk_len h
      have q6 := hp4 _ (List.getElem_mem h)
      have q7 := ftk_le a.pcs (i + 1)
      simp -implicitDefEqProofs [go_sem, hps, show (i : Int) < (a.pcs.length : Int) by omega]
      refine Wp.s ?_
      simp -implicitDefEqProofs [go_sem]
      refine SWp.seq (SWp.block ?_)
      refine SWp.join (α := Nat) (fun v => ([(1, .ptr H.length 0), (2, .ptr (H.length + 1) 0), (4, .sl (.own V.length v) 1 (bs (ftk a.pcs (i + 1)))), (6, ci i)], H ++ [some (asmC a), some cycZ], V ++ [v])) (fun _ => True) ?_ ?_
      · rcases hcv with ⟨h0, rfl, hV1⟩ | ⟨v, rfl, rfl⟩
        · obtain rfl := hV1.symm
          subst h0
          have e1 : a.pcs[0] = ftk a.pcs (0 + 1) := by have := ftk_step h; simpa [ftk] using this
          refine Wp.s ?_
          simp -implicitDefEqProofs [go_sem, h]
          refine ⟨by omega, 0, Sh.forget ?_ rfl rfl⟩
          rw [← e1]
          simp [go_sem]
        · refine Wp.s ?_
          simp -implicitDefEqProofs [go_sem, h]
          refine ⟨by omega, v + 1, Sh.forget ?_ rfl rfl⟩
          rw [← ftk_step h]
          simp [go_sem]
      · rintro v -
        dsimp only
        refine SWp.seq (Wp.s ?_)
        by_cases h5 : 65536 < (ftk a.pcs (i + 1)).length
        · rw [if_pos (by omega)] at e0
          simp -implicitDefEqProofs [go_sem, show 65536 < ((ftk a.pcs (i + 1)).length : Int) by omega]
          refine Wp.s ?_
          simp -implicitDefEqProofs [go_sem]
          exact stop e0 (by simp) (by simp)
        · simp -implicitDefEqProofs [go_sem, show ¬ 65536 < ((ftk a.pcs (i + 1)).length : Int) by omega]
          refine Wp.s ?_
          simp -implicitDefEqProofs [go_sem]
          refine Wp.s ?_
          simp -implicitDefEqProofs [go_sem]
          refine ⟨i + 1, _, _, ⟨by omega, by omega, .inr ⟨v, rfl, rfl⟩⟩, by omega, Sh.forget ?_ rfl rfl⟩
          simp [go_sem, wrap_succ (show i ≤ 1000000000 by omega)]
    · rintro v h5
      dsimp only
      rw [if_neg h5] at e0
      refine SWp.seq (SWp.seq (SWp.drawnT [] [] (.s 0 .pl <| .s 3 .pl <| .s 4 .pl <| .s 1 .pl <| .s 2 .pl <| .s 5 .pl <| .n) (by kernel_rfl) (by kernel_rfl) ?_))
      simp -implicitDefEqProofs [go_sem]
      refine CC.mono (refSum_cc _ _ _ (catP a.pcs) (by omega)) ?_
      rintro _ _ _ ⟨rfl, rfl, rfl⟩
      have hw : IntKind.i64.wrap (rn (crc (catP a.pcs))) = rn (crc (catP a.pcs)) := by
        unfold rn
        have := (crc (catP a.pcs)).isLt
        exact IntWalk.i64_in _ ⟨by omega, by omega⟩
      by_cases h9 : rn (crc (catP a.pcs)) = a.sum
      case neg =>
        rw [if_pos h9] at e0
        simp -implicitDefEqProofs [go_sem, hw, h9]
        refine Wp.s ?_
        simp -implicitDefEqProofs [go_sem]
        exact stop e0 (by simp) (by simp)
      rw [if_neg (by simp [h9])] at e0
      rw [h9] at hw
      simp -implicitDefEqProofs [go_sem, h9, hw]
      refine Wp.s ?_
      simp -implicitDefEqProofs [go_sem]
      refine SWp.seq (Wp.s ?_)
      simp -implicitDefEqProofs [go_sem]
      refine CC.mono (refDecode_cc _ _ _ (catP a.pcs) (by omega)) ?_
      rintro _ _ _ ⟨rfl, rfl, rfl⟩
      rcases hd : decC (catP a.pcs) with e | c
      · rw [hd] at e0
        dsimp only at e0
        have hne := decC_ne hd
        simp -implicitDefEqProofs [go_sem, dvC]
        refine SWp.seq (SWp.seq (Wp.s ?_))
        simp -implicitDefEqProofs [go_sem, hne]
        refine Wp.s ?_
        simp -implicitDefEqProofs [go_sem, hne]
        exact stop e0 (by simp) (by simp)
      rw [hd] at e0
      dsimp only at e0
      simp -implicitDefEqProofs [go_sem, dvC]
      refine SWp.seq (SWp.seq (Wp.s ?_))
      simp -implicitDefEqProofs [go_sem]
      refine Wp.s ?_
      simp -implicitDefEqProofs [go_sem]
      refine SWp.seq (SWp.seq (Wp.s ?_))
      by_cases hn : c.number = a.number
      case neg =>
        rw [if_pos hn] at e0
        simp -implicitDefEqProofs [go_sem, hn]
        refine Wp.s ?_
        simp -implicitDefEqProofs [go_sem]
        exact stop e0 (by simp) (by simp)
      rw [if_neg (by simp [hn])] at e0
      simp -implicitDefEqProofs [go_sem, hn]
      refine Wp.s ?_
      simp -implicitDefEqProofs [go_sem]
      refine SWp.seq (Wp.s ?_)
      simp -implicitDefEqProofs [go_sem]
      refine Wp.s ?_
      simp -implicitDefEqProofs [go_sem]
      rw [e0]
      exact Fin.pu (.tup (.cons (.refl _) (.cons (.refl _) .nil))) (by simp [go_sem, dvC]) hokH (by simp) (by simp)
end Go.Proofs.YtfbjhkpdlihgeaaGreat
namespace Go.Proofs.YtfbjhkpdlihgeaaGreat
open Go.Proofs
theorem Gst.forgetG {n nb nv : Nat} {T T' : Tm} {H : Hp} {V : List Nat} (h : ∀ p ∈ T', Ge (tget T p.1) p.2) : Gst n nb nv T H V T' H V := fun D m w a m0 w0 V0 _ _ _ hx hs => by
  refine ⟨m, ⟨hs.inv, fun k => ?_, hs.size, hs.df⟩, hx⟩
  rcases tget_mem T' k with e | ⟨p, hp, rfl, e⟩
  · rw [e, RelV]; trivial
  · rw [e]; exact h p hp _ _ _ _ (hs.tm p.1)
def TGe (T : Tm) : Tm → Prop
  | [] => True
  | (k, c) :: r => Ge (tget T k) c ∧ TGe T r
theorem TGe.get {T : Tm} : ∀ {T' : Tm}, TGe T T' → ∀ p ∈ T', Ge (tget T p.1) p.2
  | (k, c) :: r, h, p, hp => by
    rcases List.mem_cons.1 hp with rfl | hp
    · exact h.1
    · exact TGe.get h.2 p hp
theorem Sh.forgetG {n nb nv : Nat} {T T' : Tm} {H H' : Hp} {V V' : List Nat} (h : TGe T T') (hH : H = H') (hV : V = V') : Sh n nb nv T H V (T', H', V') := by
  subst hH hV
  exact Gst.forgetG (TGe.get h)
@[go_sem] theorem TGe_nil (T : Tm) : TGe T [] = True := rfl
@[go_sem] theorem TGe_cons (T : Tm) (k : Nat) (c : CV) (r : Tm) : TGe T ((k, c) :: r) = (Ge (tget T k) c ∧ TGe T r) := rfl
@[go_sem] theorem Ge_self (c : CV) : Ge c c = True := eq_true (Ge.le (.refl c))
theorem SameParts_cc (H : Hp) (V : List Nat) (t1 t2 : Tk) (x y : List (List UInt8)) (hl : x.length ≤ 1000000000) : CC Tryz.prog 9 [.sl t1 1 (x.map byE), .sl t2 1 (y.map byE)] H V (Pu (.v (.bool (decide (x = y)))) H V) := by
  refine CC.of_swp Tryz.func9 rfl (by kernel_rfl) (by rw [Tryz.ntmps9]; exact len_le _ _ rfl) fun hok hokH => ?_
  clear hok
  refine SWp.seq (Wp.s ?_)
  simp -implicitDefEqProofs [go_sem, args0]
  refine SWp.seq (SWp.seq (Wp.s ?_))
  by_cases hlen : x.length = y.length
  case neg =>
    have hlen' : ¬ (x.length : Int) = (y.length : Int) := by omega
    simp -implicitDefEqProofs [go_sem, hlen']
    refine Wp.s ?_
    simp -implicitDefEqProofs [go_sem, hlen, hlen']
    exact Fin.bool (by simp [show x ≠ y from fun e => hlen (by rw [e])]) hokH (by simp) (by simp)
  simp -implicitDefEqProofs [go_sem, hlen]
  refine Wp.s ?_
  simp -implicitDefEqProofs [go_sem, hlen]
  refine SWp.join (α := Unit) (fun _ => ([], H, V)) (fun _ => x = y) ?_ ?_
  · refine SWp.seq (Wp.s ?_)
    simp -implicitDefEqProofs [go_sem]
    refine SWp.block ?_
    refine SWp.loop (α := Nat) (fun i => ([(0, .sl t1 1 (x.map byE)), (1, .sl t2 1 (y.map byE)), (5, ci i)], H, V)) (fun i => i ≤ x.length ∧ x.take i = y.take i) (fun i => x.length - i) 0 ⟨Nat.zero_le _, rfl⟩ (Sh.forget (by simp [go_sem]) rfl rfl) ?_
    rintro i ⟨hi, hp⟩
    dsimp only
    refine SWp.seq (SWp.seq (Wp.s ?_))
    simp -implicitDefEqProofs [go_sem]
    refine Wp.s ?_
    simp -implicitDefEqProofs [go_sem]
    refine ⟨fun h => ?_, fun h => ⟨eq_of_take hlen h hp, Sh.forget (by simp [go_sem]) rfl rfl⟩⟩
    have h2 : i < y.length := by omega
    refine SWp.seq (SWp.block (SWp.seq (SWp.drawnT [] [] (.s 0 .pl <| .s 1 .pl <| .s 2 .pl <| .s 3 .pl <| .s 4 .pl <| .s 5 .pl <| .s 6 .pl <| .s 7 .pl <| .s 8 .pl <| .s 9 .pl <| .s 10 .pl <| .n) (by kernel_rfl) (by kernel_rfl) ?_)))
    by_cases he : x[i] = y[i]
    · simp -implicitDefEqProofs [go_sem, h, h2, he]
      refine Wp.s ?_
      simp -implicitDefEqProofs [go_sem]
      refine Wp.s ?_
      simp -implicitDefEqProofs [go_sem]
      refine ⟨i + 1, ⟨by omega, take_eq_succ h h2 hp he⟩, by omega, Sh.forget ?_ rfl rfl⟩
      simp [go_sem, wrap_succ (show i ≤ 1000000000 by omega)]
    · simp -implicitDefEqProofs [go_sem, h, h2, he]
      refine Wp.s ?_
      simp -implicitDefEqProofs [go_sem]
      first
      | exact ⟨fun _ => Fin.bool (by simp [show x ≠ y from fun e => ne_at h h2 he e]) hokH (by simp) (by simp), fun q => absurd q he⟩
      | exact Fin.bool (by simp [show x ≠ y from fun e => ne_at h h2 he e]) hokH (by simp) (by simp)
      | trace_state
  · rintro _ f5
    dsimp only
    refine SWp.seq (Wp.s ?_)
    simp -implicitDefEqProofs [go_sem]
    refine Wp.s ?_
    simp -implicitDefEqProofs [go_sem]
    exact Fin.bool (by simp [f5]) hokH (by simp) (by simp)
theorem refSplit_cc (H : Hp) (V : List Nat) (c : Cyc) (m : Int) (hl : c.wrs.length ≤ 800000000) (hw : WrS c.wrs) (h3 : c.poss.length ≤ 1000000) (h4 : (encWrs c.wrs).length ≤ 800000000) : CC Tryz.prog 8 [.agg (cycC c), ci m] H V (Pu (dvS (splP c m)) H V) := by
  refine CC.of_swp Tryz.func8 rfl (by kernel_rfl) (by rw [Tryz.ntmps8]; exact len_le _ _ rfl) fun hok hokH => ?_
  clear hok
  refine SWp.seq (Wp.s ?_)
  simp -implicitDefEqProofs [go_sem, args0]
  refine SWp.seq (Wp.s ?_)
  simp -implicitDefEqProofs [go_sem]
  refine CC.mono (refEncode_cc _ _ c hl hw h3 h4) ?_
  rintro _ _ _ ⟨rfl, rfl, rfl⟩
  simp -implicitDefEqProofs [go_sem]
  refine SWp.seq (SWp.seq (Wp.s ?_))
  by_cases he : encE c = 0
  case neg =>
    simp -implicitDefEqProofs [go_sem, he]
    refine Wp.s ?_
    simp -implicitDefEqProofs [go_sem]
    rw [splP_enc he, dvS]
    exact Fin.pu (.tup (.cons (.nil 1 (by decide)) (.cons (.refl _) .nil))) (by simp [go_sem]) hokH (by simp) (by simp)
  simp -implicitDefEqProofs [go_sem, he]
  refine Wp.s ?_
  simp -implicitDefEqProofs [go_sem]
  refine SWp.seq (SWp.seq (Wp.s ?_))
  by_cases m1 : m < 1
  · simp -implicitDefEqProofs [go_sem, m1]
    refine Wp.s ?_
    simp -implicitDefEqProofs [go_sem]
    rw [splP_rng he (.inl m1), dvS]
    exact Fin.pu (.tup (.cons (.nil 1 (by decide)) (.cons (.refl _) .nil))) (by simp [go_sem]) hokH (by simp) (by simp)
  by_cases m2 : 4096 < m
  · simp -implicitDefEqProofs [go_sem, m1, m2]
    refine Wp.s ?_
    simp -implicitDefEqProofs [go_sem]
    rw [splP_rng he (.inr m2), dvS]
    exact Fin.pu (.tup (.cons (.nil 1 (by decide)) (.cons (.refl _) .nil))) (by simp [go_sem]) hokH (by simp) (by simp)
  have esp := splP_ok he (m := m) (by omega)
  simp -implicitDefEqProofs [go_sem, m1, m2]
  refine Wp.s ?_
  simp -implicitDefEqProofs [go_sem]
  obtain ⟨n, rfl⟩ : ∃ n : Nat, m = n := ⟨m.toNat, by omega⟩
  rw [show (n : Int).toNat = n from rfl] at esp
  have hn1 : 1 ≤ n := by omega
  have hn2 : n ≤ 4096 := by omega
  obtain ⟨b, hb⟩ : ∃ b, b = encB c := ⟨_, rfl⟩
  have hbl : b.length ≤ 65536 := hb ▸ encB_len c
  rw [← hb] at esp ⊢
  have w1 : IntKind.i64.wrap ((b.length : Int) + (n : Int)) = (b.length : Int) + (n : Int) := IntWalk.i64_in _ ⟨by omega, by omega⟩
  have w2 : IntKind.i64.wrap ((b.length : Int) + (n : Int) - 1) = (b.length : Int) + (n : Int) - 1 := IntWalk.i64_in _ ⟨by omega, by omega⟩
  have hnb := nPc_le (len := b.length) hn1
  have w3 : IntKind.i64.wrap ((nPc b.length n : Nat) : Int) = ((nPc b.length n : Nat) : Int) := IntWalk.i64_in _ ⟨by omega, by omega⟩
  have w4 : IntKind.i64.wrap (rn (crc b)) = rn (crc b) := by
    unfold rn
    have := (crc b).isLt
    exact IntWalk.i64_in _ ⟨by omega, by omega⟩
  refine SWp.seq (Wp.s ?_)
  simp -implicitDefEqProofs [go_sem, w1, w2, quo_nPc hn1, w3]
  refine ⟨by omega, ?_⟩
  obtain ⟨P, hP⟩ : ∃ P, P = nPc b.length n := ⟨_, rfl⟩
  rw [← hP]
  refine SWp.seq (Wp.s ?_)
  simp -implicitDefEqProofs [go_sem]
  refine SWp.join (α := CV × List Nat) (fun x => ([(9, x.1)], H ++ [some (cycC c)], x.2)) (fun x => ApB V.length (partsB c b n) x.1 x.2 ∧ V.length ≤ x.2.length ∧ x.2.take V.length = V) ?_ ?_
  · refine SWp.seq (Wp.s ?_)
    simp -implicitDefEqProofs [go_sem]
    refine SWp.block ?_
    refine SWp.loop (α := Nat × CV × List Nat) (fun x => ([(1, ci n), (2, .ptr H.length 0), (6, .sl .sh 1 (bs b)), (8, ci P), (9, x.2.1), (10, ci x.1)], H ++ [some (cycC c)], x.2.2)) (fun x => x.1 ≤ P ∧ ApB V.length ((List.range x.1).map (partB c b n)) x.2.1 x.2.2 ∧ V.length ≤ x.2.2.length ∧ x.2.2.take V.length = V) (fun x => P - x.1) (0, .v (.slice none 0 0), V) ⟨by omega, .inl ⟨rfl, rfl⟩, Nat.le_refl _, by simp⟩ (Sh.forget (by simp [go_sem]) rfl rfl) ?_
    rintro ⟨i, cv, V'⟩ ⟨hi, ha, v1, v2⟩
    dsimp only at hi ha v1 v2 ⊢
    refine SWp.seq (SWp.seq (Wp.s ?_))
    by_cases h : i < P
    case neg =>
      simp -implicitDefEqProofs [go_sem, show ¬ (i : Int) < (P : Int) by omega]
      refine Wp.s ?_
      simp -implicitDefEqProofs [go_sem]
      obtain rfl : i = P := by omega
      rw [hP] at ha
      exact ⟨cv, V', ⟨ha, v1, v2⟩, Sh.forget (by simp [go_sem]) rfl rfl⟩
    simp -implicitDefEqProofs [go_sem, show (i : Int) < (P : Int) by omega]
    refine Wp.s ?_
    simp -implicitDefEqProofs [go_sem]
    have a1 := enc_len c.number
    have a2 := enc_len (i : Int)
    have a3 := enc_len (P : Int)
    have a4 := enc_len (rn (crc b))
    refine SWp.seq (SWp.block (SWp.seq (Wp.s ?_)))
    simp -implicitDefEqProofs [go_sem]
    refine CC.mono (CC.nil0 (sz := 1) (by decide) (refPutInt_cc _ _ .sh [] c.number (by simp))) ?_
    rintro _ _ _ ⟨u1, rfl, rfl, rfl⟩
    simp -implicitDefEqProofs [go_sem]
    refine CC.mono (refPutInt_cc _ _ _ (enc c.number) i (by omega)) ?_
    rintro _ _ _ ⟨u2, rfl, rfl, rfl⟩
    simp -implicitDefEqProofs [go_sem]
    refine CC.mono (refPutInt_cc _ _ _ (enc c.number ++ enc i) P (by simp only [List.length_append]; omega)) ?_
    rintro _ _ _ ⟨u3, rfl, rfl, rfl⟩
    simp -implicitDefEqProofs [go_sem]
    refine SWp.seq (Wp.s ?_)
    simp -implicitDefEqProofs [go_sem]
    refine CC.mono (refSum_cc _ _ .sh b (by omega)) ?_
    rintro _ _ _ ⟨rfl, rfl, rfl⟩
    simp -implicitDefEqProofs [go_sem, w4]
    refine CC.mono (refPutInt_cc _ _ _ (enc c.number ++ (enc i ++ enc P)) (rn (crc b)) (by simp only [List.length_append]; omega)) ?_
    rintro _ _ _ ⟨u4, rfl, rfl, rfl⟩
    simp -implicitDefEqProofs [go_sem]
    obtain ⟨p, hp⟩ : ∃ p, p = n * i := ⟨_, rfl⟩
    have hpl : p < b.length := by rw [hp]; exact (nPc_lt hn1).1 (hP ▸ h)
    have hm1 : (i : Int) * (n : Int) = (p : Int) := by rw [hp, Int.mul_comm]; rfl
    have hm2 : ((i : Int) + 1) * (n : Int) = (p : Int) + (n : Int) := by rw [Int.add_mul, Int.one_mul, hm1]
    have w5 : IntKind.i64.wrap (p : Int) = (p : Int) := IntWalk.i64_in _ ⟨by omega, by omega⟩
    have w6 : IntKind.i64.wrap ((i : Int) + 1) = (i : Int) + 1 := IntWalk.i64_in _ ⟨by omega, by omega⟩
    have w7 : IntKind.i64.wrap ((p : Int) + (n : Int)) = (p : Int) + (n : Int) := IntWalk.i64_in _ ⟨by omega, by omega⟩
    obtain ⟨q, hq⟩ : ∃ q : Nat, q = min n (b.length - p) := ⟨_, rfl⟩
    have hqm : min ((p : Int) + (n : Int)) (b.length : Int) = ((p + q : Nat) : Int) := by omega
    have hpc : ((b.take (p + q)).drop p) = pcOf b n i := by
      unfold pcOf
      rw [← hp, List.drop_take, Nat.add_sub_cancel_left, hq]
      rcases Nat.le_total n (b.length - p) with h1 | h1
      · rw [Nat.min_eq_left h1]
      · rw [Nat.min_eq_right h1, List.take_of_length_le (by simp), List.take_of_length_le (by simpa using h1)]
    have hpcl : (pcOf b n i).length ≤ 4096 := by unfold pcOf; rw [List.length_take]; omega
    obtain ⟨t, ht⟩ : ∃ t : Nat, t = p + q := ⟨_, rfl⟩
    rw [← ht] at hqm hpc
    have hpe : enc c.number ++ (enc i ++ (enc P ++ (enc (rn (crc b)) ++ pcOf b n i))) = partB c b n i := by
      unfold partB encHd
      rw [← hP]
      simp
    refine Wp.s ?_
    rcases ha with ⟨rfl, he0⟩ | ⟨k, v0, rfl, hv, hk⟩
    · simp -implicitDefEqProofs [go_sem, hm1, hm2, w5, w6, w7, hqm, hpc]
      refine ⟨by omega, by omega, by omega, ?_⟩
      rw [hpe]
      refine Wp.s ?_
      simp -implicitDefEqProofs [go_sem]
      refine ⟨i + 1, .sl (.own (V'.length + 4) 0) 1 [byE (partB c b n i)], _, ⟨by omega, .inr ⟨V'.length + 4, 0, by rw [List.range_succ, List.map_append, he0]; rfl, by simp, by omega⟩, by simp; omega, by rw [List.take_append_of_le_length v1]; exact v2⟩, by omega, Sh.forgetG ?_ rfl rfl⟩
      simp [go_sem, wrap_succ (show i ≤ 1000000000 by omega)]
      exact Ge.slk (.cons (.cons (.sh _ _ _) .nil) .nil)
    · have hkl := (List.getElem?_eq_some_iff.1 hv).1
      simp -implicitDefEqProofs [go_sem, hm1, hm2, w5, w6, w7, hqm, hpc]
      refine ⟨by omega, by omega, by omega, by rw [List.getElem?_append_left hkl]; exact hv, by omega, ?_⟩
      rw [hpe]
      refine Wp.s ?_
      simp -implicitDefEqProofs [go_sem]
      refine ⟨i + 1, .sl (.own k (v0 + 1)) 1 (((List.range (i + 1)).map (partB c b n)).map byE), _, ⟨by omega, .inr ⟨k, v0 + 1, rfl, by rw [List.getElem?_set_self (by simp; omega)], hk⟩, by simp; omega, by rw [List.take_set_of_le hk, List.take_append_of_le_length v1]; exact v2⟩, by omega, Sh.forgetG ?_ rfl rfl⟩
      simp [go_sem, wrap_succ (show i ≤ 1000000000 by omega), List.range_succ]
      exact Ge.slk (LeE.snoc _ (.cons (.sh _ _ _) .nil))
  · rintro ⟨cv, V'⟩ ⟨q1, q2, q3⟩
    dsimp only
    refine SWp.seq (Wp.s ?_)
    simp -implicitDefEqProofs [go_sem]
    refine Wp.s ?_
    simp -implicitDefEqProofs [go_sem]
    rw [esp, dvS]
    exact Fin.pu (.tup (.cons q1.le (.cons (.refl _) .nil))) (by simp [go_sem]) hokH (by simp) q3
end Go.Proofs.YtfbjhkpdlihgeaaGreat
namespace Go.Proofs.YtfbjhkpdlihgeaaGreat
open Go.Proofs
def lstOf (x : Except Nat (List (List UInt8))) : List (List UInt8) := match x with | .ok l => l | .error _ => []
def cycOf (x : Except Nat Cyc) : Cyc := match x with | .ok c => c | .error _ => zcyc
theorem dvS_eq (x : Except Nat (List (List UInt8))) : dvS x = .tup [.sl .sh 1 ((lstOf x).map byE), er (errOf x)] := by cases x <;> rfl
theorem dvC_eq (x : Except Nat Cyc) : dvC x = .tup [.agg (cycC (cycOf x)), er (errOf x)] := by cases x <;> rfl
theorem splP_len (c : Cyc) (m : Int) : (lstOf (splP c m)).length ≤ 1000000000 := by
  unfold splP
  split
  · exact Nat.zero_le _
  · split
    · exact Nat.zero_le _
    · simp only [lstOf, partsB, List.length_map, List.length_range]
      have := nPc_le (len := (encB c).length) (n := m.toNat) (by omega)
      have := encB_len c
      omega
theorem Splits_cc (H : Hp) (V : List Nat) (c : Cyc) (m : Int) : CC Tryz.prog 3 [.agg (cycC c), ci m] H V (Pu (cb true) H V) := by
  refine CC.of_swp Tryz.func3 rfl (by kernel_rfl) (by rw [Tryz.ntmps3]; exact len_le _ _ rfl) fun hok hokH => ?_
  clear hok
  refine SWp.seq (Wp.s ?_)
  simp -implicitDefEqProofs [go_sem, args0]
  refine SWp.seq (SWp.seq (Wp.s ?_))
  simp -implicitDefEqProofs [go_sem]
  refine CC.mono (few23_cc _ _ c) ?_
  rintro _ _ _ ⟨rfl, rfl, rfl⟩
  cases hf : few23 c with
  | false =>
    simp -implicitDefEqProofs [go_sem]
    refine Wp.s ?_
    simp -implicitDefEqProofs [go_sem]
    refine CC.mono (awake_cc _ _) ?_
    rintro _ _ _ ⟨rfl, rfl, rfl⟩
    simp -implicitDefEqProofs [go_sem]
    exact Fin.bool rfl hokH (by simp) (by simp)
  | true =>
  have fc := few23_ok hf
  have l1 := fc.wl
  have l2 := fc.pl
  simp -implicitDefEqProofs [go_sem]
  refine Wp.s ?_
  simp -implicitDefEqProofs [go_sem]
  refine SWp.seq (Wp.s ?_)
  simp -implicitDefEqProofs [go_sem]
  refine CC.mono (Split_cc _ _ c m (by omega) fc.wrS (by omega) fc.enc) ?_
  rintro _ _ _ ⟨rfl, rfl, rfl⟩
  rw [dvS_eq]
  simp -implicitDefEqProofs [go_sem]
  refine SWp.seq (Wp.s ?_)
  simp -implicitDefEqProofs [go_sem]
  refine CC.mono (refSplit_cc _ _ c m (by omega) fc.wrS (by omega) fc.enc) ?_
  rintro _ _ _ ⟨rfl, rfl, rfl⟩
  rw [dvS_eq]
  simp -implicitDefEqProofs [go_sem]
  refine SWp.seq (Wp.s ?_)
  simp -implicitDefEqProofs [go_sem]
  refine CC.mono (awake_cc _ _) ?_
  rintro _ _ _ ⟨rfl, rfl, rfl⟩
  simp -implicitDefEqProofs [go_sem]
  refine CC.mono (SameParts_cc _ _ _ _ (lstOf (splP c m)) (lstOf (splP c m)) (splP_len c m)) ?_
  rintro _ _ _ ⟨rfl, rfl, rfl⟩
  simp -implicitDefEqProofs [go_sem]
  refine Wp.s ?_
  simp -implicitDefEqProofs [go_sem]
  exact Fin.bool rfl hokH (by simp) (by simp)
theorem decC_bd {b : List UInt8} {c : Cyc} (h : decC b = .ok c) : c.poss.length ≤ 1000000000 ∧ c.wrs.length ≤ 1000000000 ∧ WrS c.wrs := by
  unfold decC at h
  split at h
  · cases h
  · split at h
    · cases h
    · rename_i c' r' h1
      split at h
      · cases h
      · split at h
        · cases h
        · cases h
          unfold cycP at h1
          split at h1
          · cases h1
          · split at h1
            · cases h1
            · rename_i h4
              split at h1
              · cases h1
              · rename_i h5
                cases h1
                have a4 := list_len h4
                have a5 := list_len h5
                exact ⟨Nat.le_trans a4 (by decide), Nat.le_trans a5 (by decide), fun w hw => by have := list_all (Q := fun w => w.data.length ≤ 65536) (fun s a r h => wrP_data h) h5 w hw; omega⟩
theorem cycA_bd (a : Asm) : (cycOf (cycA a)).poss.length ≤ 1000000000 ∧ (cycOf (cycA a)).wrs.length ≤ 1000000000 ∧ WrS (cycOf (cycA a)).wrs := by
  rcases h : cycA a with e | c
  · exact ⟨Nat.zero_le _, Nat.zero_le _, fun w hw => by cases hw⟩
  · rw [cycA_eq] at h
    repeat' split at h
    all_goals first | (cases h; done) | skip
    rename_i h1 _
    cases h; exact decC_bd h1
theorem Cycles_cc (H : Hp) (V : List Nat) (a : Asm) : CC Tryz.prog 4 [.agg (asmC a)] H V (Pu (cb true) H V) := by
  refine CC.of_swp Tryz.func4 rfl (by kernel_rfl) (by rw [Tryz.ntmps4]; exact len_le _ _ rfl) fun hok hokH => ?_
  clear hok
  refine SWp.seq (Wp.s ?_)
  simp -implicitDefEqProofs [go_sem, args0]
  refine SWp.seq (SWp.seq (Wp.s ?_))
  simp -implicitDefEqProofs [go_sem]
  refine CC.mono (few_cc _ _ a) ?_
  rintro _ _ _ ⟨q, rfl, hq, rfl, rfl⟩
  cases q with
  | false =>
    simp -implicitDefEqProofs [go_sem]
    refine Wp.s ?_
    simp -implicitDefEqProofs [go_sem]
    refine CC.mono (awake_cc _ _) ?_
    rintro _ _ _ ⟨rfl, rfl, rfl⟩
    simp -implicitDefEqProofs [go_sem]
    exact Fin.bool rfl hokH (by simp) (by simp)
  | true =>
  obtain ⟨l1, l2⟩ := hq rfl
  obtain ⟨q1, q2, q3⟩ := cycA_bd a
  simp -implicitDefEqProofs [go_sem]
  refine Wp.s ?_
  simp -implicitDefEqProofs [go_sem]
  refine SWp.seq (Wp.s ?_)
  simp -implicitDefEqProofs [go_sem]
  refine CC.mono (Cycle_cc _ _ a (by omega)) ?_
  rintro _ _ _ ⟨rfl, rfl, rfl⟩
  rw [dvC_eq]
  simp -implicitDefEqProofs [go_sem]
  refine SWp.seq (Wp.s ?_)
  simp -implicitDefEqProofs [go_sem]
  refine CC.mono (refCycle_cc _ _ a (by omega)) ?_
  rintro _ _ _ ⟨rfl, rfl, rfl⟩
  rw [dvC_eq]
  simp -implicitDefEqProofs [go_sem]
  refine SWp.seq (Wp.s ?_)
  simp -implicitDefEqProofs [go_sem]
  refine CC.mono (awake_cc _ _) ?_
  rintro _ _ _ ⟨rfl, rfl, rfl⟩
  simp -implicitDefEqProofs [go_sem]
  refine CC.mono (SameCyc_cc _ _ (cycOf (cycA a)) (cycOf (cycA a)) q1 q2 q3) ?_
  rintro _ _ _ ⟨rfl, rfl, rfl⟩
  simp -implicitDefEqProofs [go_sem]
  refine Wp.s ?_
  simp -implicitDefEqProofs [go_sem]
  exact Fin.bool rfl hokH (by simp) (by simp)
end Go.Proofs.YtfbjhkpdlihgeaaGreat
namespace Go.Proofs.YtfbjhkpdlihgeaaGreat
open Go.RowKit

/-- The ghost state at the beginning of a call: all blocks are fixed; no boxes, no tokens. -/
def gh0 (w : World) : Gh where
  lim k := match w.heap[k]? with
    | some (.cells c _ _) => c.size
    | _ => 0
  box := []
  tip := []

theorem gh0_inv (w : World) : Inv (gh0 w) w [] [] where
  boxlen := rfl
  tiplen := rfl
  limv k h := by
    simp only [gh0] at h ⊢
    split at h
    · rename_i c e fr hc
      exact ⟨c, e, fr, hc, by simp⟩
    · omega
  tips := by intro t k h; simp [gh0] at h
  boxes := by intro b k h; simp [gh0] at h
  uniq := by intro b b' k cs cs' h; simp at h
  live := by intro b cs h; simp at h

theorem gh0_lim {w : World} {k o : Nat} {u : Value} (h : w.cell? ⟨k, o, none⟩ = some u) : o < (gh0 w).lim k := by
  simp only [World.cell?] at h
  simp only [gh0]
  split at h
  · rename_i c e fr hc
    simp only [hc]
    simp at h
    obtain ⟨h, _⟩ := Array.getElem?_eq_some_iff.1 h
    exact h
  · cases h

/-- What a law gives: true, and below nothing is changed. -/
theorem law_calls {P : Program} {f : FuncId} {args : Array Value} {W : World} {cs : List CV} {R : CV → Hp → List Nat → Prop} (hrel : RelL (gh0 W) W [] cs args.toList) (h : CC P f cs [] [] R)
    (hR : ∀ r H V, R r H V → r = .v (.bool true)) : Calls P f args W fun e W' => e = .returned (.bool true) ∧ Below W.heap.size W W' := by
  have := h.2 (gh0 W) W args.toList (gh0_inv W) hrel
  rw [Array.toArray_toList] at this
  refine this.mono ?_
  rintro e w' ⟨u, m', r, H', V', rfl, hr, _, hu, hx⟩
  obtain rfl := hR _ _ _ hr
  rw [RelV] at hu
  subst hu
  exact ⟨rfl, hx.os, hx.tape, hx.output, hx.size, fun k hk => hx.same k hk (by simp [gh0]) (by simp [gh0])⟩

/-- The cells of a value of type t that came in: S holds of their contents. -/
def Opens (P : Program) (t : TypeId) (S : List CV → Prop) : Prop :=
  ∀ (H : Type) (enc : TypeId × Value → H) (w : World) (base : Nat) (spare : Nat → Bool) (held : Bool) (fuel : Nat) (us : List Value) (x : DataW H × List MemPlace),
    DataW.trod enc P w base spare held fuel t us = some x → ∃ cs, S cs ∧ RelL (gh0 w) w [] cs us ∧ ∀ u ∈ us, u.oneCell' = true

theorem relL_one {m : Gh} {w : World} {V : List Nat} {c : CV} {u : Value} (h : RelV m w V c u) : RelL m w V [c] [u] := by
  rw [RelL]; exact ⟨u, [], rfl, h, by rw [RelL]⟩

theorem relL_one' {m : Gh} {w : World} {V : List Nat} {c : CV} {u : Value} (h : RelL m w V [c] [u]) : RelV m w V c u := by
  rw [RelL] at h; obtain ⟨_, _, h1, h2, _⟩ := h; cases h1; exact h2

theorem relL_nil {m : Gh} {w : World} {V : List Nat} : RelL m w V [] [] := by rw [RelL]
theorem relL_mk2 {m : Gh} {w : World} {V : List Nat} {c : CV} {u : Value} {cs : List CV} {us : List Value} (h : RelV m w V c u) (h2 : RelL m w V cs us) : RelL m w V (c :: cs) (u :: us) := by
  rw [RelL]; exact ⟨u, us, rfl, h, h2⟩
variable {P : Program} {t e : TypeId}
theorem Opens.int {k : IntKind} (ht : P.underlying t = some (.int k)) : Opens P t fun cs => ∃ n, cs = [.v (.int k n)] ∧ (Lit.int k n).wf = true := by
  intro H enc w base spare held fuel us x h
  obtain ⟨n, rfl, _, hw⟩ := DataW.trod_int ht h
  exact ⟨_, ⟨n, rfl, hw⟩, relL_one (by rw [RelV]), by simp [Value.oneCell']⟩

theorem Opens.bool (ht : P.underlying t = some .bool) : Opens P t fun cs => ∃ b, cs = [.v (.bool b)] := by
  intro H enc w base spare held fuel us x h
  obtain ⟨n, rfl, _⟩ := DataW.trod_bool ht h
  exact ⟨_, ⟨n, rfl⟩, relL_one (by rw [RelV]), by simp [Value.oneCell']⟩

theorem Opens.string (ht : P.underlying t = some .string) : Opens P t fun cs => ∃ s : ByteArray, cs = [.v (.string s)] ∧ s.size ≤ maxLen := by
  intro H enc w base spare held fuel us x h
  obtain ⟨n, rfl, _, hs⟩ := DataW.trod_string ht h
  exact ⟨_, ⟨n, rfl, hs⟩, relL_one (by rw [RelV]), by simp [Value.oneCell']⟩

theorem cells_get {w : World} {base : Nat} {a : Addr} {n : Nat} {us : List Value} (h : w.cells? base a n = some us) : us.length = n ∧ ∀ j, j < n → w.cell? (a.add j) = us[j]? := by
  unfold World.cells? at h
  split at h
  · exact ⟨by simpa using mapM_some_length h, fun j hj => mapM_some_get h j j (by simp [hj])⟩
  · cases h

theorem add_none {a : Addr} (ha : a.spot = none) (i : Nat) : a.add i = ⟨a.block, a.off + i, none⟩ := by
  cases a with
  | mk b o s =>
    simp only at ha
    subst ha
    unfold Addr.add
    split <;> simp_all

theorem Opens.slice {sz : Nat} {S : List CV → Prop} (ht : P.underlying t = some (.slice e)) (hs : P.cellsOf e = sz) (h0 : 0 < sz) (he : Opens P e S) :
    Opens P t fun cs => ∃ xs, cs = [.sl .sh sz xs] ∧ xs.length ≤ maxLen ∧ ∀ x ∈ xs, S x := by
  intro H enc w base spare held fuel us x h
  rcases DataW.trod_slice ht h with ⟨rfl, _⟩ | ⟨a, len, cap, elems, rest, n, _, rfl, rfl, hb, hl, hm, hlen, hel, hsp, hns⟩
  · refine ⟨_, ⟨[], rfl, by simp, by simp⟩, relL_one ?_, by simp [Value.oneCell']⟩
    rw [RelV]
    exact ⟨none, 0, rfl, by simp, trivial, h0, .inl rfl⟩
  · have key : ∀ i, i < len → ∃ (cs : List CV) (vs : List Value), S cs ∧ RelL (gh0 w) w [] cs vs ∧ (∀ u ∈ vs, u.oneCell' = true) ∧ vs.length = sz ∧ ∀ j, j < sz → w.cell? ((a.add (i * sz)).add j) = vs[j]? := by
      intro i hi
      have h1 := hel i hi
      rw [List.getElem?_eq_getElem (by omega)] at h1
      obtain ⟨vs, h2, h3⟩ := Option.bind_eq_some_iff.1 h1
      obtain ⟨cs, h4, h5, h6⟩ := he _ enc w base spare held n vs _ h3
      rw [hs] at h2
      obtain ⟨h7, h8⟩ := cells_get h2
      exact ⟨cs, vs, h4, h5, h6, h7, h8⟩
    by_cases hz : len = 0
    · subst hz
      refine ⟨_, ⟨[], rfl, by simp, by simp⟩, relL_one ?_, by simp [Value.oneCell']⟩
      rw [RelV]
      exact ⟨some a, cap, rfl, by simp, trivial, h0, .inl rfl⟩
    · have hsp : a.spot = none := by
        obtain ⟨cs, vs, _, _, _, h7, h8⟩ := key 0 (by omega)
        have h9 := h8 0 h0
        rw [List.getElem?_eq_getElem (by omega)] at h9
        have : (a.add (0 * sz)).add 0 = a := by simp [Addr.add]
        rw [this] at h9
        simp only [World.cell?] at h9
        split at h9
        · split at h9
          · cases h9
          · rename_i h; simpa using h
        · cases h9
      let g : Nat → List CV := fun i => if h : i < len then Classical.choose (key i h) else []
      have hg : ∀ i (h : i < len), ∃ (vs : List Value), S (g i) ∧ RelL (gh0 w) w [] (g i) vs ∧ (∀ u ∈ vs, u.oneCell' = true) ∧ vs.length = sz ∧ ∀ j, j < sz → w.cell? ((a.add (i * sz)).add j) = vs[j]? := by
        intro i h
        have := Classical.choose_spec (key i h)
        simp only [g, h, dif_pos]
        exact this
      have cell : ∀ i j, i < len → j < sz → ∃ u, w.cell? ⟨a.block, a.off + i * sz + j, none⟩ = some u := by
        intro i j hi hj
        obtain ⟨vs, _, _, _, h7, h8⟩ := hg i hi
        have h9 := h8 j hj
        rw [List.getElem?_eq_getElem (by omega), add_none hsp, add_none rfl] at h9
        exact ⟨_, h9⟩
      refine ⟨_, ⟨(List.range len).map g, rfl, by simp; omega, ?_⟩, relL_one ?_, by simp [Value.oneCell']⟩
      · intro x hx
        obtain ⟨i, hi, rfl⟩ := List.mem_map.1 hx
        obtain ⟨_, h4, _⟩ := hg i (by simpa using hi)
        exact h4
      · rw [RelV]
        refine ⟨some a, cap, by simp, by simp; omega, trivial, h0, .inr ⟨a.block, a.off, by cases a; simp_all, ?_, relE_mk fun j c hc => ?_⟩⟩
        · obtain ⟨u, hu⟩ := cell (len - 1) (sz - 1) (by omega) (by omega)
          have := gh0_lim hu
          simp only [List.length_map, List.length_range]
          have h1 : len * sz = (len - 1) * sz + sz := by
            rw [← Nat.succ_mul]; congr 1; omega
          omega
        · simp only [List.getElem?_map, Option.map_eq_some_iff] at hc
          obtain ⟨i, hi, rfl⟩ := hc
          obtain ⟨hi', hi⟩ := List.getElem?_eq_some_iff.1 hi
          simp at hi hi'
          subst hi
          obtain ⟨vs, h4, h5, h6, h7, h8⟩ := hg j hi'
          have hl := relL_length h5
          refine ⟨by omega, relC_mk fun q c hc => ?_⟩
          obtain ⟨u, hu, hv⟩ := relL_get h5 q c hc
          have hq : q < sz := by
            have := (List.getElem?_eq_some_iff.1 hc).1
            omega
          have h9 := h8 q hq
          rw [hu, add_none hsp, add_none rfl] at h9
          exact ⟨u, h9, hv, h6 u (List.mem_of_getElem? hu)⟩

/-- Fields, from cell o on, of a struct of N cells. -/
def OpensF (P : Program) (N : Nat) (fs : List Field) (o : Nat) (S : List CV → Prop) : Prop :=
  ∀ (H : Type) (enc : TypeId × Value → H) (w : World) (base : Nat) (spare : Nat → Bool) (held : Bool) (fuel : Nat) (us : List Value), us.length = N →
    (∀ f ∈ fs, ∃ x, DataW.trod enc P w base spare held fuel f.type ((us.drop f.offset).take (P.cellsOf f.type)) = some x) →
    ∃ cs, S cs ∧ RelL (gh0 w) w [] cs (us.drop o) ∧ ∀ u ∈ us.drop o, u.oneCell' = true

theorem OpensF.nil {N : Nat} : OpensF P N [] N fun cs => cs = [] := by
  intro H enc w base spare held fuel us hl h
  subst hl
  exact ⟨_, rfl, by rw [List.drop_length, RelL], by simp⟩

theorem OpensF.cons {N : Nat} {f : Field} {fs : List Field} {o n : Nat} {S S' : List CV → Prop} (ho : f.offset = o) (hn : P.cellsOf f.type = n) (h1 : Opens P f.type S) (h2 : OpensF P N fs (o + n) S') :
    OpensF P N (f :: fs) o fun cs => ∃ a b, cs = a ++ b ∧ S a ∧ S' b := by
  intro H enc w base spare held fuel us hl h
  obtain ⟨x, hx⟩ := h f (by simp)
  rw [ho, hn] at hx
  obtain ⟨a, ha, ra, oa⟩ := h1 _ enc w base spare held fuel _ _ hx
  obtain ⟨b, hb, rb, ob⟩ := h2 _ enc w base spare held fuel us hl fun g hg => h g (List.mem_cons_of_mem _ hg)
  have hd : us.drop o = (us.drop o).take n ++ us.drop (o + n) := by
    rw [← List.drop_drop, List.take_append_drop]
  refine ⟨_, ⟨a, b, rfl, ha, hb⟩, ?_, ?_⟩
  · rw [hd]; exact relL_append ra rb
  · rw [hd]
    intro u hu
    rcases List.mem_append.1 hu with h | h
    · exact oa u h
    · exact ob u h

theorem Opens.struct {fs : Array Field} {S : List CV → Prop} (ht : P.underlying t = some (.struct fs)) {N : Nat} (hN : P.cellsOf t = N) (h : OpensF P N fs.toList 0 S) : Opens P t S := by
  intro H enc w base spare held fuel us x hx
  obtain ⟨xs, n, _, _, hl, hl2, hf⟩ := DataW.trod_struct ht hx
  obtain ⟨cs, h1, h2, h3⟩ := h _ enc w base spare held n us (by omega) (by
    intro f hf'
    obtain ⟨i, hi⟩ := List.getElem?_of_mem hf'
    have := hf i f (by simpa using hi)
    have hi' : i < fs.size := by
      have := (List.getElem?_eq_some_iff.1 hi).1
      simpa using this
    rw [this, List.getElem?_eq_getElem (by omega)]
    exact ⟨_, rfl⟩)
  exact ⟨cs, h1, by simpa using h2, by simpa using h3⟩

theorem Opens.array {n sz : Nat} {S : List CV → Prop} (ht : P.underlying t = some (.array n e)) (hs : P.cellsOf e = sz) (hN : P.cellsOf t = n * sz) (he : Opens P e S) :
    Opens P t fun cs => ∃ xs : List (List CV), cs = xs.flatten ∧ xs.length = n ∧ ∀ x ∈ xs, S x := by
  intro H enc w base spare held fuel us x hx
  obtain ⟨xs, m, _, _, hl, hl2, hf⟩ := DataW.trod_array ht hx
  rw [hN] at hl
  rw [hs] at hf
  have key : ∀ q, q ≤ n → ∃ ys : List (List CV), ys.length = q ∧ (∀ x ∈ ys, S x) ∧ RelL (gh0 w) w [] ys.flatten (us.drop ((n - q) * sz)) ∧ ∀ u ∈ us.drop ((n - q) * sz), u.oneCell' = true := by
    intro q
    induction q with
    | zero =>
      intro _
      refine ⟨[], rfl, by simp, ?_, ?_⟩
      · rw [Nat.sub_zero, List.drop_of_length_le (by omega), List.flatten_nil, RelL]
      · rw [Nat.sub_zero, List.drop_of_length_le (by omega)]; simp
    | succ q ih =>
      intro hq
      obtain ⟨ys, h1, h2, h3, h4⟩ := ih (by omega)
      have hx := hf (n - (q + 1)) (by omega)
      rw [List.getElem?_eq_getElem (by omega)] at hx
      obtain ⟨a, ha, ra, oa⟩ := he _ enc w base spare held m _ _ hx
      have hd : us.drop ((n - (q + 1)) * sz) = (us.drop ((n - (q + 1)) * sz)).take sz ++ us.drop ((n - q) * sz) := by
        have : (n - q) * sz = (n - (q + 1)) * sz + sz := by
          rw [← Nat.succ_mul]; congr 1; omega
        rw [this, ← List.drop_drop, List.take_append_drop]
      refine ⟨a :: ys, by simp [h1], by simpa using ⟨ha, h2⟩, ?_, ?_⟩
      · rw [hd, List.flatten_cons]; exact relL_append ra h3
      · rw [hd]
        intro u hu
        rcases List.mem_append.1 hu with h | h
        · exact oa u h
        · exact h4 u h
  obtain ⟨ys, h1, h2, h3, h4⟩ := key n (Nat.le_refl _)
  rw [Nat.sub_self, Nat.zero_mul, List.drop_zero] at h3 h4
  exact ⟨_, ⟨ys, rfl, h1, h2⟩, h3, h4⟩

theorem Opens.mono {S S' : List CV → Prop} (h : Opens P t S) (hs : ∀ cs, S cs → S' cs) : Opens P t S' := by
  intro H enc w base spare held fuel us x hx
  obtain ⟨cs, h1, h2, h3⟩ := h _ enc w base spare held fuel us x hx
  exact ⟨cs, hs cs h1, h2, h3⟩

variable {H : Type} {enc : TypeId × Value → H} {w : World} {base : Nat} {spare : Nat → Bool} {held : Bool}
/-- An argument of one cell. -/
theorem Opens.arg {S : List CV → Prop} (h : Opens P t S) {v : Value} {d : DataW H} {p : List MemPlace} (hv : v.cells.toList = [v]) (hd : DataW.Trod enc P w base spare held t v d p) :
    ∃ c, S [c] ∧ RelV (gh0 w) w [] c v := by
  obtain ⟨fuel, hf⟩ := hd
  rw [hv] at hf
  obtain ⟨cs, h1, h2, _⟩ := h _ enc w base spare held fuel _ _ hf
  have := relL_length h2
  match cs, this with
  | [c], _ => exact ⟨c, h1, relL_one' h2⟩
/-- A struct or an array. -/
theorem Opens.args {S : List CV → Prop} (h : Opens P t S) {us : Array Value} {d : DataW H} {p : List MemPlace} (hd : DataW.Trod enc P w base spare held t (.agg us) d p) :
    ∃ cs, S cs ∧ RelV (gh0 w) w [] (.agg cs) (.agg us) := by
  obtain ⟨fuel, hf⟩ := hd
  obtain ⟨cs, h1, h2, _⟩ := h _ enc w base spare held fuel _ _ hf
  refine ⟨cs, h1, ?_⟩
  rw [RelV]
  refine ⟨us.toList, by simp, ?_⟩
  simpa [Value.cells] using h2

/-- All arguments read as they did. -/
theorem trodAll_below (hl : laidOutB P = true) {W W' : World} (hb : Below W.heap.size W W') : ∀ {ts : List TypeId} {vs : List Value} {ds : List (DataW H)} {p : List MemPlace},
    (ts.all fun t => P.readableRec t && decide (t < P.types.size)) = true → DataW.TrodAll enc P W 0 (fun _ => true) true ts vs ds p → DataW.TrodAll enc P W' 0 (fun b => decide (b < W.heap.size)) true ts vs ds p
  | [], [], [], p, _, h => h
  | t :: ts, v :: vs, d :: ds, p, ht, h => by
    obtain ⟨p, q, h1, h2, rfl⟩ := h
    simp only [List.all_cons, Bool.and_eq_true, decide_eq_true_eq] at ht
    refine ⟨p, q, Below.trod hl ht.1.1 ht.1.2 h1 hb ?_, trodAll_below hl hb ht.2 h2, rfl⟩
    obtain ⟨m, hm⟩ := h1
    exact DataW.trod_lt m _ _ _ hm
  | [], [], _ :: _, _, _, h => h.elim
  | [], _ :: _, _, _, _, h => h.elim
  | _ :: _, [], _, _, _, h => h.elim
  | _ :: _, _ :: _, [], _, _, h => h.elim
end Go.Proofs.YtfbjhkpdlihgeaaGreat
namespace Go.Proofs.YtfbjhkpdlihgeaaGreat
open Go.Proofs
theorem exMapF {α : Type} {f : α → List CV} : ∀ {xs : List (List CV)}, (∀ x ∈ xs, ∃ a, x = f a) → ∃ ys : List α, xs = ys.map f
  | [], _ => ⟨[], rfl⟩
  | x :: xs, h => by
    obtain ⟨a, rfl⟩ := h x (by simp)
    obtain ⟨ys, rfl⟩ := exMapF fun y hy => h y (List.mem_cons_of_mem _ hy)
    exact ⟨a :: ys, rfl⟩
theorem opens_int : Opens Tryz.prog 3 fun cs => ∃ n, cs = ic n :=
  (Opens.int Tryz.underlying3).mono fun _ ⟨n, h, _⟩ => ⟨n, h⟩
theorem opens_u8 : Opens Tryz.prog 5 fun cs => ∃ b, cs = u8 b :=
  (Opens.int Tryz.underlying5).mono fun _ ⟨n, h, hw⟩ => ⟨byt n, by
    simp only [Lit.wf, Bool.and_eq_true, decide_eq_true_eq] at hw
    have h1 : 0 ≤ n := hw.1
    have h2 : n ≤ 255 := hw.2
    rw [h, u8, byt_toNat, Int.emod_eq_of_lt h1 (by omega)]⟩
theorem opens_bool : Opens Tryz.prog 4 fun cs => ∃ b, cs = boE b :=
  (Opens.bool Tryz.underlying4).mono fun _ ⟨b, h⟩ => ⟨b, h⟩
theorem opens_sl {t e sz : Nat} {α : Type} {f : α → List CV} (ht : Tryz.prog.underlying t = some (.slice e)) (hs : Tryz.prog.cellsOf e = sz) (h0 : 0 < sz) (he : Opens Tryz.prog e fun cs => ∃ a, cs = f a) :
    Opens Tryz.prog t fun cs => ∃ l : List α, cs = [.sl .sh sz (l.map f)] ∧ l.length ≤ maxLen :=
  (Opens.slice ht hs h0 he).mono fun _ ⟨xs, h, hl, hx⟩ => by
    obtain ⟨ys, rfl⟩ := exMapF hx
    exact ⟨ys, h, by simpa using hl⟩
theorem opens_bytes : Opens Tryz.prog 46 fun cs => ∃ l : List UInt8, cs = [.sl .sh 1 (bs l)] ∧ l.length ≤ maxLen := opens_sl Tryz.underlying46 (by kernel_rfl) (by decide) opens_u8
theorem opens_ints : Opens Tryz.prog 22 fun cs => ∃ l : List Int, cs = [.sl .sh 1 (l.map ic)] ∧ l.length ≤ maxLen := opens_sl Tryz.underlying22 (by kernel_rfl) (by decide) opens_int
theorem opens_byE : Opens Tryz.prog 46 fun cs => ∃ l : List UInt8, cs = byE l := opens_bytes.mono fun _ ⟨l, h, _⟩ => ⟨l, h⟩
theorem opens_pcs : Opens Tryz.prog 28 fun cs => ∃ l : List (List UInt8), cs = [.sl .sh 1 (l.map byE)] ∧ l.length ≤ maxLen := opens_sl Tryz.underlying28 (by kernel_rfl) (by decide) opens_byE
theorem opens_bools : Opens Tryz.prog 36 fun cs => ∃ l : List Bool, cs = [.sl .sh 1 (l.map boE)] ∧ l.length ≤ maxLen := opens_sl Tryz.underlying36 (by kernel_rfl) (by decide) opens_bool
theorem flat_u8 : ∀ l : List UInt8, (l.map u8).flatten = l.map fun b => CV.v (.int .u8 (b.toNat : Int))
  | [] => rfl
  | b :: l => by rw [List.map_cons, List.flatten_cons]; exact congrArg (_ :: ·) (flat_u8 l)
theorem opens_sec : Opens Tryz.prog 85 fun cs => ∃ s : Sec, cs = secC s :=
  (Opens.array (sz := 1) Tryz.underlying85 (by kernel_rfl) (by kernel_rfl) opens_u8).mono fun cs ⟨xs, h, hl, hx⟩ => by
    obtain ⟨l, rfl⟩ := exMapF hx
    refine ⟨⟨l, by simpa using hl⟩, ?_⟩
    rw [h]; exact flat_u8 l
theorem opens_secs : Opens Tryz.prog 77 fun cs => ∃ l : List Sec, cs = [.sl .sh 8 (l.map secC)] ∧ l.length ≤ maxLen := opens_sl Tryz.underlying77 (by kernel_rfl) (by decide) opens_sec
theorem opens_wr : Opens Tryz.prog 79 fun cs => ∃ x, cs = wrC x :=
  (Opens.struct Tryz.underlying79 (N := 3) (by kernel_rfl) (.cons rfl (n := 1) (by kernel_rfl) opens_int (.cons rfl (n := 1) (by kernel_rfl) opens_int (.cons rfl (n := 1) (by kernel_rfl) opens_secs .nil)))).mono fun cs h => by
    obtain ⟨_, _, rfl, ⟨a, rfl⟩, _, _, rfl, ⟨b, rfl⟩, _, _, rfl, ⟨c, rfl, _⟩, rfl⟩ := h
    exact ⟨⟨a, b, c⟩, rfl⟩
theorem opens_wrs : Opens Tryz.prog 23 fun cs => ∃ l : List Wr, cs = [.sl .sh 3 (l.map wrC)] ∧ l.length ≤ maxLen := opens_sl Tryz.underlying23 (by kernel_rfl) (by decide) opens_wr
theorem opens_cyc : Opens Tryz.prog 25 fun cs => ∃ x, cs = cycC x :=
  (Opens.struct Tryz.underlying25 (N := 5) (by kernel_rfl) (.cons rfl (n := 1) (by kernel_rfl) opens_int (.cons rfl (n := 1) (by kernel_rfl) opens_int (.cons rfl (n := 1) (by kernel_rfl) opens_int (.cons rfl (n := 1) (by kernel_rfl) opens_ints (.cons rfl (n := 1) (by kernel_rfl) opens_wrs .nil)))))).mono fun cs h => by
    obtain ⟨_, _, rfl, ⟨a, rfl⟩, _, _, rfl, ⟨b, rfl⟩, _, _, rfl, ⟨c, rfl⟩, _, _, rfl, ⟨d, rfl, _⟩, _, _, rfl, ⟨e, rfl, _⟩, rfl⟩ := h
    exact ⟨⟨a, b, c, d, e⟩, rfl⟩
theorem opens_asm : Opens Tryz.prog 38 fun cs => ∃ x, cs = asmC x :=
  (Opens.struct Tryz.underlying38 (N := 5) (by kernel_rfl) (.cons rfl (n := 1) (by kernel_rfl) opens_int (.cons rfl (n := 1) (by kernel_rfl) opens_int (.cons rfl (n := 1) (by kernel_rfl) opens_int (.cons rfl (n := 1) (by kernel_rfl) opens_pcs (.cons rfl (n := 1) (by kernel_rfl) opens_bools .nil)))))).mono fun cs h => by
    obtain ⟨_, _, rfl, ⟨a, rfl⟩, _, _, rfl, ⟨b, rfl⟩, _, _, rfl, ⟨c, rfl⟩, _, _, rfl, ⟨d, rfl, _⟩, _, _, rfl, ⟨e, rfl, _⟩, rfl⟩ := h
    exact ⟨⟨a, b, c, d, e⟩, rfl⟩
end Go.Proofs.YtfbjhkpdlihgeaaGreat
