import Derived.Test.YtpadnceoacbaeaaGreatA4
set_option linter.unusedSimpArgs false
set_option linter.unusedVariables false
set_option linter.unusedSectionVars false
namespace Go.Proofs.YtpadnceoacbaeaaGreat
open Go.Proofs
theorem fitsI_of {sizes : List Int} (h : sizesE sizes = 0) (w : Wr) : fitsI (imOf sizes) w = fitsS sizes w := by
  rw [fitsI, imgSz_of h, if_neg (by simp [h])]
theorem fitsS_0 {sizes : List Int} {w : Wr} (h : sizesE sizes = 0) (hf : fitsS sizes w = 0) : 0 ≤ w.volume ∧ w.volume < sizes.length ∧ 0 < w.data.length ∧ 0 ≤ w.start ∧ w.start + w.data.length ≤ 4096 := by
  unfold fitsS at hf
  split at hf
  · cases hf
  · split at hf
    · cases hf
    · split at hf
      · cases hf
      · rename_i a b c
        have hv : w.volume.toNat < sizes.length := by omega
        have hm := (sizesE_0 h).2.2 _ (List.getElem_mem hv)
        rw [List.getD_eq_getElem?_getD, List.getElem?_eq_getElem hv, Option.getD_some] at c
        omega
theorem Check1_cc (H : Hp) (V : List Nat) (w : Wr) (b : Nat) (sizes : List Int) (hb : H[b]? = some (some [imV (imOf sizes)])) (he : sizesE sizes = 0) (hw : w.data.length ≤ 1000000) : CC Tryz.prog 104 [.agg (wrC w), .ptr b 0] H V (Pu (er (fitsS sizes w)) H V) := by
  refine CC.of_swp Tryz.func104 rfl (by kernel_rfl) (by rw [Tryz.ntmps104]; exact len_le _ _ rfl) fun hok hokH => ?_
  clear hok
  have hlen : (imOf sizes).length ≤ 1000000000 := by rw [imOf_len]; have := (sizesE_0 he).2.1; omega
  have hs : ∀ v ∈ imOf sizes, v.length ≤ 1000000000 := fun v hv => by
    obtain ⟨n, hn, rfl⟩ := List.mem_map.1 hv
    have := (sizesE_0 he).2.2 n hn
    rw [zer_len]; omega
  refine SWp.seq (Wp.s ?_)
  simp -implicitDefEqProofs [go_sem, args0]
  refine Wp.s ?_
  simp -implicitDefEqProofs [go_sem, hbx_of (at_old _ [some (wrC w)] hb)]
  refine CC.mono (Fits_cc _ _ .sh (imOf sizes) w hlen hs (by omega)) ?_
  rintro _ _ _ ⟨rfl, rfl, rfl⟩
  simp -implicitDefEqProofs [go_sem]
  exact Fin.er (fitsI_of he w).symm hokH (by simp) (by simp)
theorem wsCheck_cc (H : Hp) (V : List Nat) (tk t2 : Tk) (l : List Wr) (sizes : List Int) (hl : l.length ≤ 1000000000) (hw : WrS l) (h2 : sizes.length ≤ 9223372036854775807) : CC Tryz.prog 75 [.sl tk 3 (l.map wrC), .sl t2 1 (sizes.map ic)] H V (Pu (er (wsE sizes l)) H V) := by
  refine CC.of_swp Tryz.func75 rfl (by kernel_rfl) (by rw [Tryz.ntmps75]; exact len_le _ _ rfl) fun hok hokH => ?_
  clear hok
  refine SWp.seq (Wp.s ?_)
  simp -implicitDefEqProofs [go_sem, args0]
  refine SWp.seq (Wp.s ?_)
  simp -implicitDefEqProofs [go_sem]
  refine CC.mono (New_cc _ _ _ sizes h2) ?_
  rintro _ _ _ ⟨rfl, rfl, rfl⟩
  by_cases he : sizesE sizes = 0
  · simp -implicitDefEqProofs [go_sem, he]
    refine SWp.seq (Wp.s ?_)
    simp -implicitDefEqProofs [go_sem]
    refine Wp.s ?_
    simp -implicitDefEqProofs [go_sem]
    refine CC.mono (check_cc _ _ _ l _ [.ptr H.length 0] (fitsS sizes) (.inr ⟨_, rfl, by simp⟩) hl hw (fun H' V' w hm hb => Check1_cc H' V' w H.length sizes (hb _ _ (by simp)) he (hw w hm)) (fun w hm hf => by have := fitsS_0 he hf; omega)) ?_
    rintro _ _ _ ⟨rfl, rfl, rfl⟩
    simp -implicitDefEqProofs [go_sem]
    exact Fin.er (by rw [wsE, if_neg (by simp [he])]) hokH (by simp) (by simp)
  · simp -implicitDefEqProofs [go_sem, he]
    refine SWp.seq (Wp.s ?_)
    simp -implicitDefEqProofs [go_sem, he]
    exact Fin.er (by rw [wsE, if_pos he]) hokH (by simp) (by simp)
theorem cCheck_cc (H : Hp) (V : List Nat) (t2 : Tk) (c : Cyc) (sizes : List Int) (hl : c.wrs.length ≤ 1000000000) (hw : WrS c.wrs) (h2 : sizes.length ≤ 9223372036854775807) (h3 : c.poss.length ≤ 9223372036854775807) : CC Tryz.prog 36 [.agg (cycC c), .sl t2 1 (sizes.map ic)] H V (Pu (er (chkC c sizes)) H V) := by
  refine CC.of_swp Tryz.func36 rfl (by kernel_rfl) (by rw [Tryz.ntmps36]; exact len_le _ _ rfl) fun hok hokH => ?_
  clear hok
  refine SWp.seq (Wp.s ?_)
  simp -implicitDefEqProofs [go_sem, args0]
  refine SWp.seq (Wp.s ?_)
  simp -implicitDefEqProofs [go_sem]
  refine CC.mono (New_cc _ _ _ sizes h2) ?_
  rintro _ _ _ ⟨rfl, rfl, rfl⟩
  by_cases he : sizesE sizes = 0
  case neg =>
    simp -implicitDefEqProofs [go_sem, he]
    exact Fin.er (by rw [chkC, if_pos he]) hokH (by simp) (by simp)
  have e0 : chkC c sizes = if c.base < 0 ∨ c.number ≤ c.base ∨ 1073741824 < c.number then 2 else if inB c.time 0 1073741824 = false then 24 else if posE c.poss 0 ≠ 0 then posE c.poss 0 else wsE sizes c.wrs := by
    rw [chkC, if_neg (by simp [he])]
  simp -implicitDefEqProofs [go_sem, he]
  refine SWp.join (α := Unit) (fun _ => ([(1, .sl t2 1 (sizes.map ic)), (2, .ptr H.length 0)], H ++ [some (cycC c)], V)) (fun _ => ¬ (c.base < 0 ∨ c.number ≤ c.base ∨ 1073741824 < c.number) ∧ inB c.time 0 1073741824 = true) ?_ ?_
  · refine SWp.block (SWp.seq (Wp.s ?_))
    by_cases b1 : c.base < 0
    · simp -implicitDefEqProofs [go_sem, b1]
      refine Wp.s ?_
      simp -implicitDefEqProofs [go_sem]
      exact Fin.er (by rw [e0, if_pos (.inl b1)]) hokH (by simp) (by simp)
    by_cases b2 : c.number ≤ c.base
    · simp -implicitDefEqProofs [go_sem, b1, b2]
      refine Wp.s ?_
      simp -implicitDefEqProofs [go_sem]
      exact Fin.er (by rw [e0, if_pos (.inr (.inl b2))]) hokH (by simp) (by simp)
    by_cases b3 : 1073741824 < c.number
    · simp -implicitDefEqProofs [go_sem, b1, b2, b3]
      refine Wp.s ?_
      simp -implicitDefEqProofs [go_sem]
      exact Fin.er (by rw [e0, if_pos (.inr (.inr b3))]) hokH (by simp) (by simp)
    simp -implicitDefEqProofs [go_sem, b1, b2, b3]
    refine Wp.s ?_
    simp -implicitDefEqProofs [go_sem]
    refine CC.mono (in_cc _ _ c.time 0 1073741824) ?_
    rintro _ _ _ ⟨rfl, rfl, rfl⟩
    rcases ht : inB c.time 0 1073741824 with - | -
    · simp -implicitDefEqProofs [go_sem]
      exact Fin.er (by rw [e0, if_neg (by omega), if_pos ht]) hokH (by simp) (by simp)
    · simp -implicitDefEqProofs [go_sem, b1, b2, b3]
      exact Sh.forget (by simp [go_sem]) rfl rfl
  · rintro _ ⟨n1, n2⟩
    dsimp only
    rw [if_neg n1, if_neg (by simp [n2])] at e0
    refine SWp.seq (SWp.seq (Wp.s ?_))
    simp -implicitDefEqProofs [go_sem]
    refine CC.mono (positions_cc _ _ _ c.poss 0 h3) ?_
    rintro _ _ _ ⟨rfl, rfl, rfl⟩
    by_cases hp : posE c.poss 0 = 0
    · simp -implicitDefEqProofs [go_sem, hp]
      refine Wp.s ?_
      simp -implicitDefEqProofs [go_sem, hp]
      refine Wp.s ?_
      simp -implicitDefEqProofs [go_sem]
      refine CC.mono (wsCheck_cc _ _ _ _ c.wrs sizes hl hw h2) ?_
      rintro _ _ _ ⟨rfl, rfl, rfl⟩
      simp -implicitDefEqProofs [go_sem]
      exact Fin.er (by rw [e0, if_neg (by simp [hp])]) hokH (by simp) (by simp)
    · simp -implicitDefEqProofs [go_sem, hp]
      refine Wp.s ?_
      simp -implicitDefEqProofs [go_sem, hp]
      exact Fin.er (by rw [e0, if_pos hp]) hokH (by simp) (by simp)
end Go.Proofs.YtpadnceoacbaeaaGreat
namespace Go.Proofs.YtpadnceoacbaeaaGreat
open Go.Proofs
theorem refSizes_cc (H : Hp) (V : List Nat) (tk : Tk) (l : List Int) (hl : l.length ≤ 9223372036854775807) : CC Tryz.prog 84 [.sl tk 1 (l.map ic)] H V (Pu (er (sizesE l)) H V) := by
  refine CC.of_swp Tryz.func84 rfl (by kernel_rfl) (by rw [Tryz.ntmps84]; exact len_le _ _ rfl) fun hok hokH => ?_
  clear hok
  refine SWp.seq (Wp.s ?_)
  simp -implicitDefEqProofs [go_sem, args0]
  refine SWp.seq (SWp.seq (Wp.s ?_))
  by_cases h1 : l.length < 1
  · simp -implicitDefEqProofs [go_sem, h1, show (l.length : Int) < 1 by omega]
    refine Wp.s ?_
    simp -implicitDefEqProofs [go_sem]
    exact Fin.er (by rw [sizesE, if_pos (.inl h1)]) hokH (by simp) (by simp)
  by_cases h2 : 8 < l.length
  · simp -implicitDefEqProofs [go_sem, h1, show ¬ (l.length : Int) < 1 by omega, show (8 : Int) < l.length by omega]
    refine Wp.s ?_
    simp -implicitDefEqProofs [go_sem]
    exact Fin.er (by rw [sizesE, if_pos (.inr h2)]) hokH (by simp) (by simp)
  simp -implicitDefEqProofs [go_sem, h1, show ¬ (l.length : Int) < 1 by omega, show ¬ (8 : Int) < l.length by omega]
  refine Wp.s ?_
  simp -implicitDefEqProofs [go_sem]
  refine SWp.join (α := Unit) (fun _ => ([], H, V)) (fun _ => sizesE l = 0) ?_ ?_
  · refine SWp.seq (Wp.s ?_)
    simp -implicitDefEqProofs [go_sem]
    refine SWp.block ?_
    refine SWp.loop (α := Nat) (fun i => ([(0, .sl tk 1 (l.map ic)), (3, ci i)], H, V)) (fun i => i ≤ l.length ∧ (l.take i).any badSz = false) (fun i => l.length - i) 0 ⟨Nat.zero_le _, rfl⟩ (Sh.forget (by simp [go_sem]) rfl rfl) ?_
    rintro i ⟨hi, hp⟩
    dsimp only
    refine SWp.seq (SWp.seq (Wp.s ?_))
    simp -implicitDefEqProofs [go_sem]
    refine Wp.s ?_
    simp -implicitDefEqProofs [go_sem]
    refine ⟨fun h => ?_, fun h => ⟨?_, Sh.forget (by simp [go_sem]) rfl rfl⟩⟩
    · refine SWp.seq (SWp.block (SWp.seq (Wp.s ?_)))
      have bad : l[i] < 1 ∨ 4096 < l[i] → sizesE l = 2 := fun q => by rw [sizesE, if_neg (by omega), if_pos (any_at h (by simpa [badSz] using q))]
      by_cases b1 : l[i] < 1
      · simp -implicitDefEqProofs [go_sem, h, b1]
        refine Wp.s ?_
        simp -implicitDefEqProofs [go_sem]
        exact Fin.er (bad (.inl b1)) hokH (by simp) (by simp)
      by_cases b2 : 4096 < l[i]
      · simp -implicitDefEqProofs [go_sem, h, b1, b2]
        refine Wp.s ?_
        simp -implicitDefEqProofs [go_sem]
        exact Fin.er (bad (.inr b2)) hokH (by simp) (by simp)
      simp -implicitDefEqProofs [go_sem, h, b1, b2]
      refine Wp.s ?_
      simp -implicitDefEqProofs [go_sem]
      refine Wp.s ?_
      simp -implicitDefEqProofs [go_sem]
      refine ⟨i + 1, ⟨by omega, by simpa using any_take h hp (by simp only [badSz, b1, b2, decide_false, Bool.or_false])⟩, by omega, Sh.forget ?_ rfl rfl⟩
      simp [go_sem, wrap_big (show i < 9223372036854775807 by omega)]
    · rw [List.take_of_length_le h] at hp
      rw [sizesE, if_neg (by omega), if_neg (by rw [hp]; decide)]
  · rintro _ hp
    dsimp only
    refine SWp.seq (Wp.s ?_)
    simp -implicitDefEqProofs [go_sem]
    refine Wp.s ?_
    simp -implicitDefEqProofs [go_sem]
    exact Fin.er hp hokH (by simp) (by simp)
theorem fitsS_7 {l : List Int} {w : Wr} (h : w.volume < 0 ∨ (l.length : Int) ≤ w.volume) : fitsS l w = 7 := by rw [fitsS, if_pos h]
set_option maxRecDepth 8000 in
theorem refFits_cc (H : Hp) (V : List Nat) (tk : Tk) (l : List Int) (w : Wr) (hl : l.length ≤ 1000000000) (hs : ∀ n ∈ l, 1 ≤ n ∧ n ≤ 4096) (hw : w.data.length ≤ 1000000000) : CC Tryz.prog 117 [.sl tk 1 (l.map ic), .agg (wrC w)] H V (Pu (er (fitsS l w)) H V) := by
  refine CC.of_swp Tryz.func117 rfl (by kernel_rfl) (by rw [Tryz.ntmps117]; exact len_le _ _ rfl) fun hok hokH => ?_
  clear hok
  refine SWp.seq (Wp.s ?_)
  simp -implicitDefEqProofs [go_sem, args0]
  refine SWp.seq (SWp.seq (Wp.s ?_))
  by_cases h1 : w.volume < 0
  · simp -implicitDefEqProofs [go_sem, h1]
    refine Wp.s ?_
    simp -implicitDefEqProofs [go_sem]
    exact Fin.er (fitsS_7 (.inl h1)) hokH (by simp) (by simp)
  by_cases h2 : (l.length : Int) ≤ w.volume
  · simp -implicitDefEqProofs [go_sem, h1, h2]
    refine Wp.s ?_
    simp -implicitDefEqProofs [go_sem]
    exact Fin.er (fitsS_7 (.inr h2)) hokH (by simp) (by simp)
  simp -implicitDefEqProofs [go_sem, h1, h2]
  refine Wp.s ?_
  simp -implicitDefEqProofs [go_sem]
  refine SWp.seq (SWp.seq (Wp.s ?_))
  by_cases h3 : w.data.length = 0
  · have h3' : w.data = [] := List.length_eq_zero_iff.1 h3
    simp -implicitDefEqProofs [go_sem, h3']
    refine Wp.s ?_
    simp -implicitDefEqProofs [go_sem]
    exact Fin.er (by rw [fitsS, if_neg (by omega), if_pos h3]) hokH (by simp) (by simp)
  have h3' : ¬ w.data = [] := fun q => h3 (by rw [q]; rfl)
  simp -implicitDefEqProofs [go_sem, h3']
  refine Wp.s ?_
  simp -implicitDefEqProofs [go_sem]
  obtain ⟨k, hk⟩ := Int.eq_ofNat_of_zero_le (show 0 ≤ w.volume by omega)
  have hkl : k < l.length := by omega
  have hlk := hs _ (List.getElem_mem hkl)
  have e0 : fitsS l w = if w.start < 0 ∨ l[k] - w.data.length < w.start then 2 else 0 := by
    rw [fitsS, if_neg (by omega), if_neg h3, hk, Int.toNat_natCast, List.getD_eq_getElem?_getD, List.getElem?_eq_getElem hkl]; rfl
  refine SWp.seq (SWp.seq (SWp.drawnT [] [] (.s 0 .pl <| .s 1 .pl <| .s 2 .pl <| .s 3 .pl <| .s 4 .pl <| .s 5 .pl <| .s 6 .pl <| .s 7 .pl <| .s 8 .pl <| .s 9 .pl <| .s 10 .pl <| .s 11 .pl <| .s 12 .pl <| .s 13 .pl <| .s 14 .pl <| .s 15 .pl <| .s 16 .pl <| .s 17 .pl <| .s 18 .pl <| .s 19 .pl <| .s 20 .pl <| .s 21 .pl <| .s 22 .pl <| .s 23 .pl <| .s 24 .pl <| .s 25 .pl <| .s 26 .pl <| .n) (by kernel_rfl) (by kernel_rfl) ?_))
  by_cases b1 : w.start < 0
  · simp -implicitDefEqProofs [go_sem, b1]
    refine Wp.s ?_
    simp -implicitDefEqProofs [go_sem]
    exact Fin.er (by rw [e0, if_pos (.inl b1)]) hokH (by simp) (by simp)
  by_cases b2 : l[k] ≤ w.start
  · simp -implicitDefEqProofs [go_sem, b1, hk, hkl, b2]
    refine Wp.s ?_
    simp -implicitDefEqProofs [go_sem]
    exact Fin.er (by rw [e0, if_pos (.inr (by omega))]) hokH (by simp) (by simp)
  have w1 : IntKind.i64.wrap (l[k] - w.start) = l[k] - w.start := IntWalk.i64_in _ ⟨by omega, by omega⟩
  by_cases b3 : l[k] - w.start < (w.data.length : Int)
  · simp -implicitDefEqProofs [go_sem, b1, hk, hkl, b2, w1, b3]
    refine Wp.s ?_
    simp -implicitDefEqProofs [go_sem]
    exact Fin.er (by rw [e0, if_pos (.inr (by omega))]) hokH (by simp) (by simp)
  · simp -implicitDefEqProofs [go_sem, b1, hk, hkl, b2, w1, b3]
    refine Wp.s ?_
    simp -implicitDefEqProofs [go_sem]
    refine SWp.seq (Wp.s ?_)
    simp -implicitDefEqProofs [go_sem]
    refine Wp.s ?_
    simp -implicitDefEqProofs [go_sem]
    exact Fin.er (by rw [e0, if_neg (by omega)]) hokH (by simp) (by simp)
def mrep (i : Nat) : List (List CV) := (List.replicate i (4096 : Int)).map ic
theorem mrep_8 : mrep 8 = mostS.map ic := rfl
theorem mrep_1 : [[CV.v (.int .i64 4096)]] = mrep 1 := rfl
theorem mrep_len (i : Nat) : (mrep i).length = i := by rw [mrep, List.length_map, List.length_replicate]
theorem mrep_step (i : Nat) : mrep i ++ [[CV.v (.int .i64 4096)]] = mrep (i + 1) := by
  unfold mrep; rw [List.replicate_succ', List.map_append]; rfl
theorem most_cc (H : Hp) (V : List Nat)  : CC Tryz.prog 46 [] H V (Fr 1 (mostS.map ic) H V) := by
  refine CC.of_swp Tryz.func46 rfl (by kernel_rfl) (by rw [Tryz.ntmps46]; exact len_le _ _ rfl) fun hok hokH => ?_
  clear hok
  refine SWp.seq (Wp.s ?_)
  simp -implicitDefEqProofs [go_sem, args0]
  refine SWp.seq (Wp.s ?_)
  simp -implicitDefEqProofs [go_sem]
  refine SWp.join (α := Nat) (fun v => ([(1, .sl (.own V.length v) 1 (mostS.map ic))], H, V ++ [v])) (fun _ => True) ?_ ?_
  · refine SWp.seq (Wp.s ?_)
    simp -implicitDefEqProofs [go_sem]
    refine SWp.block ?_
    refine SWp.loop (α := Nat × CV × List Nat) (fun x => ([(1, x.2.1), (2, ci x.1)], H, x.2.2)) (fun x => x.1 ≤ 8 ∧ ((x.1 = 0 ∧ x.2.1 = .v (.slice none 0 0) ∧ x.2.2 = V) ∨ ∃ v, x.2.1 = .sl (.own V.length v) 1 (mrep x.1) ∧ x.2.2 = V ++ [v])) (fun x => 8 - x.1) (0, .v (.slice none 0 0), V) ⟨by simp, .inl ⟨rfl, rfl, rfl⟩⟩ (Sh.forget (by simp [go_sem]) rfl rfl) ?_
    rintro ⟨i, cv, V1⟩ ⟨hi, hcv⟩
    dsimp only at hi hcv ⊢
    refine SWp.seq (SWp.seq (Wp.s ?_))
    by_cases h : i < 8
    case neg =>
      simp -implicitDefEqProofs [go_sem, show ¬ (i : Int) < 8 by omega]
      refine Wp.s ?_
      simp -implicitDefEqProofs [go_sem]
      obtain rfl : i = 8 := by omega
      rcases hcv with ⟨h0, _⟩ | ⟨v, rfl, rfl⟩
      · cases h0
      · exact ⟨v, Sh.forget (by rw [← mrep_8]; simp [go_sem]) rfl rfl⟩
    simp -implicitDefEqProofs [go_sem, show (i : Int) < 8 by omega]
    refine Wp.s ?_
    simp -implicitDefEqProofs [go_sem]
    refine SWp.seq (SWp.block (Wp.s ?_))
    rcases hcv with ⟨rfl, rfl, rfl⟩ | ⟨v, rfl, rfl⟩
    · simp -implicitDefEqProofs [go_sem]
      refine Wp.s ?_
      simp -implicitDefEqProofs [go_sem]
      exact ⟨1, _, _, ⟨by omega, .inr ⟨0, rfl, rfl⟩⟩, by omega, Sh.forget (by simp [go_sem, mrep_1]; exact .refl _) rfl rfl⟩
    · simp -implicitDefEqProofs [go_sem, mrep_len]
      refine ⟨by omega, ?_⟩
      refine Wp.s ?_
      simp -implicitDefEqProofs [go_sem]
      refine ⟨i + 1, _, _, ⟨by omega, .inr ⟨v + 1, rfl, rfl⟩⟩, by omega, Sh.forget ?_ rfl rfl⟩
      rw [← mrep_step]
      simp [go_sem, wrap_succ (show i ≤ 1000000000 by omega)]
  · rintro v -
    dsimp only
    refine SWp.seq (Wp.s ?_)
    simp -implicitDefEqProofs [go_sem]
    refine Wp.s ?_
    simp -implicitDefEqProofs [go_sem]
    exact Fin.fresh rfl (by simp [go_sem]) hokH (by simp)
end Go.Proofs.YtpadnceoacbaeaaGreat
namespace Go.Proofs.YtpadnceoacbaeaaGreat
open Go.Proofs
theorem fitsS_st {l : List Int} {w : Wr} (hs : ∀ n ∈ l, 1 ≤ n ∧ n ≤ 4096) (h : fitsS l w = 0) : 0 ≤ w.start ∧ w.start ≤ 4096 := by
  unfold fitsS at h
  split at h
  · cases h
  · rename_i h1
    split at h
    · cases h
    · split at h
      · cases h
      · rename_i h3
        have hk : w.volume.toNat < l.length := by omega
        rw [List.getD_eq_getElem?_getD, List.getElem?_eq_getElem hk, Option.getD_some] at h3
        have := hs _ (List.getElem_mem hk)
        omega
set_option maxRecDepth 8000 in
theorem refWs_cc (H : Hp) (V : List Nat) (tk t2 : Tk) (l : List Wr) (sizes : List Int) (hl : l.length ≤ 1000000000) (hw : WrS l) (h2 : sizes.length ≤ 1000000000) : CC Tryz.prog 86 [.sl tk 3 (l.map wrC), .sl t2 1 (sizes.map ic)] H V (Pu (er (wsE sizes l)) H V) := by
  refine CC.of_swp Tryz.func86 rfl (by kernel_rfl) (by rw [Tryz.ntmps86]; exact len_le _ _ rfl) fun hok hokH => ?_
  have ht : okTk V.length tk ∧ okTk V.length t2 := by
    rw [okL, okL, okL, okV, okV] at hok
    exact ⟨hok.1.1, hok.2.1.1⟩
  refine SWp.seq (Wp.s ?_)
  simp -implicitDefEqProofs [go_sem, args0]
  refine SWp.seq (SWp.seq (Wp.s ?_))
  simp -implicitDefEqProofs [go_sem]
  refine CC.mono (refSizes_cc _ _ _ sizes (by omega)) ?_
  rintro _ _ _ ⟨rfl, rfl, rfl⟩
  simp -implicitDefEqProofs [go_sem]
  by_cases hz : sizesE sizes = 0
  case neg =>
    refine SWp.seq (Wp.s ?_)
    simp -implicitDefEqProofs [go_sem]
    refine Wp.s ?_
    simp -implicitDefEqProofs [go_sem, hz]
    exact Fin.er (by rw [wsE, if_pos hz]) hokH (by simp) (by simp)
  refine SWp.seq (Wp.s ?_)
  simp -implicitDefEqProofs [go_sem]
  refine Wp.s ?_
  simp -implicitDefEqProofs [go_sem, hz]
  have hss := (sizesE_0 hz).2.2
  have ew : wsE sizes l = chkW (fitsS sizes) none l := by rw [wsE, if_neg (by simp [hz])]
  refine SWp.join (α := Unit) (fun _ => ([], H, V)) (fun _ => chkW (fitsS sizes) none l = 0) ?_ ?_
  · refine SWp.seq (Wp.s ?_)
    simp -implicitDefEqProofs [go_sem]
    refine SWp.block ?_
    refine SWp.loop (α := Nat) (fun i => ([(0, .sl tk 3 (l.map wrC)), (1, .sl t2 1 (sizes.map ic)), (6, ci i)], H, V)) (fun i => i ≤ l.length ∧ chkW (fitsS sizes) none l = chkW (fitsS sizes) (prevW l i) (l.drop i) ∧ ∀ x, prevW l i = some x → fitsS sizes x = 0) (fun i => l.length - i) 0 ⟨Nat.zero_le _, rfl, fun x hx => by cases hx⟩ (Sh.forget (by simp [go_sem]) rfl rfl) ?_
    rintro i ⟨hi, hp, hpf⟩
    dsimp only
    refine SWp.seq (SWp.seq (Wp.s ?_))
    simp -implicitDefEqProofs [go_sem]
    refine Wp.s ?_
    simp -implicitDefEqProofs [go_sem]
    refine ⟨fun h => ?_, fun h => ⟨?_, Sh.forget (by simp [go_sem]) rfl rfl⟩⟩
    case refine_2 => rw [hp, List.drop_of_length_le h]; cases prevW l i <;> rfl
    have hwi := hw _ (List.getElem_mem h)
    refine SWp.seq (SWp.block (SWp.seq (SWp.seq (Wp.s ?_))))
    simp -implicitDefEqProofs [go_sem, h]
    refine CC.mono (refFits_cc _ _ _ sizes l[i] h2 hss (by omega)) ?_
    rintro _ _ _ ⟨rfl, rfl, rfl⟩
    simp -implicitDefEqProofs [go_sem]
    have next : (∀ x, prevW l i = some x → badO x l[i] = false) → fitsS sizes l[i] = 0 → (chkW (fitsS sizes) none l = chkW (fitsS sizes) (prevW l (i + 1)) (l.drop (i + 1)) ∧ ∀ x, prevW l (i + 1) = some x → fitsS sizes x = 0) := fun hb h0 => by
      have e : prevW l (i + 1) = some l[i] := List.getElem?_eq_getElem h
      rw [hp, chkW_step h h0 hb, e]
      exact ⟨rfl, fun x hx => by cases hx; exact h0⟩
    by_cases h0 : fitsS sizes l[i] = 0
    case neg =>
      refine SWp.seq (Wp.s ?_)
      simp -implicitDefEqProofs [go_sem]
      refine Wp.s ?_
      simp -implicitDefEqProofs [go_sem, h0]
      exact Fin.er (by rw [ew, hp, List.drop_eq_getElem_cons h]; cases prevW l i <;> rw [chkW, if_pos h0]) hokH (by simp) (by simp)
    refine SWp.seq (Wp.s ?_)
    simp -implicitDefEqProofs [go_sem]
    refine Wp.s ?_
    simp -implicitDefEqProofs [go_sem, h0]
    have fin : ∀ {T : Tm} {L : Hp}, TLe T [(0, .sl tk 3 (l.map wrC)), (1, .sl t2 1 (sizes.map ic)), (6, ci (i + 1 : Nat))] → Sh 69 H.length V.length T (H ++ L) V ([(0, .sl tk 3 (l.map wrC)), (1, .sl t2 1 (sizes.map ic)), (6, ci (i + 1 : Nat))], H, V) := fun {T L} hT =>
      Sh.back hT rfl rfl (by simp [go_sem, okV_slt, ht.1, ht.2, okE_wrs, okE_ints]) hokH (by simp) (by simp)
    refine SWp.seq (SWp.seq (Wp.s ?_))
    by_cases hi0 : i = 0
    · subst hi0
      simp -implicitDefEqProofs [go_sem]
      refine Wp.s ?_
      simp -implicitDefEqProofs [go_sem]
      refine Wp.s ?_
      simp -implicitDefEqProofs [go_sem, show IntKind.i64.wrap 1 = 1 from rfl]
      exact ⟨1, ⟨by omega, next (fun x hx => by cases hx) h0⟩, by omega, Sh.forget (by simp [go_sem]) rfl rfl⟩
    · have hwm : IntKind.i64.wrap ((i : Int) - 1) = ((i - 1 : Nat) : Int) := by rw [IntWalk.i64_in _ ⟨by omega, by omega⟩]; omega
      have hx1 : i - 1 < l.length := by omega
      have hprev : prevW l i = some l[i - 1] := by
        obtain ⟨k, rfl⟩ : ∃ k, i = k + 1 := ⟨i - 1, by omega⟩
        simp only [prevW, Nat.add_sub_cancel]
        exact List.getElem?_eq_getElem (by omega)
      simp -implicitDefEqProofs [go_sem, hi0]
      refine Wp.s ?_
      simp -implicitDefEqProofs [go_sem]
      refine SWp.seq (Wp.s ?_)
      simp -implicitDefEqProofs [go_sem, hwm, hx1]
      have hwx := hw _ (List.getElem_mem hx1)
      obtain ⟨s1, s2⟩ := fitsS_st hss (hpf _ hprev)
      have hadd : IntKind.i64.wrap (l[i - 1].start + (l[i - 1].data.length : Int)) = l[i - 1].start + (l[i - 1].data.length : Int) := IntWalk.i64_in _ ⟨by omega, by omega⟩
      have hadd2 : IntKind.i64.wrap (l[i - 1].start + (l[i - 1].data.length : Int) + 1) = l[i - 1].start + (l[i - 1].data.length : Int) + 1 := IntWalk.i64_in _ ⟨by omega, by omega⟩
      have bad : badO l[i - 1] l[i] = true → chkW (fitsS sizes) none l = 3 := fun hb => by
        rw [hp, hprev, List.drop_eq_getElem_cons h, chkW, if_neg (by simp [h0]), if_pos hb]
      have good : badO l[i - 1] l[i] = false → _ := fun hb => next (fun x hx => by rw [hprev] at hx; cases hx; exact hb) h0
      refine SWp.seq (SWp.drawnT [] [] (.s 0 .pl <| .s 1 .pl <| .s 2 .pl <| .s 3 .pl <| .s 4 .pl <| .s 5 .pl <| .s 6 .pl <| .s 7 .pl <| .s 8 .pl <| .s 9 .pl <| .s 10 .pl <| .s 11 .pl <| .s 12 .pl <| .s 13 .pl <| .s 14 .pl <| .s 15 .pl <| .s 16 .pl <| .s 17 .pl <| .s 18 .pl <| .s 19 .pl <| .s 20 .pl <| .s 21 .pl <| .s 22 .pl <| .s 23 .pl <| .s 24 .pl <| .s 25 .pl <| .s 26 .pl <| .s 27 .pl <| .s 28 .pl <| .s 29 .pl <| .s 30 .pl <| .s 31 .pl <| .s 32 .pl <| .n) (by kernel_rfl) (by kernel_rfl) ?_)
      by_cases b1 : l[i].volume < l[i - 1].volume
      · simp -implicitDefEqProofs [go_sem, h, b1]
        refine Wp.s ?_
        simp -implicitDefEqProofs [go_sem]
        exact Fin.er (by rw [ew]; exact bad (by simp [badO, b1])) hokH (by simp) (by simp)
      by_cases b2 : l[i].volume = l[i - 1].volume
      · by_cases b3 : l[i].start ≤ l[i - 1].start + l[i - 1].data.length
        · simp -implicitDefEqProofs [go_sem, h, b1, b2, hadd, hadd2, show l[i].start < l[i - 1].start + (l[i - 1].data.length : Int) + 1 by omega]
          refine Wp.s ?_
          simp -implicitDefEqProofs [go_sem]
          exact Fin.er (by rw [ew]; exact bad (by simp [badO, b2, b3])) hokH (by simp) (by simp)
        · simp -implicitDefEqProofs [go_sem, h, b1, b2, hadd, hadd2, show ¬ l[i].start < l[i - 1].start + (l[i - 1].data.length : Int) + 1 by omega]
          refine Wp.s ?_
          simp -implicitDefEqProofs [go_sem]
          refine Wp.s ?_
          simp -implicitDefEqProofs [go_sem, wrap_succ (show i ≤ 1000000000 by omega)]
          refine ⟨i + 1, ⟨by omega, good (by simp [badO, b2]; omega)⟩, by omega, fin ?_⟩
          simp [go_sem]
      · simp -implicitDefEqProofs [go_sem, h, b1, b2]
        refine Wp.s ?_
        simp -implicitDefEqProofs [go_sem]
        refine Wp.s ?_
        simp -implicitDefEqProofs [go_sem, wrap_succ (show i ≤ 1000000000 by omega)]
        refine ⟨i + 1, ⟨by omega, good (by simp [badO, b1, b2])⟩, by omega, fin ?_⟩
        simp [go_sem]
  · rintro _ hp
    dsimp only
    refine SWp.seq (Wp.s ?_)
    simp -implicitDefEqProofs [go_sem]
    refine Wp.s ?_
    simp -implicitDefEqProofs [go_sem]
    exact Fin.er (by rw [ew, hp]) hokH (by simp) (by simp)
def posB (l : List Int) : Bool := l.any badPos
def posT (l : List Int) (i : Nat) : Bool := (l.take i).any badPos
theorem refPos_cc (H : Hp) (V : List Nat) (tk : Tk) (l : List Int) (hl : l.length ≤ 9223372036854775807) : CC Tryz.prog 85 [.sl tk 1 (l.map ic)] H V (Pu (er (if posB l = true then 2 else 0)) H V) := by
  refine CC.of_swp Tryz.func85 rfl (by kernel_rfl) (by rw [Tryz.ntmps85]; exact len_le _ _ rfl) fun hok hokH => ?_
  clear hok
  refine SWp.seq (Wp.s ?_)
  simp -implicitDefEqProofs [go_sem, args0]
  refine SWp.join (α := Unit) (fun _ => ([], H, V)) (fun _ => posB l = false) ?_ ?_
  · refine SWp.seq (Wp.s ?_)
    simp -implicitDefEqProofs [go_sem]
    refine SWp.block ?_
    refine SWp.loop (α := Nat) (fun i => ([(0, .sl tk 1 (l.map ic)), (3, ci i)], H, V)) (fun i => i ≤ l.length ∧ posT l i = false) (fun i => l.length - i) 0 ⟨Nat.zero_le _, rfl⟩ (Sh.forget (by simp [go_sem]) rfl rfl) ?_
    rintro i ⟨hi, hp⟩
    dsimp only
    refine SWp.seq (SWp.seq (Wp.s ?_))
    simp -implicitDefEqProofs [go_sem]
    refine Wp.s ?_
    simp -implicitDefEqProofs [go_sem]
    refine ⟨fun h => ?_, fun h => ⟨?_, Sh.forget (by simp [go_sem]) rfl rfl⟩⟩
    · refine SWp.seq (SWp.block (SWp.seq (Wp.s ?_)))
      have bad : l[i] < 0 ∨ 1073741824 < l[i] → posB l = true := fun q => any_at h (by simp only [badPos, inB, Bool.not_eq_true', Bool.and_eq_false_iff, decide_eq_false_iff_not]; omega)
      by_cases b1 : l[i] < 0
      · simp -implicitDefEqProofs [go_sem, h, b1]
        refine Wp.s ?_
        simp -implicitDefEqProofs [go_sem]
        exact Fin.er (by rw [if_pos (bad (.inl b1))]) hokH (by simp) (by simp)
      by_cases b2 : 1073741824 < l[i]
      · simp -implicitDefEqProofs [go_sem, h, b1, b2]
        refine Wp.s ?_
        simp -implicitDefEqProofs [go_sem]
        exact Fin.er (by rw [if_pos (bad (.inr b2))]) hokH (by simp) (by simp)
      simp -implicitDefEqProofs [go_sem, h, b1, b2]
      refine Wp.s ?_
      simp -implicitDefEqProofs [go_sem]
      refine Wp.s ?_
      simp -implicitDefEqProofs [go_sem]
      refine ⟨i + 1, ⟨by omega, any_take h hp (by simp only [badPos, inB, Bool.not_eq_false', Bool.and_eq_true, decide_eq_true_eq]; omega)⟩, by omega, Sh.forget ?_ rfl rfl⟩
      simp [go_sem, wrap_big (show i < 9223372036854775807 by omega)]
    · unfold posT at hp; rwa [List.take_of_length_le h] at hp
  · rintro _ hp
    dsimp only
    refine SWp.seq (Wp.s ?_)
    simp -implicitDefEqProofs [go_sem]
    refine Wp.s ?_
    simp -implicitDefEqProofs [go_sem]
    exact Fin.er (by rw [if_neg (by rw [hp]; decide)]) hokH (by simp) (by simp)
theorem refCChk_cc (H : Hp) (V : List Nat) (t2 : Tk) (c : Cyc) (sizes : List Int) (hl : c.wrs.length ≤ 1000000000) (hw : WrS c.wrs) (h2 : sizes.length ≤ 1000000000) (h3 : c.poss.length ≤ 1000000000) : CC Tryz.prog 45 [.agg (cycC c), .sl t2 1 (sizes.map ic)] H V (Pu (er (chkC c sizes)) H V) := by
  refine CC.of_swp Tryz.func45 rfl (by kernel_rfl) (by rw [Tryz.ntmps45]; exact len_le _ _ rfl) fun hok hokH => ?_
  clear hok
  refine SWp.seq (Wp.s ?_)
  simp -implicitDefEqProofs [go_sem, args0]
  refine SWp.seq (SWp.seq (Wp.s ?_))
  simp -implicitDefEqProofs [go_sem]
  refine CC.mono (refSizes_cc _ _ _ sizes (by omega)) ?_
  rintro _ _ _ ⟨rfl, rfl, rfl⟩
  simp -implicitDefEqProofs [go_sem]
  by_cases hz : sizesE sizes = 0
  case neg =>
    refine SWp.seq (Wp.s ?_)
    simp -implicitDefEqProofs [go_sem]
    refine Wp.s ?_
    simp -implicitDefEqProofs [go_sem, hz]
    exact Fin.er (by rw [chkC, if_pos hz]) hokH (by simp) (by simp)
  refine SWp.seq (Wp.s ?_)
  simp -implicitDefEqProofs [go_sem]
  refine Wp.s ?_
  simp -implicitDefEqProofs [go_sem, hz]
  have e0 : chkC c sizes = if c.base < 0 ∨ c.number ≤ c.base ∨ 1073741824 < c.number then 2 else if inB c.time 0 1073741824 = false then 24 else if posE c.poss 0 ≠ 0 then posE c.poss 0 else wsE sizes c.wrs := by rw [chkC, if_neg (by simp [hz])]
  refine SWp.seq (SWp.seq (Wp.s ?_))
  by_cases b1 : c.base < 0
  · simp -implicitDefEqProofs [go_sem, b1]
    refine Wp.s ?_
    simp -implicitDefEqProofs [go_sem]
    exact Fin.er (by rw [e0, if_pos (.inl b1)]) hokH (by simp) (by simp)
  by_cases b2 : c.number ≤ c.base
  · simp -implicitDefEqProofs [go_sem, b1, b2]
    refine Wp.s ?_
    simp -implicitDefEqProofs [go_sem]
    exact Fin.er (by rw [e0, if_pos (.inr (.inl b2))]) hokH (by simp) (by simp)
  by_cases b3 : 1073741824 < c.number
  · simp -implicitDefEqProofs [go_sem, b1, b2, b3]
    refine Wp.s ?_
    simp -implicitDefEqProofs [go_sem]
    exact Fin.er (by rw [e0, if_pos (.inr (.inr b3))]) hokH (by simp) (by simp)
  rw [if_neg (by omega)] at e0
  simp -implicitDefEqProofs [go_sem, b1, b2, b3]
  refine Wp.s ?_
  simp -implicitDefEqProofs [go_sem]
  refine SWp.seq (SWp.seq (Wp.s ?_))
  by_cases t1 : c.time < 0
  · simp -implicitDefEqProofs [go_sem, t1]
    refine Wp.s ?_
    simp -implicitDefEqProofs [go_sem]
    exact Fin.er (by rw [e0, if_pos (by simp [inB]; omega)]) hokH (by simp) (by simp)
  by_cases t2 : 1073741824 < c.time
  · simp -implicitDefEqProofs [go_sem, t1, t2]
    refine Wp.s ?_
    simp -implicitDefEqProofs [go_sem]
    exact Fin.er (by rw [e0, if_pos (by simp [inB]; omega)]) hokH (by simp) (by simp)
  rw [if_neg (by simp [inB]; omega)] at e0
  simp -implicitDefEqProofs [go_sem, t1, t2]
  refine Wp.s ?_
  simp -implicitDefEqProofs [go_sem]
  refine SWp.seq (SWp.seq (Wp.s ?_))
  by_cases p1 : 8 < c.poss.length
  · simp -implicitDefEqProofs [go_sem, show (8 : Int) < c.poss.length by omega]
    refine Wp.s ?_
    simp -implicitDefEqProofs [go_sem]
    have hpe : posE c.poss 0 = 6 := by rw [posE, if_pos (by simp [inB]; omega)]
    exact Fin.er (by rw [e0, hpe]; rfl) hokH (by simp) (by simp)
  have hpe : posE c.poss 0 = if posB c.poss = true then 2 else 0 := by rw [posE, if_neg (by simp [inB]; omega)]; rfl
  rw [hpe] at e0
  simp -implicitDefEqProofs [go_sem, show ¬ (8 : Int) < c.poss.length by omega]
  refine Wp.s ?_
  simp -implicitDefEqProofs [go_sem]
  refine SWp.seq (SWp.seq (Wp.s ?_))
  simp -implicitDefEqProofs [go_sem]
  refine CC.mono (refPos_cc _ _ .sh c.poss (by omega)) ?_
  rintro _ _ _ ⟨rfl, rfl, rfl⟩
  cases hpb : posB c.poss with
  | true =>
    rw [hpb] at e0
    simp -implicitDefEqProofs [go_sem, hpb]
    refine SWp.seq (Wp.s ?_)
    simp -implicitDefEqProofs [go_sem]
    refine Wp.s ?_
    simp -implicitDefEqProofs [go_sem]
    exact Fin.er (by rw [e0]; rfl) hokH (by simp) (by simp)
  | false =>
    rw [hpb] at e0
    simp -implicitDefEqProofs [go_sem, hpb]
    refine SWp.seq (Wp.s ?_)
    simp -implicitDefEqProofs [go_sem]
    refine Wp.s ?_
    simp -implicitDefEqProofs [go_sem]
    refine SWp.seq (Wp.s ?_)
    simp -implicitDefEqProofs [go_sem]
    refine CC.mono (refWs_cc _ _ .sh _ c.wrs sizes hl hw h2) ?_
    rintro _ _ _ ⟨rfl, rfl, rfl⟩
    simp -implicitDefEqProofs [go_sem]
    refine Wp.s ?_
    simp -implicitDefEqProofs [go_sem]
    exact Fin.er (by rw [e0]; rfl) hokH (by simp) (by simp)
end Go.Proofs.YtpadnceoacbaeaaGreat
namespace Go.Proofs.YtpadnceoacbaeaaGreat
open Go.Proofs
/-- Equal from the start up to i. -/
theorem eq_of_take {α : Type} {x y : List α} (hl : x.length = y.length) {i : Nat} (hi : x.length ≤ i) (h : x.take i = y.take i) : x = y := by
  rwa [List.take_of_length_le hi, List.take_of_length_le (by omega)] at h
theorem take_eq_succ {α : Type} {x y : List α} {i : Nat} (h1 : i < x.length) (h2 : i < y.length) (h : x.take i = y.take i) (he : x[i] = y[i]) : x.take (i + 1) = y.take (i + 1) := by
  rw [List.take_succ_eq_append_getElem h1, List.take_succ_eq_append_getElem h2, h, he]
theorem ne_at {α : Type} {x y : List α} {i : Nat} (h1 : i < x.length) (h2 : i < y.length) (he : x[i] ≠ y[i]) : x ≠ y := fun e => he (by subst e; rfl)
theorem SameInts_cc (H : Hp) (V : List Nat) (t1 t2 : Tk) (x y : List Int) (hl : x.length ≤ 1000000000) : CC Tryz.prog 53 [.sl t1 1 (x.map ic), .sl t2 1 (y.map ic)] H V (Pu (.v (.bool (decide (x = y)))) H V) := by
  refine CC.of_swp Tryz.func53 rfl (by kernel_rfl) (by rw [Tryz.ntmps53]; exact len_le _ _ rfl) fun hok hokH => ?_
  clear hok
  refine SWp.seq (Wp.s ?_)
  simp -implicitDefEqProofs [go_sem, args0]
  refine SWp.seq (SWp.seq (Wp.s ?_))
  by_cases hlen : x.length = y.length
  case neg =>
    have hlen' : ¬ (x.length : Int) = (y.length : Int) := by omega
    simp -implicitDefEqProofs [go_sem, hlen']
    refine Wp.s ?_
    simp -implicitDefEqProofs [go_sem, hlen, hlen']
    exact Fin.bool (by simp [show x ≠ y from fun e => hlen (by rw [e])]) hokH (by simp) (by simp)
  simp -implicitDefEqProofs [go_sem, hlen]
  refine Wp.s ?_
  simp -implicitDefEqProofs [go_sem, hlen]
  refine SWp.join (α := Unit) (fun _ => ([], H, V)) (fun _ => x = y) ?_ ?_
  · refine SWp.seq (Wp.s ?_)
    simp -implicitDefEqProofs [go_sem]
    refine SWp.block ?_
    refine SWp.loop (α := Nat) (fun i => ([(0, .sl t1 1 (x.map ic)), (1, .sl t2 1 (y.map ic)), (5, ci i)], H, V)) (fun i => i ≤ x.length ∧ x.take i = y.take i) (fun i => x.length - i) 0 ⟨Nat.zero_le _, rfl⟩ (Sh.forget (by simp [go_sem]) rfl rfl) ?_
    rintro i ⟨hi, hp⟩
    dsimp only
    refine SWp.seq (SWp.seq (Wp.s ?_))
    simp -implicitDefEqProofs [go_sem]
    refine Wp.s ?_
    simp -implicitDefEqProofs [go_sem]
    refine ⟨fun h => ?_, fun h => ⟨eq_of_take hlen h hp, Sh.forget (by simp [go_sem]) rfl rfl⟩⟩
    have h2 : i < y.length := by omega
    refine SWp.seq (SWp.block (SWp.seq (SWp.drawnT [] [] (.s 0 .pl <| .s 1 .pl <| .s 2 .pl <| .s 3 .pl <| .s 4 .pl <| .s 5 .pl <| .s 6 .pl <| .s 7 .pl <| .s 8 .pl <| .n) (by kernel_rfl) (by kernel_rfl) ?_)))
    by_cases he : x[i] = y[i]
    · simp -implicitDefEqProofs [go_sem, h, h2, he]
      refine Wp.s ?_
      simp -implicitDefEqProofs [go_sem]
      refine Wp.s ?_
      simp -implicitDefEqProofs [go_sem]
      refine ⟨i + 1, ⟨by omega, take_eq_succ h h2 hp he⟩, by omega, Sh.forget ?_ rfl rfl⟩
      simp [go_sem, wrap_succ (show i ≤ 1000000000 by omega)]
    · simp -implicitDefEqProofs [go_sem, h, h2, he]
      refine Wp.s ?_
      simp -implicitDefEqProofs [go_sem]
      exact Fin.bool (by simp [ne_at h h2 he]) hokH (by simp) (by simp)
  · rintro _ he
    dsimp only
    refine Wp.s ?_
    simp -implicitDefEqProofs [go_sem]
    exact Fin.bool (by simp [he]) hokH (by simp) (by simp)
end Go.Proofs.YtpadnceoacbaeaaGreat
namespace Go.Proofs.YtpadnceoacbaeaaGreat
open Go.Proofs
def few22 (l : List Wr) : Bool := (l.take 60).all (fun w => decide (w.data.length ≤ 24)) && decide (l.length ≤ 40)
theorem all_take {α : Type} {p : α → Bool} {l : List α} {i : Nat} (h : i < l.length) (h1 : (l.take i).all p = true) (h2 : p l[i] = true) : (l.take (i + 1)).all p = true := by
  rw [List.take_succ_eq_append_getElem h, List.all_append, h1]; simp [h2]
def fewS (l : List Wr) (i : Nat) : Bool := (l.take i).all (fun w => decide (w.data.length ≤ 24))
theorem few_bad {l : List Wr} {i : Nat} (h : i < l.length) (h6 : i < 60) (hb : 24 < (l[i]).data.length) : few22 l = false := by
  unfold few22
  rw [Bool.and_eq_false_iff]
  left
  rw [List.all_eq_false]
  exact ⟨l[i], List.mem_take_iff_getElem.2 ⟨i, by omega, rfl⟩, by simpa using hb⟩
theorem few_ok {l : List Wr} {i : Nat} (hi : i ≤ l.length) (h : l.length ≤ i ∨ 60 ≤ i) (h6 : i ≤ 60) (hp : fewS l i = true) : few22 l = decide (l.length ≤ 40) := by
  unfold few22
  have : l.take 60 = l.take i := by
    rcases h with h | h
    · rw [List.take_of_length_le (by omega), List.take_of_length_le (by omega)]
    · rw [show i = 60 by omega]
  rw [this]
  unfold fewS at hp
  rw [hp, Bool.true_and]
theorem few22_cc (H : Hp) (V : List Nat) (tk : Tk) (l : List Wr) : CC Tryz.prog 32 [.sl tk 3 (l.map wrC)] H V (Pu (.v (.bool (few22 l))) H V) := by
  refine CC.of_swp Tryz.func32 rfl (by kernel_rfl) (by rw [Tryz.ntmps32]; exact len_le _ _ rfl) fun hok hokH => ?_
  clear hok
  refine SWp.seq (Wp.s ?_)
  simp -implicitDefEqProofs [go_sem, args0]
  refine SWp.join (α := Unit) (fun _ => ([(0, .sl tk 3 (l.map wrC))], H, V)) (fun _ => few22 l = decide (l.length ≤ 40)) ?_ ?_
  · refine SWp.seq (Wp.s ?_)
    simp -implicitDefEqProofs [go_sem]
    refine SWp.block ?_
    refine SWp.loop (α := Nat) (fun i => ([(0, .sl tk 3 (l.map wrC)), (3, ci i)], H, V)) (fun i => i ≤ l.length ∧ i ≤ 60 ∧ fewS l i = true) (fun i => 60 - i) 0 ⟨Nat.zero_le _, by omega, rfl⟩ (Sh.forget (by simp [go_sem]) rfl rfl) ?_
    rintro i ⟨hi, h6, hp⟩
    dsimp only
    refine SWp.seq (SWp.seq (Wp.s ?_))
    by_cases h : i < l.length
    case neg =>
      have h' : ¬ (i : Int) < (l.length : Int) := by omega
      simp -implicitDefEqProofs [go_sem, h, h']
      refine Wp.s ?_
      simp -implicitDefEqProofs [go_sem, h, h']
      exact ⟨few_ok hi (.inl (by omega)) h6 hp, Sh.forget (by simp [go_sem]) rfl rfl⟩
    by_cases h60 : i < 60
    case neg =>
      have h' : ¬ (i : Int) < 60 := by omega
      simp -implicitDefEqProofs [go_sem, h, h60, h']
      refine Wp.s ?_
      simp -implicitDefEqProofs [go_sem]
      exact ⟨few_ok hi (.inr (by omega)) h6 hp, Sh.forget (by simp [go_sem]) rfl rfl⟩
    have h' : (i : Int) < 60 := by omega
    simp -implicitDefEqProofs [go_sem, h, h60, h']
    refine Wp.s ?_
    simp -implicitDefEqProofs [go_sem]
    refine SWp.seq (SWp.block (SWp.seq (Wp.s ?_)))
    by_cases hb : 24 < (l[i]).data.length
    · have hb' : 24 < ((l[i]).data.length : Int) := by omega
      simp -implicitDefEqProofs [go_sem, h, hb']
      refine Wp.s ?_
      simp -implicitDefEqProofs [go_sem]
      exact Fin.bool (few_bad h h60 hb).symm hokH (by simp) (by simp)
    · have hb' : ¬ 24 < ((l[i]).data.length : Int) := by omega
      simp -implicitDefEqProofs [go_sem, h, hb']
      refine Wp.s ?_
      simp -implicitDefEqProofs [go_sem]
      refine Wp.s ?_
      simp -implicitDefEqProofs [go_sem]
      refine ⟨i + 1, ⟨by omega, by omega, all_take h hp (by simpa using hb)⟩, by omega, Sh.forget ?_ rfl rfl⟩
      simp [go_sem, wrap_succ (show i ≤ 1000000000 by omega)]
  · rintro _ he
    dsimp only
    refine SWp.seq (Wp.s ?_)
    simp -implicitDefEqProofs [go_sem]
    refine Wp.s ?_
    simp -implicitDefEqProofs [go_sem]
    exact Fin.bool (by rw [he]; exact decide_eq_decide.2 (by omega)) hokH (by simp) (by simp)
end Go.Proofs.YtpadnceoacbaeaaGreat
namespace Go.Proofs.YtpadnceoacbaeaaGreat
open Go.Proofs
def few23 (c : Cyc) : Bool := decide (c.poss.length ≤ 40) && few22 c.wrs
theorem few23_cc (H : Hp) (V : List Nat) (c : Cyc) : CC Tryz.prog 9 [.agg (cycC c)] H V (Pu (.v (.bool (few23 c))) H V) := by
  refine CC.of_swp Tryz.func9 rfl (by kernel_rfl) (by rw [Tryz.ntmps9]; exact len_le _ _ rfl) fun hok hokH => ?_
  clear hok
  refine SWp.seq (Wp.s ?_)
  simp -implicitDefEqProofs [go_sem, args0]
  refine SWp.seq (Wp.s ?_)
  by_cases h : c.poss.length ≤ 40
  · have h' : (c.poss.length : Int) ≤ 40 := by omega
    simp -implicitDefEqProofs [go_sem, h']
    refine CC.mono (few22_cc _ _ _ c.wrs) ?_
    rintro _ _ _ ⟨rfl, rfl, rfl⟩
    simp -implicitDefEqProofs [go_sem]
    refine Wp.s ?_
    simp -implicitDefEqProofs [go_sem]
    exact Fin.bool (by simp [few23, h]) hokH (by simp) (by simp)
  · have h' : ¬ (c.poss.length : Int) ≤ 40 := by omega
    simp -implicitDefEqProofs [go_sem, h']
    refine Wp.s ?_
    simp -implicitDefEqProofs [go_sem]
    exact Fin.bool (by simp [few23, h]) hokH (by simp) (by simp)
end Go.Proofs.YtpadnceoacbaeaaGreat
namespace Go.Proofs.YtpadnceoacbaeaaGreat
open Go.Proofs
theorem flatSec : FlatEq Tryz.prog 98 (List.replicate 8 .u8) := by
  obtain ⟨i, hi⟩ := Option.isSome_iff_exists.1 (show (Tryz.prog.info? 5).isSome = true by kernel_rfl)
  exact flatEq_array Tryz.underlying98 hi Tryz.underlying5 (by kernel_rfl) (by kernel_rfl)
theorem fits_sec (s : Sec) : fits (List.replicate 8 .u8) (secC s) := by
  have := fits_rep .u8 (s.val.map fun b => (b.toNat : Int))
  rw [List.length_map, s.len, List.map_map] at this
  exact this
theorem secC_inj {a b : Sec} (h : secC a = secC b) : a = b := by
  obtain ⟨x, hx⟩ := a
  obtain ⟨y, hy⟩ := b
  simp only [secC] at h
  have hm : ∀ (u v : List UInt8), (u.map fun b => CV.v (.int .u8 (b.toNat : Int))) = (v.map fun b => CV.v (.int .u8 (b.toNat : Int))) → u = v := by
    intro u
    induction u with
    | nil => intro v hv; cases v; rfl; simp at hv
    | cons c u ih =>
      intro v hv
      cases v with
      | nil => simp at hv
      | cons d v =>
        simp only [List.map_cons, List.cons.injEq, CV.v.injEq, Value.int.injEq, true_and, Int.natCast_inj] at hv
        obtain ⟨h1, h2⟩ := hv
        rw [UInt8.toNat_inj.1 h1, ih v h2]
  obtain rfl := hm x y h
  rfl
theorem SameSecs_cc (H : Hp) (V : List Nat) (t1 t2 : Tk) (x y : List Sec) (hl : x.length ≤ 1000000000) : CC Tryz.prog 89 [.sl t1 8 (x.map secC), .sl t2 8 (y.map secC)] H V (Pu (.v (.bool (decide (x = y)))) H V) := by
  refine CC.of_swp Tryz.func89 rfl (by kernel_rfl) (by rw [Tryz.ntmps89]; exact len_le _ _ rfl) fun hok hokH => ?_
  clear hok
  refine SWp.seq (Wp.s ?_)
  simp -implicitDefEqProofs [go_sem, args0]
  refine SWp.seq (SWp.seq (Wp.s ?_))
  by_cases hlen : x.length = y.length
  case neg =>
    have hlen' : ¬ (x.length : Int) = (y.length : Int) := by omega
    simp -implicitDefEqProofs [go_sem, hlen']
    refine Wp.s ?_
    simp -implicitDefEqProofs [go_sem, hlen, hlen']
    exact Fin.bool (by simp [show x ≠ y from fun e => hlen (by rw [e])]) hokH (by simp) (by simp)
  simp -implicitDefEqProofs [go_sem, hlen]
  refine Wp.s ?_
  simp -implicitDefEqProofs [go_sem, hlen]
  refine SWp.join (α := Unit) (fun _ => ([], H, V)) (fun _ => x = y) ?_ ?_
  · refine SWp.seq (Wp.s ?_)
    simp -implicitDefEqProofs [go_sem]
    refine SWp.block ?_
    refine SWp.loop (α := Nat) (fun i => ([(0, .sl t1 8 (x.map secC)), (1, .sl t2 8 (y.map secC)), (5, ci i)], H, V)) (fun i => i ≤ x.length ∧ x.take i = y.take i) (fun i => x.length - i) 0 ⟨Nat.zero_le _, rfl⟩ (Sh.forget (by simp [go_sem]) rfl rfl) ?_
    rintro i ⟨hi, hp⟩
    dsimp only
    refine SWp.seq (SWp.seq (Wp.s ?_))
    simp -implicitDefEqProofs [go_sem]
    refine Wp.s ?_
    simp -implicitDefEqProofs [go_sem]
    refine ⟨fun h => ?_, fun h => ⟨eq_of_take hlen h hp, Sh.forget (by simp [go_sem]) rfl rfl⟩⟩
    have h2 : i < y.length := by omega
    refine SWp.seq (SWp.block (SWp.seq (SWp.drawnT [] [] (.s 0 .pl <| .s 1 .pl <| .s 2 .pl <| .s 3 .pl <| .s 4 .pl <| .s 5 .pl <| .s 6 .pl <| .s 7 .pl <| .s 8 .pl <| .n) (by kernel_rfl) (by kernel_rfl) ?_)))
    simp -implicitDefEqProofs [go_sem, h, h2]
    refine ⟨_, flatSec, fits_sec _, fits_sec _, fun he => ?_, fun he => ?_⟩
    · refine Wp.s ?_
      simp -implicitDefEqProofs [go_sem]
      exact Fin.bool (by simp [ne_at h h2 (fun e => he (by rw [e]))]) hokH (by simp) (by simp)
    · refine Wp.s ?_
      simp -implicitDefEqProofs [go_sem]
      refine Wp.s ?_
      simp -implicitDefEqProofs [go_sem]
      refine ⟨i + 1, ⟨by omega, take_eq_succ h h2 hp (secC_inj he)⟩, by omega, Sh.forget ?_ rfl rfl⟩
      simp [go_sem, wrap_succ (show i ≤ 1000000000 by omega)]
  · rintro _ he
    dsimp only
    refine Wp.s ?_
    simp -implicitDefEqProofs [go_sem]
    exact Fin.bool (by simp [he]) hokH (by simp) (by simp)
end Go.Proofs.YtpadnceoacbaeaaGreat
namespace Go.Proofs.YtpadnceoacbaeaaGreat
open Go.Proofs
theorem wr_ext {a b : Wr} (h1 : a.volume = b.volume) (h2 : a.start = b.start) (h3 : a.data = b.data) : a = b := by
  obtain ⟨p, q, r⟩ := a
  obtain ⟨p', q', r'⟩ := b
  simp_all
set_option maxRecDepth 20000 in
theorem SameWrs_cc (H : Hp) (V : List Nat) (t1 t2 : Tk) (x y : List Wr) (hl : x.length ≤ 1000000000) (hw : WrS x) : CC Tryz.prog 54 [.sl t1 3 (x.map wrC), .sl t2 3 (y.map wrC)] H V (Pu (.v (.bool (decide (x = y)))) H V) := by
  refine CC.of_swp Tryz.func54 rfl (by kernel_rfl) (by rw [Tryz.ntmps54]; exact len_le _ _ rfl) fun hok hokH => ?_
  clear hok
  refine SWp.seq (Wp.s ?_)
  simp -implicitDefEqProofs [go_sem, args0]
  refine SWp.seq (SWp.seq (Wp.s ?_))
  by_cases hlen : x.length = y.length
  case neg =>
    have hlen' : ¬ (x.length : Int) = (y.length : Int) := by omega
    simp -implicitDefEqProofs [go_sem, hlen']
    refine Wp.s ?_
    simp -implicitDefEqProofs [go_sem, hlen, hlen']
    exact Fin.bool (by simp [show x ≠ y from fun e => hlen (by rw [e])]) hokH (by simp) (by simp)
  simp -implicitDefEqProofs [go_sem, hlen]
  refine Wp.s ?_
  simp -implicitDefEqProofs [go_sem, hlen]
  refine SWp.join (α := Unit) (fun _ => ([], H, V)) (fun _ => x = y) ?_ ?_
  · refine SWp.seq (Wp.s ?_)
    simp -implicitDefEqProofs [go_sem]
    refine SWp.block ?_
    refine SWp.loop (α := Nat) (fun i => ([(0, .sl t1 3 (x.map wrC)), (1, .sl t2 3 (y.map wrC)), (5, ci i)], H, V)) (fun i => i ≤ x.length ∧ x.take i = y.take i) (fun i => x.length - i) 0 ⟨Nat.zero_le _, rfl⟩ (Sh.forget (by simp [go_sem]) rfl rfl) ?_
    rintro i ⟨hi, hp⟩
    dsimp only
    refine SWp.seq (SWp.seq (Wp.s ?_))
    simp -implicitDefEqProofs [go_sem]
    refine Wp.s ?_
    simp -implicitDefEqProofs [go_sem]
    refine ⟨fun h => ?_, fun h => ⟨eq_of_take hlen h hp, Sh.forget (by simp [go_sem]) rfl rfl⟩⟩
    have h2 : i < y.length := by omega
    have hwx := hw _ (List.getElem_mem h)
    refine SWp.seq (SWp.block (SWp.seq (SWp.drawnT [] [] (.s 0 .pl <| .s 1 .pl <| .s 2 .pl <| .s 3 .pl <| .s 4 .pl <| .s 5 .pl <| .s 6 .pl <| .s 7 .pl <| .s 8 .pl <| .s 9 .pl <| .s 10 .pl <| .s 11 .pl <| .s 12 .pl <| .s 13 .pl <| .s 14 .pl <| .s 15 .pl <| .s 16 .pl <| .s 17 .pl <| .s 18 .pl <| .s 19 .pl <| .s 20 .pl <| .s 21 .pl <| .s 22 .pl <| .s 23 .pl <| .s 24 .pl <| .s 25 .pl <| .s 26 .pl <| .s 27 .pl <| .s 28 .pl <| .s 29 .pl <| .s 30 .pl <| .s 31 .pl <| .s 32 .pl <| .s 33 .pl <| .s 34 .pl <| .s 35 .pl <| .s 36 .pl <| .s 37 .pl <| .n) (by kernel_rfl) (by kernel_rfl) ?_)))
    by_cases e1 : x[i].volume = y[i].volume
    case neg =>
      simp -implicitDefEqProofs [go_sem, h, h2, e1]
      refine Wp.s ?_
      simp -implicitDefEqProofs [go_sem]
      exact Fin.bool (by simp [ne_at h h2 (fun e => e1 (by rw [e]))]) hokH (by simp) (by simp)
    by_cases e2 : x[i].start = y[i].start
    case neg =>
      simp -implicitDefEqProofs [go_sem, h, h2, e1, e2]
      refine Wp.s ?_
      simp -implicitDefEqProofs [go_sem]
      exact Fin.bool (by simp [ne_at h h2 (fun e => e2 (by rw [e]))]) hokH (by simp) (by simp)
    simp -implicitDefEqProofs [go_sem, h, h2, e1, e2]
    refine CC.mono (SameSecs_cc _ _ _ _ x[i].data y[i].data (by omega)) ?_
    rintro _ _ _ ⟨rfl, rfl, rfl⟩
    by_cases e3 : x[i].data = y[i].data
    · simp -implicitDefEqProofs [go_sem, h, h2, e1, e2, e3]
      refine Wp.s ?_
      simp -implicitDefEqProofs [go_sem]
      refine Wp.s ?_
      simp -implicitDefEqProofs [go_sem]
      refine ⟨i + 1, ⟨by omega, take_eq_succ h h2 hp (wr_ext e1 e2 e3)⟩, by omega, Sh.forget ?_ rfl rfl⟩
      simp [go_sem, wrap_succ (show i ≤ 1000000000 by omega)]
    · simp -implicitDefEqProofs [go_sem, h, h2, e1, e2, e3]
      refine Wp.s ?_
      simp -implicitDefEqProofs [go_sem]
      exact Fin.bool (by simp [ne_at h h2 (fun e => e3 (by rw [e]))]) hokH (by simp) (by simp)
  · rintro _ he
    dsimp only
    refine Wp.s ?_
    simp -implicitDefEqProofs [go_sem]
    exact Fin.bool (by simp [he]) hokH (by simp) (by simp)
end Go.Proofs.YtpadnceoacbaeaaGreat
namespace Go.Proofs.YtpadnceoacbaeaaGreat
open Go.Proofs
theorem cyc_ext {a b : Cyc} (h1 : a.base = b.base) (h2 : a.number = b.number) (h3 : a.time = b.time) (h4 : a.poss = b.poss) (h5 : a.wrs = b.wrs) : a = b := by
  obtain ⟨p, q, r, s, t⟩ := a
  obtain ⟨p', q', r', s', t'⟩ := b
  simp_all
theorem SameCyc_cc (H : Hp) (V : List Nat) (a b : Cyc) (hp : a.poss.length ≤ 1000000000) (hl : a.wrs.length ≤ 1000000000) (hw : WrS a.wrs) : CC Tryz.prog 17 [.agg (cycC a), .agg (cycC b)] H V (Pu (.v (.bool (decide (a = b)))) H V) := by
  refine CC.of_swp Tryz.func17 rfl (by kernel_rfl) (by rw [Tryz.ntmps17]; exact len_le _ _ rfl) fun hok hokH => ?_
  clear hok
  refine SWp.seq (Wp.s ?_)
  simp -implicitDefEqProofs [go_sem, args0]
  refine SWp.seq (Wp.s ?_)
  by_cases e1 : a.base = b.base
  case neg =>
    simp -implicitDefEqProofs [go_sem, e1]
    refine Wp.s ?_
    simp -implicitDefEqProofs [go_sem]
    exact Fin.bool (by simp [show a ≠ b from fun e => e1 (by rw [e])]) hokH (by simp) (by simp)
  by_cases e2 : a.number = b.number
  case neg =>
    simp -implicitDefEqProofs [go_sem, e1, e2]
    refine Wp.s ?_
    simp -implicitDefEqProofs [go_sem]
    exact Fin.bool (by simp [show a ≠ b from fun e => e2 (by rw [e])]) hokH (by simp) (by simp)
  by_cases e3 : a.time = b.time
  case neg =>
    simp -implicitDefEqProofs [go_sem, e1, e2, e3]
    refine Wp.s ?_
    simp -implicitDefEqProofs [go_sem]
    exact Fin.bool (by simp [show a ≠ b from fun e => e3 (by rw [e])]) hokH (by simp) (by simp)
  simp -implicitDefEqProofs [go_sem, e1, e2, e3]
  refine CC.mono (SameInts_cc _ _ _ _ a.poss b.poss hp) ?_
  rintro _ _ _ ⟨rfl, rfl, rfl⟩
  by_cases e4 : a.poss = b.poss
  case neg =>
    simp -implicitDefEqProofs [go_sem, e4]
    refine Wp.s ?_
    simp -implicitDefEqProofs [go_sem]
    exact Fin.bool (by simp [show a ≠ b from fun e => e4 (by rw [e])]) hokH (by simp) (by simp)
  simp -implicitDefEqProofs [go_sem, e4]
  refine CC.mono (SameWrs_cc _ _ _ _ a.wrs b.wrs hl hw) ?_
  rintro _ _ _ ⟨rfl, rfl, rfl⟩
  by_cases e5 : a.wrs = b.wrs
  · simp -implicitDefEqProofs [go_sem, e5]
    refine Wp.s ?_
    simp -implicitDefEqProofs [go_sem]
    exact Fin.bool (by simp [cyc_ext e1 e2 e3 e4 e5]) hokH (by simp) (by simp)
  · simp -implicitDefEqProofs [go_sem, e5]
    refine Wp.s ?_
    simp -implicitDefEqProofs [go_sem]
    exact Fin.bool (by simp [show a ≠ b from fun e => e5 (by rw [e])]) hokH (by simp) (by simp)
end Go.Proofs.YtpadnceoacbaeaaGreat
namespace Go.Proofs.YtpadnceoacbaeaaGreat
open Go.Proofs
def leastI (app : List Int) (lost : List Bool) : Int := (app.zip lost).foldl leastS (-1)
theorem leastF_eq (f : Fan) : leastF f = leastI f.app f.lost := rfl
def leastN (app : List Int) (lost : List Bool) (i : Nat) : Int := ((app.zip lost).take i).foldl leastS (-1)
theorem leastN_all {app : List Int} {lost : List Bool} {i : Nat} (hl : lost.length = app.length) (h : app.length ≤ i) : leastN app lost i = leastI app lost := by
  rw [leastN, leastI, List.take_of_length_le (by rw [List.length_zip]; omega)]
theorem leastN_s {app : List Int} {lost : List Bool} {i : Nat} (h : i < app.length) (h2 : i < lost.length) : leastN app lost (i + 1) = leastS (leastN app lost i) (app[i], lost[i]) := by
  rw [leastN, foldl_take_succ _ _ _ _ (by rw [List.length_zip]; omega), List.getElem_zip]; rfl
theorem most_f_cc (H : Hp) (V : List Nat)  : CC Tryz.prog 37 [] H V (Pu (.sl .sh 1 (mostS.map ic)) H V) := by
  refine CC.of_swp Tryz.func37 rfl (by kernel_rfl) (by rw [Tryz.ntmps37]; exact len_le _ _ rfl) fun hok hokH => ?_
  clear hok
  refine SWp.seq (Wp.s ?_)
  simp -implicitDefEqProofs [go_sem, args0]
  refine Wp.s ?_
  simp -implicitDefEqProofs [go_sem]
  refine CC.mono (repeat_cc _ _ .ti) ?_
  rintro _ _ _ ⟨rfl, rfl, rfl⟩
  simp -implicitDefEqProofs [go_sem]
  exact Fin.pu (.refl _) (by simp [go_sem, okE_ints]) hokH (by simp) (by simp)
theorem oldest1_cc (H : Hp) (V : List Nat) (a b : Int) : CC Tryz.prog 72 [ci a, ci b] H V (Pu (ci (if a < 0 ∨ b < a then b else a)) H V) := by
  refine CC.of_swp Tryz.func72 rfl (by kernel_rfl) (by rw [Tryz.ntmps72]; exact len_le _ _ rfl) fun hok hokH => ?_
  clear hok
  refine SWp.seq (Wp.s ?_)
  simp -implicitDefEqProofs [go_sem, args0]
  by_cases h : a < 0
  · refine SWp.seq (Wp.s ?_)
    simp -implicitDefEqProofs [go_sem, h]
    exact Fin.int (by simp [h]) hokH (by simp) (by simp)
  · refine SWp.seq (Wp.s ?_)
    simp -implicitDefEqProofs [go_sem, h]
    refine Wp.s ?_
    simp -implicitDefEqProofs [go_sem, h]
    exact Fin.int (by rw [Int.min_def]; split <;> split <;> omega) hokH (by simp) (by simp)
theorem fold_cc (H : Hp) (V : List Nat) (tk t1 t2 : Tk) (lim : Int) (kept : List Cyc) (app : List Int) (lost : List Bool) (hl : lost.length = app.length) (hx : app.length ≤ 1000000) :
    CC Tryz.prog 71 [.agg [ci lim, .sl tk 5 (kept.map cycC), .sl t1 1 (app.map ic), .sl t2 1 (lost.map boE)], ci (-1), .fn 72 []] H V (Pu (ci (leastI app lost)) H V) := by
  refine CC.of_swp Tryz.func71 rfl (by kernel_rfl) (by rw [Tryz.ntmps71]; exact len_le _ _ rfl) fun hok hokH => ?_
  clear hok
  refine SWp.seq (Wp.s ?_)
  simp -implicitDefEqProofs [go_sem, args0]
  refine SWp.seq (Wp.s ?_)
  simp -implicitDefEqProofs [go_sem]
  refine SWp.join (α := Unit) (fun _ => ([(7, ci (leastI app lost))], H ++ [some [ci lim, .sl tk 5 (kept.map cycC), .sl t1 1 (app.map ic), .sl t2 1 (lost.map boE)]], V)) (fun _ => True) ?_ ?_
  · refine SWp.seq (Wp.s ?_)
    simp -implicitDefEqProofs [go_sem]
    refine SWp.block ?_
    refine SWp.loop (α := Nat) (fun i => ([(2, .fn 72 []), (3, .ptr H.length 0), (7, ci (leastN app lost i)), (12, .sl t1 1 (app.map ic)), (13, ci app.length), (14, ci i)], H ++ [some [ci lim, .sl tk 5 (kept.map cycC), .sl t1 1 (app.map ic), .sl t2 1 (lost.map boE)]], V)) (fun i => i ≤ app.length) (fun i => app.length - i) 0 (Nat.zero_le _) (Sh.forget (by simp [go_sem, leastN]) rfl rfl) ?_
    intro i hi
    dsimp only
    refine SWp.seq (Wp.s ?_)
    simp -implicitDefEqProofs [go_sem]
    refine SWp.seq (Wp.s ?_)
    simp -implicitDefEqProofs [go_sem]
    refine ⟨fun h => ?_, fun h => Sh.forget (by simp [go_sem, leastN_all hl h]) rfl rfl⟩
    have h2 : i < lost.length := by omega
    have hs := leastN_s h h2
    refine SWp.seq (SWp.block (SWp.seq (Wp.s ?_)))
    simp -implicitDefEqProofs [go_sem, h]
    refine SWp.seq (Wp.s ?_)
    cases hb : lost[i] with
    | true =>
      simp -implicitDefEqProofs [go_sem, h2, hb]
      refine Wp.s ?_
      simp -implicitDefEqProofs [go_sem]
      refine Wp.s ?_
      simp -implicitDefEqProofs [go_sem]
      refine ⟨i + 1, by omega, by omega, Sh.forget ?_ rfl rfl⟩
      simp [go_sem, wrap_succ (show i ≤ 1000000000 by omega), hs, hb, leastS]
    | false =>
      simp -implicitDefEqProofs [go_sem, h2, hb]
      refine Wp.s ?_
      simp -implicitDefEqProofs [go_sem]
      refine CC.mono (oldest1_cc _ _ (leastN app lost i) app[i]) ?_
      rintro _ _ _ ⟨rfl, rfl, rfl⟩
      simp -implicitDefEqProofs [go_sem]
      refine Wp.s ?_
      simp -implicitDefEqProofs [go_sem]
      refine ⟨i + 1, by omega, by omega, Sh.forget ?_ rfl rfl⟩
      simp [go_sem, wrap_succ (show i ≤ 1000000000 by omega), hs, hb, leastS]
  · rintro _ -
    dsimp only
    refine SWp.seq (Wp.s ?_)
    simp -implicitDefEqProofs [go_sem]
    refine Wp.s ?_
    simp -implicitDefEqProofs [go_sem]
    exact Fin.int rfl hokH (by simp) (by simp)
theorem oldest_cc (H : Hp) (V : List Nat) (tk t1 t2 : Tk) (lim : Int) (kept : List Cyc) (app : List Int) (lost : List Bool) (hl : lost.length = app.length) (hx : app.length ≤ 1000000) :
    CC Tryz.prog 35 [.agg [ci lim, .sl tk 5 (kept.map cycC), .sl t1 1 (app.map ic), .sl t2 1 (lost.map boE)]] H V (Pu (ci (leastI app lost)) H V) := by
  refine CC.of_swp Tryz.func35 rfl (by kernel_rfl) (by rw [Tryz.ntmps35]; exact len_le _ _ rfl) fun hok hokH => ?_
  clear hok
  refine SWp.seq (Wp.s ?_)
  simp -implicitDefEqProofs [go_sem, args0]
  refine Wp.s ?_
  simp -implicitDefEqProofs [go_sem]
  refine CC.mono (fold_cc _ _ tk t1 t2 lim kept app lost hl hx) ?_
  rintro _ _ _ ⟨rfl, rfl, rfl⟩
  simp -implicitDefEqProofs [go_sem]
  exact Fin.int rfl hokH (by simp) (by simp)
theorem foldB_cc (H : Hp) (V : List Nat) (tk : Tk) (lim : Int) (kept : List Cyc) (app : List Int) (lost : List Bool) (b1 b2 n : Nat) (hn : app.length = n) (hl : lost.length = n) (hx : n ≤ 1000000) (hb1 : H[b1]? = some (some (app.map ci))) (hb2 : H[b2]? = some (some (lost.map cbo))) :
    CC Tryz.prog 71 [.agg [ci lim, .sl tk 5 (kept.map cycC), .bsl b1 0 n 1, .bsl b2 0 n 1], ci (-1), .fn 72 []] H V (Pu (ci (leastI app lost)) H V) := by
  refine CC.of_swp Tryz.func71 rfl (by kernel_rfl) (by rw [Tryz.ntmps71]; exact len_le _ _ rfl) fun hok hokH => ?_
  clear hok
  refine SWp.seq (Wp.s ?_)
  simp -implicitDefEqProofs [go_sem, args0]
  refine SWp.seq (Wp.s ?_)
  simp -implicitDefEqProofs [go_sem]
  refine SWp.join (α := Unit) (fun _ => ([(7, ci (leastI app lost))], H ++ [some [ci lim, .sl tk 5 (kept.map cycC), .bsl b1 0 n 1, .bsl b2 0 n 1]], V)) (fun _ => True) ?_ ?_
  · refine SWp.seq (Wp.s ?_)
    simp -implicitDefEqProofs [go_sem]
    refine SWp.block ?_
    refine SWp.loop (α := Nat) (fun i => ([(2, .fn 72 []), (3, .ptr H.length 0), (7, ci (leastN app lost i)), (12, .bsl b1 0 n 1), (13, ci n), (14, ci i)], H ++ [some [ci lim, .sl tk 5 (kept.map cycC), .bsl b1 0 n 1, .bsl b2 0 n 1]], V)) (fun i => i ≤ n) (fun i => n - i) 0 (Nat.zero_le _) (Sh.forget (by simp [go_sem, leastN]) rfl rfl) ?_
    intro i hi
    dsimp only
    refine SWp.seq (Wp.s ?_)
    simp -implicitDefEqProofs [go_sem]
    refine SWp.seq (Wp.s ?_)
    simp -implicitDefEqProofs [go_sem]
    refine ⟨fun h => ?_, fun h => Sh.forget (by simp [go_sem, leastN_all (app := app) (lost := lost) (by omega) (show app.length ≤ i by omega)]) rfl rfl⟩
    have h1 : i < app.length := by omega
    have h2 : i < lost.length := by omega
    have hs := leastN_s h1 h2
    refine SWp.seq (SWp.block (SWp.seq (Wp.s ?_)))
    simp -implicitDefEqProofs [go_sem, h, h1, hbx_of (at_old _ [some [ci lim, .sl tk 5 (kept.map cycC), .bsl b1 0 n 1, .bsl b2 0 n 1]] hb1)]
    refine SWp.seq (Wp.s ?_)
    cases hb : lost[i] with
    | true =>
      simp -implicitDefEqProofs [go_sem, h, h2, hb, hbx_of (at_old _ [some [ci lim, .sl tk 5 (kept.map cycC), .bsl b1 0 n 1, .bsl b2 0 n 1]] hb2)]
      refine Wp.s ?_
      simp -implicitDefEqProofs [go_sem]
      refine Wp.s ?_
      simp -implicitDefEqProofs [go_sem]
      refine ⟨i + 1, by omega, by omega, Sh.forget ?_ rfl rfl⟩
      simp [go_sem, wrap_succ (show i ≤ 1000000000 by omega), hs, hb, leastS]
    | false =>
      simp -implicitDefEqProofs [go_sem, h, h2, hb, hbx_of (at_old _ [some [ci lim, .sl tk 5 (kept.map cycC), .bsl b1 0 n 1, .bsl b2 0 n 1]] hb2)]
      refine Wp.s ?_
      simp -implicitDefEqProofs [go_sem]
      refine CC.mono (oldest1_cc _ _ (leastN app lost i) app[i]) ?_
      rintro _ _ _ ⟨rfl, rfl, rfl⟩
      simp -implicitDefEqProofs [go_sem]
      refine Wp.s ?_
      simp -implicitDefEqProofs [go_sem]
      refine ⟨i + 1, by omega, by omega, Sh.forget ?_ rfl rfl⟩
      simp [go_sem, wrap_succ (show i ≤ 1000000000 by omega), hs, hb, leastS]
  · rintro _ -
    dsimp only
    refine SWp.seq (Wp.s ?_)
    simp -implicitDefEqProofs [go_sem]
    refine Wp.s ?_
    simp -implicitDefEqProofs [go_sem]
    exact Fin.int rfl hokH (by simp) (by simp)
theorem oldestB_cc (H : Hp) (V : List Nat) (tk : Tk) (lim : Int) (kept : List Cyc) (app : List Int) (lost : List Bool) (b1 b2 n : Nat) (hn : app.length = n) (hl : lost.length = n) (hx : n ≤ 1000000) (hb1 : H[b1]? = some (some (app.map ci))) (hb2 : H[b2]? = some (some (lost.map cbo))) :
    CC Tryz.prog 35 [.agg [ci lim, .sl tk 5 (kept.map cycC), .bsl b1 0 n 1, .bsl b2 0 n 1]] H V (Pu (ci (leastI app lost)) H V) := by
  refine CC.of_swp Tryz.func35 rfl (by kernel_rfl) (by rw [Tryz.ntmps35]; exact len_le _ _ rfl) fun hok hokH => ?_
  clear hok
  refine SWp.seq (Wp.s ?_)
  simp -implicitDefEqProofs [go_sem, args0]
  refine Wp.s ?_
  simp -implicitDefEqProofs [go_sem]
  refine CC.mono (foldB_cc _ _ tk lim kept app lost b1 b2 n hn hl hx (at_old _ _ hb1) (at_old _ _ hb2)) ?_
  rintro _ _ _ ⟨rfl, rfl, rfl⟩
  simp -implicitDefEqProofs [go_sem]
  exact Fin.int rfl hokH (by simp) (by simp)
end Go.Proofs.YtpadnceoacbaeaaGreat
namespace Go.Proofs.YtpadnceoacbaeaaGreat
open Go.Proofs
/-! ### The first that satisfies a condition -/
def ixOf {α : Type} (p : α → Bool) : Nat → List α → Int
  | _, [] => -1
  | k, a :: l => if p a = true then (k : Int) else ixOf p (k + 1) l
theorem ixOf_none {α : Type} {p : α → Bool} : ∀ {k : Nat} {l : List α}, l.any p = false → ixOf p k l = -1
  | _, [], _ => rfl
  | k, a :: l, h => by
    rw [List.any_cons, Bool.or_eq_false_iff] at h
    rw [ixOf, if_neg (by simp [h.1]), ixOf_none h.2]
theorem ixOf_at {α : Type} {p : α → Bool} : ∀ {l : List α} {k i : Nat} (h : i < l.length), (l.take i).any p = false → p l[i] = true → ixOf p k l = ((k + i : Nat) : Int)
  | a :: l, k, 0, _, _, h => by rw [ixOf, if_pos (show p a = true from h)]; simp
  | a :: l, k, i + 1, hi, h1, h => by
    rw [List.take_succ_cons, List.any_cons, Bool.or_eq_false_iff] at h1
    rw [ixOf, if_neg (by simp [h1.1]), ixOf_at (by simpa using hi) h1.2 h]
    congr 1; omega
theorem ixOf_any {α : Type} {p : α → Bool} : ∀ {l : List α} {k : Nat}, decide (0 ≤ ixOf p k l) = l.any p
  | [], k => by simp [ixOf]
  | a :: l, k => by
    rw [ixOf, List.any_cons]
    split
    · rename_i h; simp [h]
    · rename_i h; rw [ixOf_any]; simp [h]
theorem ixOf_drop {α : Type} {p : α → Bool} : ∀ {l : List α} {k : Nat}, (∃ j, j < l.length ∧ ixOf p k l = ((k + j : Nat) : Int) ∧ l.drop j = l.dropWhile fun c => !p c) ∨ (ixOf p k l = -1 ∧ (l.dropWhile fun c => !p c) = [])
  | [], k => .inr ⟨rfl, rfl⟩
  | a :: l, k => by
    rw [ixOf]
    by_cases h : p a = true
    · rw [if_pos h]; exact .inl ⟨0, by simp, rfl, by simp [h]⟩
    · rw [if_neg h]
      rcases ixOf_drop (p := p) (l := l) (k := k + 1) with ⟨j, h0, h1, h2⟩ | ⟨h1, h2⟩
      · exact .inl ⟨j + 1, by simpa using h0, by rw [h1]; congr 1; omega, by simp [h, h2]⟩
      · exact .inr ⟨h1, by simp [h, h2]⟩
theorem indexCyc_cc (H : Hp) (V : List Nat) (tk : Tk) (l : List Cyc) (g : Nat) (caps : List CV) (p : Cyc → Bool) (hg : ∀ a ∈ l, CC Tryz.prog g (.agg (cycC a) :: caps) H V (Pu (cb (p a)) H V)) (hl : l.length ≤ 1000000000) :
    CC Tryz.prog 81 [.sl tk 5 (l.map cycC), .fn g caps] H V (Pu (ci (ixOf p 0 l)) H V) := by
  refine CC.of_swp Tryz.func81 rfl (by kernel_rfl) (by rw [Tryz.ntmps81]; exact len_le _ _ rfl) fun hok hokH => ?_
  clear hok
  refine SWp.seq (Wp.s ?_)
  simp -implicitDefEqProofs [go_sem, args0]
  refine SWp.join (α := Unit) (fun _ => ([], H, V)) (fun _ => l.any p = false) ?_ ?_
  · refine SWp.seq (Wp.s ?_)
    simp -implicitDefEqProofs [go_sem]
    refine SWp.block ?_
    refine SWp.loop (α := Nat) (fun i => ([(0, .sl tk 5 (l.map cycC)), (1, .fn g caps), (7, ci l.length), (8, ci i)], H, V)) (fun i => i ≤ l.length ∧ (l.take i).any p = false) (fun i => l.length - i) 0 ⟨Nat.zero_le _, rfl⟩
      (Sh.forget (by simp [go_sem]) rfl rfl) ?_
    rintro i ⟨hi, hp⟩
    dsimp only
    refine Wp.s ?_
    simp -implicitDefEqProofs [go_sem]
    refine ⟨fun h => ⟨h, ?_⟩, fun h => ⟨?_, Sh.forget (by simp [go_sem]) rfl rfl⟩⟩
    · refine CC.mono (hg _ (List.getElem_mem h)) ?_
      rintro _ _ _ ⟨rfl, rfl, rfl⟩
      rcases hq : p l[i] with - | -
      · simp -implicitDefEqProofs [go_sem]
        refine ⟨i + 1, ⟨by omega, by simpa using any_take h hp hq⟩, by omega, Sh.forget ?_ rfl rfl⟩
        simp [go_sem, wrap_big (show i < 9223372036854775807 by omega)]
      · simp -implicitDefEqProofs [go_sem]
        exact Fin.int (by rw [ixOf_at h hp hq]; simp) hokH (by simp) (by simp)
    · rw [List.take_of_length_le h] at hp; simpa using hp
  · rintro _ hp
    dsimp only
    refine Wp.s ?_
    simp -implicitDefEqProofs [go_sem]
    exact Fin.int (by rw [ixOf_none hp]) hokH (by simp) (by simp)
theorem containsCyc_cc (H : Hp) (V : List Nat) (tk : Tk) (l : List Cyc) (g : Nat) (caps : List CV) (p : Cyc → Bool) (hg : ∀ a ∈ l, CC Tryz.prog g (.agg (cycC a) :: caps) H V (Pu (cb (p a)) H V)) (hl : l.length ≤ 1000000000) :
    CC Tryz.prog 90 [.sl tk 5 (l.map cycC), .fn g caps] H V (Pu (cb (l.any p)) H V) := by
  refine CC.of_swp Tryz.func90 rfl (by kernel_rfl) (by rw [Tryz.ntmps90]; exact len_le _ _ rfl) fun hok hokH => Wp.s ?_
  simp -implicitDefEqProofs [go_sem, args0]
  refine CC.mono (indexCyc_cc _ _ _ _ _ _ _ hg hl) ?_
  rintro _ _ _ ⟨rfl, rfl, rfl⟩
  simp -implicitDefEqProofs [go_sem]
  exact Fin.bool ixOf_any hokH (by simp) (by simp)
/-! ### The newest number -/
theorem max_cc (H : Hp) (V : List Nat) (tk : Tk) (l : List Int) (h0 : 0 < l.length) (hl : l.length ≤ 1000000000) (h1 : ∀ n ∈ l, 0 ≤ n) : CC Tryz.prog 76 [.sl tk 1 (l.map ic)] H V (Pu (ci (l.foldl max 0)) H V) := by
  refine CC.of_swp Tryz.func76 rfl (by kernel_rfl) (by rw [Tryz.ntmps76]; exact len_le _ _ rfl) fun hok hokH => ?_
  clear hok
  have z0 : l.length ≠ 0 := by omega
  have z1 : ¬ (l.length : Int) < 1 := by omega
  refine SWp.seq (Wp.s ?_)
  simp -implicitDefEqProofs [go_sem, args0]
  refine SWp.seq (Wp.s ?_)
  simp -implicitDefEqProofs [go_sem, z1]
  refine SWp.seq (Wp.s ?_)
  simp -implicitDefEqProofs [go_sem, h0]
  refine SWp.join (α := Unit) (fun _ => ([(3, ci (l.foldl max 0))], H, V)) (fun _ => True) ?_ ?_
  · refine SWp.seq (Wp.s ?_)
    simp -implicitDefEqProofs [go_sem]
    refine SWp.block ?_
    refine SWp.loop (α := Nat) (fun i => ([(0, .sl tk 1 (l.map ic)), (3, ci ((l.take i).foldl max 0)), (4, ci i)], H, V)) (fun i => i ≤ l.length) (fun i => l.length - i) 1 h0 (Sh.forget ?_ rfl rfl) ?_
    · have e : l.take 1 = [l[0]] := by cases l with | nil => simp at h0 | cons a l => simp
      have := h1 _ (List.getElem_mem h0)
      simp [go_sem, e]
      exact .int (by rw [Int.max_def]; split <;> omega)
    intro i hi
    dsimp only
    refine SWp.seq (SWp.seq (Wp.s ?_))
    simp -implicitDefEqProofs [go_sem]
    refine Wp.s ?_
    simp -implicitDefEqProofs [go_sem]
    refine ⟨fun h => ?_, fun h => Sh.forget (by simp [go_sem, List.take_of_length_le h]) rfl rfl⟩
    refine SWp.seq (SWp.block (Wp.s ?_))
    simp -implicitDefEqProofs [go_sem, h]
    refine Wp.s ?_
    simp -implicitDefEqProofs [go_sem]
    refine ⟨i + 1, by omega, by omega, Sh.forget ?_ rfl rfl⟩
    simp [go_sem, wrap_succ (show i ≤ 1000000000 by omega), foldl_take_succ _ _ _ _ h]
  · rintro _ -
    dsimp only
    refine Wp.s ?_
    simp -implicitDefEqProofs [go_sem]
    exact Fin.int rfl hokH (by simp) (by simp)
/-- What a fan-out is known to be. -/
structure FanOk (f : Fan) : Prop where
  n0 : 0 < f.app.length
  n1 : f.app.length ≤ 1000000
  nn : ∀ n ∈ f.app, 0 ≤ n
  kl : f.kept.length ≤ 1000000
theorem newest_cc (H : Hp) (V : List Nat) (f : Fan) (hf : FanOk f) : CC Tryz.prog 38 [.agg (fanC f)] H V (Pu (ci (newF f)) H V) := by
  refine CC.of_swp Tryz.func38 rfl (by kernel_rfl) (by rw [Tryz.ntmps38]; exact len_le _ _ rfl) fun hok hokH => ?_
  clear hok
  have := hf.n0
  have := hf.kl
  refine SWp.seq (Wp.s ?_)
  simp -implicitDefEqProofs [go_sem, args0]
  refine SWp.seq (SWp.seq (Wp.s ?_))
  simp -implicitDefEqProofs [go_sem]
  rcases Nat.eq_zero_or_pos f.kept.length with hk | hk
  · have e : newF f = f.app.foldl max 0 := by rw [newF, List.length_eq_zero_iff.1 hk]; rfl
    refine Wp.s ?_
    simp -implicitDefEqProofs [go_sem, hk]
    refine Wp.s ?_
    simp -implicitDefEqProofs [go_sem]
    refine CC.mono (max_cc _ _ _ f.app hf.n0 (by have := hf.n1; omega) hf.nn) ?_
    rintro _ _ _ ⟨rfl, rfl, rfl⟩
    simp -implicitDefEqProofs [go_sem]
    exact Fin.int e.symm hokH (by simp) (by simp)
  · have hi : f.kept.length - 1 < f.kept.length := by omega
    have e : newF f = (f.kept[f.kept.length - 1]).number := by rw [newF, List.getLast?_eq_getElem?, List.getElem?_eq_getElem hi]
    have w1 : IntKind.i64.wrap ((f.kept.length : Int) - 1) = ((f.kept.length - 1 : Nat) : Int) := by
      rw [show (f.kept.length : Int) - 1 = ((f.kept.length - 1 : Nat) : Int) by omega]
      exact IntWalk.i64_in _ ⟨by omega, by omega⟩
    refine Wp.s ?_
    simp -implicitDefEqProofs [go_sem, hk, show (0 : Int) < (f.kept.length : Int) by omega, w1, hi]
    exact Fin.int e.symm hokH (by simp) (by simp)
theorem num1_cc (H : Hp) (V : List Nat) (c : Cyc) (b : Nat) (n : Int) (hb : H[b]? = some (some [ci n])) : CC Tryz.prog 91 [.agg (cycC c), .ptr b 0] H V (Pu (cb (decide (c.number = n))) H V) := by
  refine CC.of_swp Tryz.func91 rfl (by kernel_rfl) (by rw [Tryz.ntmps91]; exact len_le _ _ rfl) fun hok hokH => ?_
  clear hok
  refine SWp.seq (Wp.s ?_)
  simp -implicitDefEqProofs [go_sem, args0]
  refine Wp.s ?_
  simp -implicitDefEqProofs [go_sem, hbx_of (at_old _ [some (cycC c)] hb)]
  exact Fin.bool (rfl) hokH (by simp) (by simp)
theorem numbered_cc (H : Hp) (V : List Nat) (f : Fan) (n : Int) (hk : f.kept.length ≤ 1000000) : CC Tryz.prog 55 [.agg (fanC f), ci n] H V (Pu (cb (numF f n)) H V) := by
  refine CC.of_swp Tryz.func55 rfl (by kernel_rfl) (by rw [Tryz.ntmps55]; exact len_le _ _ rfl) fun hok hokH => ?_
  clear hok
  refine SWp.seq (Wp.s ?_)
  simp -implicitDefEqProofs [go_sem, args0]
  refine Wp.s ?_
  simp -implicitDefEqProofs [go_sem]
  refine CC.mono (containsCyc_cc _ _ _ f.kept _ _ (fun c => decide (c.number = n)) (fun a ha => num1_cc _ _ a _ n (by simp [go_sem])) (by omega)) ?_
  rintro _ _ _ ⟨rfl, rfl, rfl⟩
  simp -implicitDefEqProofs [go_sem]
  exact Fin.bool (rfl) hokH (by simp) (by simp)
theorem bnd_cc (H : Hp) (V : List Nat) (f : Fan) (n : Int) (hf : FanOk f) : CC Tryz.prog 57 [.agg (fanC f), ci n] H V (Pu (cb (bndF f n)) H V) := by
  refine CC.of_swp Tryz.func57 rfl (by kernel_rfl) (by rw [Tryz.ntmps57]; exact len_le _ _ rfl) fun hok hokH => ?_
  clear hok
  refine SWp.seq (Wp.s ?_)
  simp -implicitDefEqProofs [go_sem, args0]
  refine SWp.seq (Wp.s ?_)
  simp -implicitDefEqProofs [go_sem]
  refine CC.mono (newest_cc _ _ f hf) ?_
  rintro _ _ _ ⟨rfl, rfl, rfl⟩
  by_cases e : n = newF f
  · simp -implicitDefEqProofs [go_sem, e]
    refine Wp.s ?_
    simp -implicitDefEqProofs [go_sem]
    exact Fin.bool (by simp [bndF, e]) hokH (by simp) (by simp)
  simp -implicitDefEqProofs [go_sem, e]
  refine CC.mono (numbered_cc _ _ f n hf.kl) ?_
  rintro _ _ _ ⟨rfl, rfl, rfl⟩
  cases e2 : numF f n with
  | true =>
    simp -implicitDefEqProofs [go_sem, e2]
    refine Wp.s ?_
    simp -implicitDefEqProofs [go_sem]
    exact Fin.bool (by simp [bndF, e2]) hokH (by simp) (by simp)
  | false =>
    cases hk : f.kept with
    | nil =>
      simp -implicitDefEqProofs [go_sem, e2, hk]
      refine Wp.s ?_
      simp -implicitDefEqProofs [go_sem]
      exact Fin.bool (by simp [bndF, e2, e, hk]) hokH (by simp) (by simp)
    | cons c l =>
      simp -implicitDefEqProofs [go_sem, e2, hk, show (0 : Int) < (l.length : Int) + 1 by omega]
      refine Wp.s ?_
      simp -implicitDefEqProofs [go_sem]
      exact Fin.bool (by simp [bndF, e2, e, hk]) hokH (by simp) (by simp)
end Go.Proofs.YtpadnceoacbaeaaGreat
namespace Go.Proofs.YtpadnceoacbaeaaGreat
open Go.Proofs
theorem indexIntC_cc (H : Hp) (V : List Nat) (tk : Tk) (l : List Int) (g : Nat) (caps : List CV) (p : Int → Bool) (hg : ∀ (a : Int), CC Tryz.prog g (ci a :: caps) H V (Pu (cb (p a)) H V)) (hl : l.length ≤ 1000000000) :
    CC Tryz.prog 98 [.sl tk 1 (l.map ic), .fn g caps] H V (Ix (l.any p) H V) := by
  refine CC.of_swp Tryz.func98 rfl (by kernel_rfl) (by rw [Tryz.ntmps98]; exact len_le _ _ rfl) fun hok hokH => ?_
  clear hok
  refine SWp.seq (Wp.s ?_)
  simp -implicitDefEqProofs [go_sem, args0]
  refine SWp.join (α := Unit) (fun _ => ([], H, V)) (fun _ => l.any p = false) ?_ ?_
  · refine SWp.seq (Wp.s ?_)
    simp -implicitDefEqProofs [go_sem]
    refine SWp.block ?_
    refine SWp.loop (α := Nat) (fun i => ([(0, .sl tk 1 (l.map ic)), (1, .fn g caps), (7, ci l.length), (8, ci i)], H, V)) (fun i => i ≤ l.length ∧ (l.take i).any p = false) (fun i => l.length - i) 0 ⟨Nat.zero_le _, rfl⟩
      (Sh.forget (by simp [go_sem]) rfl rfl) ?_
    rintro i ⟨hi, hp⟩
    dsimp only
    refine Wp.s ?_
    simp -implicitDefEqProofs [go_sem]
    refine ⟨fun h => ⟨h, ?_⟩, fun h => ⟨?_, Sh.forget (by simp [go_sem]) rfl rfl⟩⟩
    · refine CC.mono (hg _) ?_
      rintro _ _ _ ⟨rfl, rfl, rfl⟩
      rcases hq : p l[i] with - | -
      · simp -implicitDefEqProofs [go_sem]
        refine ⟨i + 1, ⟨by omega, by simpa using any_take h hp hq⟩, by omega, Sh.forget ?_ rfl rfl⟩
        simp [go_sem, wrap_big (show i < 9223372036854775807 by omega)]
      · simp -implicitDefEqProofs [go_sem]
        exact Fin.ix (by rw [any_at h hq]; simp) hokH (by simp) (by simp)
    · rw [List.take_of_length_le h] at hp; simpa using hp
  · rintro _ hp
    dsimp only
    refine Wp.s ?_
    simp -implicitDefEqProofs [go_sem]
    exact Fin.ix (by rw [hp]; rfl) hokH (by simp) (by simp)
theorem containsIntC_cc (H : Hp) (V : List Nat) (tk : Tk) (l : List Int) (g : Nat) (caps : List CV) (p : Int → Bool) (hg : ∀ (a : Int), CC Tryz.prog g (ci a :: caps) H V (Pu (cb (p a)) H V)) (hl : l.length ≤ 1000000000) :
    CC Tryz.prog 65 [.sl tk 1 (l.map ic), .fn g caps] H V (Pu (cb (l.any p)) H V) := by
  refine CC.of_swp Tryz.func65 rfl (by kernel_rfl) (by rw [Tryz.ntmps65]; exact len_le _ _ rfl) fun hok hokH => Wp.s ?_
  simp -implicitDefEqProofs [go_sem, args0]
  refine CC.mono (indexIntC_cc _ _ _ _ _ _ _ hg hl) ?_
  rintro _ _ _ ⟨k, rfl, hk, rfl, rfl⟩
  simp -implicitDefEqProofs [go_sem]
  exact Fin.bool hk hokH (by simp) (by simp)
theorem time1_cc (H : Hp) (V : List Nat) (n : Int) : CC Tryz.prog 64 [ci n] H V (Pu (cb (inB n 0 1073741824)) H V) := by
  refine CC.of_swp Tryz.func64 rfl (by kernel_rfl) (by rw [Tryz.ntmps64]; exact len_le _ _ rfl) fun hok hokH => ?_
  clear hok
  refine SWp.seq (Wp.s ?_)
  simp -implicitDefEqProofs [go_sem, args0]
  by_cases h : 0 ≤ n
  · refine Wp.s ?_
    simp -implicitDefEqProofs [go_sem, h]
    exact Fin.bool (by simp [inB, h]) hokH (by simp) (by simp)
  · refine Wp.s ?_
    simp -implicitDefEqProofs [go_sem, h]
    exact Fin.bool (by simp [inB, h]) hokH (by simp) (by simp)
theorem time2_cc (H : Hp) (V : List Nat) (n : Int) (b : Nat) (hb : H[b]? = some (some [.fn 64 []])) : CC Tryz.prog 66 [ci n, .ptr b 0] H V (Pu (cb (badTime n)) H V) := by
  refine CC.of_swp Tryz.func66 rfl (by kernel_rfl) (by rw [Tryz.ntmps66]; exact len_le _ _ rfl) fun hok hokH => ?_
  clear hok
  refine SWp.seq (Wp.s ?_)
  simp -implicitDefEqProofs [go_sem, args0]
  refine Wp.s ?_
  simp -implicitDefEqProofs [go_sem, hbx_of hb]
  refine CC.mono (time1_cc _ _ n) ?_
  rintro _ _ _ ⟨rfl, rfl, rfl⟩
  simp -implicitDefEqProofs [go_sem]
  exact Fin.bool (rfl) hokH (by simp) (by simp)
theorem kErr_chk {k : List Cyc} {i : Nat} (h : i < k.length) (hc : chkC k[i] mostS ≠ 0) : kErr k i = chkC k[i] mostS := by
  rw [kErr, List.getElem?_eq_getElem h]; dsimp only; rw [if_pos hc]
theorem kErr_z {k : List Cyc} (h : 0 < k.length) (hc : chkC k[0] mostS = 0) : kErr k 0 = 0 := by
  rw [kErr, List.getElem?_eq_getElem h]; dsimp only; rw [if_neg (by simp [hc])]
theorem kErr_s {k : List Cyc} {i : Nat} (h : i + 1 < k.length) (hc : chkC k[i + 1] mostS = 0) : kErr k (i + 1) = if k[i + 1].base = (k[i]'(by omega)).number then 0 else 15 := by
  rw [kErr, List.getElem?_eq_getElem h]; dsimp only; rw [if_neg (by simp [hc]), List.getElem?_eq_getElem (by omega)]
/-- A fan-out of bounded size. -/
structure Sm (f : Fan) : Prop where
  kl : f.kept.length ≤ 1000000
  al : f.app.length ≤ 1000000
  ll : f.lost.length ≤ 1000000
  kc : ∀ c ∈ f.kept, c.wrs.length ≤ 1000000 ∧ WrS c.wrs ∧ c.poss.length ≤ 1000000
theorem FanOk.of {f : Fan} (hs : Sm f) (h1 : ¬ f.app.length < 1) (h2 : f.app.any badTime = false) : FanOk f :=
  ⟨by omega, hs.al, fun n hn => by
    have := List.any_eq_false.1 h2 n hn
    simp [badTime, inB] at this
    exact this.1, hs.kl⟩
def BadU (f : Fan) (i : Nat) : Bool := ((f.app.zip f.lost).take i).any (badT f)
theorem badU_all {f : Fan} {i : Nat} (hl : f.lost.length = f.app.length) (h : f.app.length ≤ i) : BadU f i = (f.app.zip f.lost).any (badT f) := by
  rw [BadU, List.take_of_length_le (by rw [List.length_zip]; omega)]
def PreF (f : Fan) : Prop := ¬ (f.app.length < 1 ∨ 4 < f.app.length ∨ f.lost.length ≠ f.app.length) ∧ ¬ (f.limit < 1 ∨ 1024 < f.limit ∨ f.app.any badTime = true) ∧ ¬ (f.limit < f.kept.length)
theorem Check_cc (H : Hp) (V : List Nat) (f : Fan) (hs : Sm f) : CC Tryz.prog 27 [.agg (fanC f)] H V (Pu (er (chkF f)) H V) := by
  refine CC.of_swp Tryz.func27 rfl (by kernel_rfl) (by rw [Tryz.ntmps27]; exact len_le _ _ rfl) fun hok hokH => ?_
  clear hok
  have hkl := hs.kl
  have hal := hs.al
  have hll := hs.ll
  refine SWp.seq (Wp.s ?_)
  simp -implicitDefEqProofs [go_sem, args0]
  refine SWp.seq (Wp.s ?_)
  simp -implicitDefEqProofs [go_sem]
  refine SWp.join (α := Unit) (fun _ => ([(1, .ptr H.length 0)], H ++ [some (fanC f), some [.fn 64 []]], V)) (fun _ => PreF f) ?_ ?_
  · refine SWp.block (SWp.seq (Wp.s ?_))
    by_cases a1 : f.app.length < 1
    · simp -implicitDefEqProofs [go_sem, a1, show (f.app.length : Int) < 1 by omega]
      refine Wp.s ?_
      simp -implicitDefEqProofs [go_sem]
      exact Fin.er (by rw [chkF, if_pos (.inl a1)]) hokH (by simp) (by simp)
    by_cases a2 : 4 < f.app.length
    · simp -implicitDefEqProofs [go_sem, a1, show ¬ (f.app.length : Int) < 1 by omega, show (4 : Int) < f.app.length by omega]
      refine Wp.s ?_
      simp -implicitDefEqProofs [go_sem]
      exact Fin.er (by rw [chkF, if_pos (.inr (.inl a2))]) hokH (by simp) (by simp)
    by_cases a3 : f.lost.length = f.app.length
    case neg =>
      simp -implicitDefEqProofs [go_sem, a1, show ¬ (f.app.length : Int) < 1 by omega, show ¬ (4 : Int) < f.app.length by omega, a3, show ¬ (f.lost.length : Int) = f.app.length by omega]
      refine Wp.s ?_
      simp -implicitDefEqProofs [go_sem]
      exact Fin.er (by rw [chkF, if_pos (.inr (.inr a3))]) hokH (by simp) (by simp)
    simp -implicitDefEqProofs [go_sem, a1, show ¬ (f.app.length : Int) < 1 by omega, show ¬ (4 : Int) < f.app.length by omega, a3, show (f.lost.length : Int) = f.app.length by omega]
    have e0 : ¬ (f.app.length < 1 ∨ 4 < f.app.length ∨ f.lost.length ≠ f.app.length) := by omega
    by_cases b1 : f.limit < 1
    · refine Wp.s ?_
      simp -implicitDefEqProofs [go_sem, b1]
      exact Fin.er (by rw [chkF, if_neg e0, if_pos (.inl b1)]) hokH (by simp) (by simp)
    by_cases b2 : 1024 < f.limit
    · refine Wp.s ?_
      simp -implicitDefEqProofs [go_sem, b1, b2]
      exact Fin.er (by rw [chkF, if_neg e0, if_pos (.inr (.inl b2))]) hokH (by simp) (by simp)
    refine Wp.s ?_
    simp -implicitDefEqProofs [go_sem, b1, b2]
    refine CC.mono (containsIntC_cc _ _ _ f.app _ _ badTime (fun a => time2_cc _ _ a _ (by simp [go_sem])) (by omega)) ?_
    rintro _ _ _ ⟨rfl, rfl, rfl⟩
    cases b3 : f.app.any badTime with
    | true =>
      simp -implicitDefEqProofs [go_sem]
      exact Fin.er (by rw [chkF, if_neg e0, if_pos (.inr (.inr b3))]) hokH (by simp) (by simp)
    | false =>
      have e1 : ¬ (f.limit < 1 ∨ 1024 < f.limit ∨ f.app.any badTime = true) := by rw [b3]; simp; omega
      by_cases c1 : f.limit < f.kept.length
      · simp -implicitDefEqProofs [go_sem, c1]
        exact Fin.er (by rw [chkF, if_neg e0, if_neg e1, if_pos c1]) hokH (by simp) (by simp)
      · simp -implicitDefEqProofs [go_sem, c1]
        exact ⟨⟨e0, e1, c1⟩, Sh.forget (by simp [go_sem]) rfl rfl⟩
  rintro _ ⟨e0, e1, e2⟩
  dsimp only
  have b3 : f.app.any badTime = false := by
    cases q : f.app.any badTime with
    | true => exact absurd (.inr (.inr q)) e1
    | false => rfl
  have hf : FanOk f := FanOk.of hs (fun q => e0 (.inl q)) b3
  have hl : f.lost.length = f.app.length := by omega
  have e3 : chkF f = if fstE (kErr f.kept) f.kept.length ≠ 0 then fstE (kErr f.kept) f.kept.length else if (f.app.zip f.lost).any (badT f) = true then 12 else headE f := by rw [chkF, if_neg e0, if_neg e1, if_neg e2]
  refine SWp.seq (Wp.s ?_)
  simp -implicitDefEqProofs [go_sem]
  refine CC.mono (most_f_cc _ _) ?_
  rintro _ _ _ ⟨rfl, rfl, rfl⟩
  simp -implicitDefEqProofs [go_sem]
  refine SWp.join (α := Unit) (fun _ => ([(1, .ptr H.length 0)], H ++ [some (fanC f), some [.fn 64 []]], V)) (fun _ => fstE (kErr f.kept) f.kept.length = 0) ?_ ?_
  · refine SWp.seq (Wp.s ?_)
    simp -implicitDefEqProofs [go_sem]
    refine SWp.block ?_
    refine SWp.loop (α := Nat) (fun i => ([(1, .ptr H.length 0), (4, .sl .sh 1 (mostS.map ic)), (54, .sl .sh 5 (f.kept.map cycC)), (55, ci f.kept.length), (56, ci i)], H ++ [some (fanC f), some [.fn 64 []]], V)) (fun i => i ≤ f.kept.length ∧ fstE (kErr f.kept) i = 0) (fun i => f.kept.length - i) 0 ⟨Nat.zero_le _, rfl⟩ (Sh.forget (by simp [go_sem]) rfl rfl) ?_
    rintro i ⟨hi, hp⟩
    dsimp only
    refine SWp.seq (Wp.s ?_)
    simp -implicitDefEqProofs [go_sem]
    refine SWp.seq (Wp.s ?_)
    simp -implicitDefEqProofs [go_sem]
    refine ⟨fun h => ?_, fun h => ?_⟩
    case refine_2 =>
      obtain rfl : i = f.kept.length := by omega
      exact ⟨hp, Sh.forget (by simp [go_sem]) rfl rfl⟩
    obtain ⟨k1, k2, k3⟩ := hs.kc _ (List.getElem_mem h)
    refine SWp.seq (SWp.block (SWp.seq (Wp.s ?_)))
    simp -implicitDefEqProofs [go_sem, h]
    refine SWp.seq (SWp.seq (Wp.s ?_))
    simp -implicitDefEqProofs [go_sem]
    refine CC.mono (cCheck_cc _ _ .sh f.kept[i] mostS (by omega) k2 (by simp [mostS]) (by omega)) ?_
    rintro _ _ _ ⟨rfl, rfl, rfl⟩
    by_cases hc : chkC f.kept[i] mostS = 0
    case neg =>
      simp -implicitDefEqProofs [go_sem, hc]
      refine Wp.s ?_
      simp -implicitDefEqProofs [go_sem, hc]
      exact Fin.er (by rw [e3, fstE_at hp (by rw [kErr_chk h hc]; exact hc) h, kErr_chk h hc, if_pos hc]) hokH (by simp) (by simp)
    simp -implicitDefEqProofs [go_sem, hc]
    refine Wp.s ?_
    simp -implicitDefEqProofs [go_sem, hc]
    refine SWp.seq (SWp.drawnT [] [] (.s 0 .pl <| .s 1 .pl <| .s 2 .pl <| .s 3 .pl <| .s 4 .pl <| .s 5 .pl <| .s 6 .pl <| .s 7 .pl <| .s 8 .pl <| .s 9 .pl <| .s 10 .pl <| .s 11 .pl <| .s 12 .pl <| .s 13 .pl <| .n) (by kernel_rfl) (by kernel_rfl) ?_)
    cases i with
    | zero =>
      have z := kErr_z h hc
      simp -implicitDefEqProofs [go_sem]
      refine Wp.s ?_
      simp -implicitDefEqProofs [go_sem]
      refine Wp.s ?_
      simp -implicitDefEqProofs [go_sem]
      refine ⟨1, ⟨by omega, fstE_s hp z⟩, by omega, Sh.trim ?_ ?_ hokH ?_ (by simp) (by simp) (by simp)⟩
      · simp [go_sem, show IntKind.i64.wrap 1 = 1 from by kernel_rfl]
      · simp [go_sem, okE_ints]
      · simp [go_sem]
    | succ j =>
      have z := kErr_s h hc
      have w1 : IntKind.i64.wrap (((j + 1 : Nat) : Int) - 1) = (j : Int) := by
        rw [show ((j + 1 : Nat) : Int) - 1 = (j : Int) by omega]
        exact IntWalk.i64_in _ ⟨by omega, by omega⟩
      have w2 : IntKind.i64.wrap (j : Int) = j := IntWalk.i64_in _ ⟨by omega, by omega⟩
      have w3 : IntKind.i64.wrap ((j : Int) + 1 + 1) = (j : Int) + 1 + 1 := IntWalk.i64_in _ ⟨by omega, by omega⟩
      have hj : j < f.kept.length := by omega
      by_cases hb : f.kept[j + 1].base = f.kept[j].number
      · rw [if_pos hb] at z
        simp -implicitDefEqProofs [go_sem, w1, w2, hj, hb, show (0 : Int) < (j : Int) + 1 by omega]
        refine Wp.s ?_
        simp -implicitDefEqProofs [go_sem]
        refine Wp.s ?_
        simp -implicitDefEqProofs [go_sem]
        refine ⟨j + 1 + 1, ⟨by omega, fstE_s hp z⟩, by omega, Sh.trim ?_ ?_ hokH ?_ (by simp) (by simp) (by simp)⟩
        · simp [go_sem, w3]
        · simp [go_sem, okE_ints]
        · simp [go_sem]
      · rw [if_neg hb] at z
        simp -implicitDefEqProofs [go_sem, w1, w2, hj, hb, show (0 : Int) < (j : Int) + 1 by omega]
        refine Wp.s ?_
        simp -implicitDefEqProofs [go_sem]
        exact Fin.er (by rw [e3, fstE_at hp (by rw [z]; decide) h, z, if_pos (by decide)]) hokH (by simp) (by simp)
  rintro _ e4
  dsimp only
  rw [if_neg (by simp [e4])] at e3
  refine SWp.join (α := Unit) (fun _ => ([(1, .ptr H.length 0)], H ++ [some (fanC f), some [.fn 64 []]], V)) (fun _ => BadU f f.app.length = false) ?_ ?_
  · refine SWp.seq (Wp.s ?_)
    simp -implicitDefEqProofs [go_sem]
    refine SWp.block ?_
    refine SWp.loop (α := Nat) (fun i => ([(1, .ptr H.length 0), (83, .sl .sh 1 (f.app.map ic)), (84, ci f.app.length), (85, ci i)], H ++ [some (fanC f), some [.fn 64 []]], V)) (fun i => i ≤ f.app.length ∧ BadU f i = false) (fun i => f.app.length - i) 0 ⟨Nat.zero_le _, rfl⟩ (Sh.forget (by simp [go_sem]) rfl rfl) ?_
    rintro i ⟨hi, hp⟩
    dsimp only
    refine SWp.seq (Wp.s ?_)
    simp -implicitDefEqProofs [go_sem]
    refine SWp.seq (Wp.s ?_)
    simp -implicitDefEqProofs [go_sem]
    refine ⟨fun h => ?_, fun h => ?_⟩
    case refine_2 =>
      obtain rfl : i = f.app.length := by omega
      exact ⟨hp, Sh.forget (by simp [go_sem]) rfl rfl⟩
    have h2 : i < f.lost.length := by omega
    have hz : i < (f.app.zip f.lost).length := by rw [List.length_zip]; omega
    have gz : (f.app.zip f.lost)[i] = (f.app[i], f.lost[i]) := List.getElem_zip
    have bad : badT f (f.app[i], f.lost[i]) = true → chkF f = 12 := fun q => by rw [e3, if_pos (any_at hz (by rw [gz]; exact q))]
    refine SWp.seq (SWp.block (SWp.seq (Wp.s ?_)))
    simp -implicitDefEqProofs [go_sem, h]
    refine SWp.seq (Wp.s ?_)
    simp -implicitDefEqProofs [go_sem]
    refine CC.mono (newest_cc _ _ f hf) ?_
    rintro _ _ _ ⟨rfl, rfl, rfl⟩
    by_cases n1 : newF f < f.app[i]
    · simp -implicitDefEqProofs [go_sem, n1]
      refine Wp.s ?_
      simp -implicitDefEqProofs [go_sem]
      exact Fin.er (bad (by simp [badT, n1])) hokH (by simp) (by simp)
    have step : badT f (f.app[i], f.lost[i]) = false → i + 1 ≤ f.app.length ∧ BadU f (i + 1) = false := fun q => ⟨by omega, any_take hz hp (by rw [gz]; exact q)⟩
    cases hb : f.lost[i] with
    | true =>
      simp -implicitDefEqProofs [go_sem, n1, h2, hb]
      refine Wp.s ?_
      simp -implicitDefEqProofs [go_sem]
      refine Wp.s ?_
      simp -implicitDefEqProofs [go_sem]
      refine ⟨i + 1, step (by simp [badT, n1, hb]), by omega, Sh.forget ?_ rfl rfl⟩
      simp [go_sem, wrap_succ (show i ≤ 1000000000 by omega)]
    | false =>
      simp -implicitDefEqProofs [go_sem, n1, h2, hb]
      refine CC.mono (bnd_cc _ _ f f.app[i] hf) ?_
      rintro _ _ _ ⟨rfl, rfl, rfl⟩
      cases hq : bndF f f.app[i] with
      | true =>
        simp -implicitDefEqProofs [go_sem]
        refine Wp.s ?_
        simp -implicitDefEqProofs [go_sem]
        refine Wp.s ?_
        simp -implicitDefEqProofs [go_sem]
        refine ⟨i + 1, step (by simp [badT, n1, hb, hq]), by omega, Sh.forget ?_ rfl rfl⟩
        simp [go_sem, wrap_succ (show i ≤ 1000000000 by omega)]
      | false =>
        simp -implicitDefEqProofs [go_sem]
        refine Wp.s ?_
        simp -implicitDefEqProofs [go_sem]
        exact Fin.er (bad (by simp [badT, n1, hb, hq])) hokH (by simp) (by simp)
  rintro _ e5
  dsimp only
  rw [badU_all hl (Nat.le_refl _)] at e5
  rw [if_neg (by simp [e5]), headE] at e3
  refine SWp.seq (SWp.seq (SWp.drawnT [] [] (.s 0 .pl <| .s 1 .pl <| .s 2 .pl <| .s 3 .pl <| .s 4 .pl <| .s 5 .pl <| .s 7 .pl <| .s 8 .pl <| .s 9 .pl <| .s 10 .pl <| .s 11 .pl <| .s 6 .pl <| .s 12 .pl <| .s 13 .pl <| .n) (by kernel_rfl) (by kernel_rfl) ?_))
  cases hk : f.kept with
  | nil =>
    rw [hk] at e3
    simp -implicitDefEqProofs [go_sem, hk]
    refine Wp.s ?_
    simp -implicitDefEqProofs [go_sem]
    refine Wp.s ?_
    simp -implicitDefEqProofs [go_sem]
    exact Fin.er e3 hokH (by simp) (by simp)
  | cons c l =>
    rw [hk] at e3
    dsimp only at e3
    simp -implicitDefEqProofs [go_sem, hk, show (0 : Int) < (l.length : Int) + 1 by omega]
    refine CC.mono (oldest_cc _ _ .sh .sh .sh f.limit f.kept f.app f.lost hl hal) ?_
    rintro _ _ _ ⟨rfl, rfl, rfl⟩
    by_cases h : leastF f = c.base
    · rw [if_pos h] at e3
      rw [leastF_eq] at h
      simp -implicitDefEqProofs [go_sem, h]
      refine Wp.s ?_
      simp -implicitDefEqProofs [go_sem]
      refine Wp.s ?_
      simp -implicitDefEqProofs [go_sem]
      exact Fin.er e3 hokH (by simp) (by simp)
    · rw [if_neg h] at e3
      rw [leastF_eq] at h
      simp -implicitDefEqProofs [go_sem, h]
      refine Wp.s ?_
      simp -implicitDefEqProofs [go_sem]
      exact Fin.er e3 hokH (by simp) (by simp)
end Go.Proofs.YtpadnceoacbaeaaGreat
namespace Go.Proofs.YtpadnceoacbaeaaGreat
open Go.Proofs
theorem refLeast_cc (H : Hp) (V : List Nat) (tk t1 t2 : Tk) (lim : Int) (kept : List Cyc) (app : List Int) (lost : List Bool) (hl : lost.length = app.length) (hx : app.length ≤ 1000000) :
    CC Tryz.prog 44 [.agg [ci lim, .sl tk 5 (kept.map cycC), .sl t1 1 (app.map ic), .sl t2 1 (lost.map boE)]] H V (Pu (ci (leastI app lost)) H V) := by
  refine CC.of_swp Tryz.func44 rfl (by kernel_rfl) (by rw [Tryz.ntmps44]; exact len_le _ _ rfl) fun hok hokH => ?_
  clear hok
  refine SWp.seq (Wp.s ?_)
  simp -implicitDefEqProofs [go_sem, args0]
  refine SWp.seq (Wp.s ?_)
  simp -implicitDefEqProofs [go_sem]
  refine SWp.join (α := Unit) (fun _ => ([(3, ci (leastI app lost))], H ++ [some [ci lim, .sl tk 5 (kept.map cycC), .sl t1 1 (app.map ic), .sl t2 1 (lost.map boE)]], V)) (fun _ => True) ?_ ?_
  · refine SWp.seq (Wp.s ?_)
    simp -implicitDefEqProofs [go_sem]
    refine SWp.block ?_
    refine SWp.loop (α := Nat) (fun i => ([(1, .ptr H.length 0), (3, ci (leastN app lost i)), (4, ci i)], H ++ [some [ci lim, .sl tk 5 (kept.map cycC), .sl t1 1 (app.map ic), .sl t2 1 (lost.map boE)]], V)) (fun i => i ≤ app.length) (fun i => app.length - i) 0 (Nat.zero_le _) (Sh.forget (by simp [go_sem, leastN]) rfl rfl) ?_
    intro i hi
    dsimp only
    refine SWp.seq (SWp.seq (Wp.s ?_))
    simp -implicitDefEqProofs [go_sem]
    refine Wp.s ?_
    simp -implicitDefEqProofs [go_sem]
    refine ⟨fun h => ?_, fun h => Sh.forget (by simp [go_sem, leastN_all (app := app) (lost := lost) (by omega) (show app.length ≤ i by omega)]) rfl rfl⟩
    have h1 : i < app.length := by omega
    have h2 : i < lost.length := by omega
    have hs := leastN_s h1 h2
    refine SWp.seq (SWp.block (SWp.seq (Wp.s ?_)))
    cases hb : lost[i] with
    | true =>
      simp -implicitDefEqProofs [go_sem, h, h1, h2, hb]
      refine Wp.s ?_
      simp -implicitDefEqProofs [go_sem]
      refine Wp.s ?_
      simp -implicitDefEqProofs [go_sem]
      refine ⟨i + 1, by omega, by omega, Sh.forget ?_ rfl rfl⟩
      simp [go_sem, wrap_succ (show i ≤ 1000000000 by omega), hs, hb, leastS]
    | false =>
      by_cases q1 : leastN app lost i < 0
      · simp -implicitDefEqProofs [go_sem, h, h1, h2, hb, q1]
        refine Wp.s ?_
        simp -implicitDefEqProofs [go_sem, h, h1]
        refine Wp.s ?_
        simp -implicitDefEqProofs [go_sem]
        refine ⟨i + 1, by omega, by omega, Sh.forget ?_ rfl rfl⟩
        simp [go_sem, wrap_succ (show i ≤ 1000000000 by omega), hs, hb, leastS, q1]
      by_cases q2 : app[i] < leastN app lost i
      · simp -implicitDefEqProofs [go_sem, h, h1, h2, hb, q1, q2]
        refine Wp.s ?_
        simp -implicitDefEqProofs [go_sem, h, h1]
        refine Wp.s ?_
        simp -implicitDefEqProofs [go_sem]
        refine ⟨i + 1, by omega, by omega, Sh.forget ?_ rfl rfl⟩
        simp [go_sem, wrap_succ (show i ≤ 1000000000 by omega), hs, hb, leastS, q2]
      · simp -implicitDefEqProofs [go_sem, h, h1, h2, hb, q1, q2]
        refine Wp.s ?_
        simp -implicitDefEqProofs [go_sem]
        refine Wp.s ?_
        simp -implicitDefEqProofs [go_sem]
        refine ⟨i + 1, by omega, by omega, Sh.forget ?_ rfl rfl⟩
        simp [go_sem, wrap_succ (show i ≤ 1000000000 by omega), hs, hb, leastS, q1, q2]
  · rintro _ -
    dsimp only
    refine Wp.s ?_
    simp -implicitDefEqProofs [go_sem]
    exact Fin.int rfl hokH (by simp) (by simp)
theorem refLeastB_cc (H : Hp) (V : List Nat) (tk : Tk) (lim : Int) (kept : List Cyc) (app : List Int) (lost : List Bool) (b1 b2 n : Nat) (hn : app.length = n) (hl : lost.length = n) (hx : n ≤ 1000000) (hb1 : H[b1]? = some (some (app.map ci))) (hb2 : H[b2]? = some (some (lost.map cbo))) :
    CC Tryz.prog 44 [.agg [ci lim, .sl tk 5 (kept.map cycC), .bsl b1 0 n 1, .bsl b2 0 n 1]] H V (Pu (ci (leastI app lost)) H V) := by
  refine CC.of_swp Tryz.func44 rfl (by kernel_rfl) (by rw [Tryz.ntmps44]; exact len_le _ _ rfl) fun hok hokH => ?_
  clear hok
  refine SWp.seq (Wp.s ?_)
  simp -implicitDefEqProofs [go_sem, args0]
  refine SWp.seq (Wp.s ?_)
  simp -implicitDefEqProofs [go_sem]
  refine SWp.join (α := Unit) (fun _ => ([(3, ci (leastI app lost))], H ++ [some [ci lim, .sl tk 5 (kept.map cycC), .bsl b1 0 n 1, .bsl b2 0 n 1]], V)) (fun _ => True) ?_ ?_
  · refine SWp.seq (Wp.s ?_)
    simp -implicitDefEqProofs [go_sem]
    refine SWp.block ?_
    refine SWp.loop (α := Nat) (fun i => ([(1, .ptr H.length 0), (3, ci (leastN app lost i)), (4, ci i)], H ++ [some [ci lim, .sl tk 5 (kept.map cycC), .bsl b1 0 n 1, .bsl b2 0 n 1]], V)) (fun i => i ≤ n) (fun i => n - i) 0 (Nat.zero_le _) (Sh.forget (by simp [go_sem, leastN]) rfl rfl) ?_
    intro i hi
    dsimp only
    refine SWp.seq (SWp.seq (Wp.s ?_))
    simp -implicitDefEqProofs [go_sem]
    refine Wp.s ?_
    simp -implicitDefEqProofs [go_sem]
    refine ⟨fun h => ?_, fun h => Sh.forget (by simp [go_sem, leastN_all (app := app) (lost := lost) (by omega) (show app.length ≤ i by omega)]) rfl rfl⟩
    have h1 : i < app.length := by omega
    have h2 : i < lost.length := by omega
    have hs := leastN_s h1 h2
    refine SWp.seq (SWp.block (SWp.seq (Wp.s ?_)))
    cases hb : lost[i] with
    | true =>
      simp -implicitDefEqProofs [go_sem, h, h1, h2, hb, hbx_of (at_old _ [some [ci lim, .sl tk 5 (kept.map cycC), .bsl b1 0 n 1, .bsl b2 0 n 1]] hb1), hbx_of (at_old _ [some [ci lim, .sl tk 5 (kept.map cycC), .bsl b1 0 n 1, .bsl b2 0 n 1]] hb2)]
      refine Wp.s ?_
      simp -implicitDefEqProofs [go_sem]
      refine Wp.s ?_
      simp -implicitDefEqProofs [go_sem]
      refine ⟨i + 1, by omega, by omega, Sh.forget ?_ rfl rfl⟩
      simp [go_sem, wrap_succ (show i ≤ 1000000000 by omega), hs, hb, leastS]
    | false =>
      by_cases q1 : leastN app lost i < 0
      · simp -implicitDefEqProofs [go_sem, h, h1, h2, hb, q1, hbx_of (at_old _ [some [ci lim, .sl tk 5 (kept.map cycC), .bsl b1 0 n 1, .bsl b2 0 n 1]] hb1), hbx_of (at_old _ [some [ci lim, .sl tk 5 (kept.map cycC), .bsl b1 0 n 1, .bsl b2 0 n 1]] hb2)]
        refine Wp.s ?_
        simp -implicitDefEqProofs [go_sem, h, h1, hbx_of (at_old _ [some [ci lim, .sl tk 5 (kept.map cycC), .bsl b1 0 n 1, .bsl b2 0 n 1]] hb1), hbx_of (at_old _ [some [ci lim, .sl tk 5 (kept.map cycC), .bsl b1 0 n 1, .bsl b2 0 n 1]] hb2)]
        refine Wp.s ?_
        simp -implicitDefEqProofs [go_sem]
        refine ⟨i + 1, by omega, by omega, Sh.forget ?_ rfl rfl⟩
        simp [go_sem, wrap_succ (show i ≤ 1000000000 by omega), hs, hb, leastS, q1]
      by_cases q2 : app[i] < leastN app lost i
      · simp -implicitDefEqProofs [go_sem, h, h1, h2, hb, q1, q2, hbx_of (at_old _ [some [ci lim, .sl tk 5 (kept.map cycC), .bsl b1 0 n 1, .bsl b2 0 n 1]] hb1), hbx_of (at_old _ [some [ci lim, .sl tk 5 (kept.map cycC), .bsl b1 0 n 1, .bsl b2 0 n 1]] hb2)]
        refine Wp.s ?_
        simp -implicitDefEqProofs [go_sem, h, h1, hbx_of (at_old _ [some [ci lim, .sl tk 5 (kept.map cycC), .bsl b1 0 n 1, .bsl b2 0 n 1]] hb1), hbx_of (at_old _ [some [ci lim, .sl tk 5 (kept.map cycC), .bsl b1 0 n 1, .bsl b2 0 n 1]] hb2)]
        refine Wp.s ?_
        simp -implicitDefEqProofs [go_sem]
        refine ⟨i + 1, by omega, by omega, Sh.forget ?_ rfl rfl⟩
        simp [go_sem, wrap_succ (show i ≤ 1000000000 by omega), hs, hb, leastS, q2]
      · simp -implicitDefEqProofs [go_sem, h, h1, h2, hb, q1, q2, hbx_of (at_old _ [some [ci lim, .sl tk 5 (kept.map cycC), .bsl b1 0 n 1, .bsl b2 0 n 1]] hb1), hbx_of (at_old _ [some [ci lim, .sl tk 5 (kept.map cycC), .bsl b1 0 n 1, .bsl b2 0 n 1]] hb2)]
        refine Wp.s ?_
        simp -implicitDefEqProofs [go_sem]
        refine Wp.s ?_
        simp -implicitDefEqProofs [go_sem]
        refine ⟨i + 1, by omega, by omega, Sh.forget ?_ rfl rfl⟩
        simp [go_sem, wrap_succ (show i ≤ 1000000000 by omega), hs, hb, leastS, q1, q2]
  · rintro _ -
    dsimp only
    refine Wp.s ?_
    simp -implicitDefEqProofs [go_sem]
    exact Fin.int rfl hokH (by simp) (by simp)
theorem refNewest_cc (H : Hp) (V : List Nat) (f : Fan) (hs : Sm f) : CC Tryz.prog 47 [.agg (fanC f)] H V (Pu (ci (newF f)) H V) := by
  refine CC.of_swp Tryz.func47 rfl (by kernel_rfl) (by rw [Tryz.ntmps47]; exact len_le _ _ rfl) fun hok hokH => ?_
  clear hok
  have := hs.kl
  have := hs.al
  refine SWp.seq (Wp.s ?_)
  simp -implicitDefEqProofs [go_sem, args0]
  refine SWp.seq (SWp.seq (Wp.s ?_))
  simp -implicitDefEqProofs [go_sem]
  rcases Nat.eq_zero_or_pos f.kept.length with hk | hk
  · have e : newF f = f.app.foldl max 0 := by rw [newF, List.length_eq_zero_iff.1 hk]; rfl
    refine Wp.s ?_
    simp -implicitDefEqProofs [go_sem, hk]
    refine SWp.seq (Wp.s ?_)
    simp -implicitDefEqProofs [go_sem]
    refine SWp.join (α := Unit) (fun _ => ([(4, ci (f.app.foldl max 0))], H ++ [some (fanC f)], V)) (fun _ => True) ?_ ?_
    · refine SWp.seq (Wp.s ?_)
      simp -implicitDefEqProofs [go_sem]
      refine SWp.block ?_
      refine SWp.loop (α := Nat) (fun i => ([(1, .ptr H.length 0), (4, ci ((f.app.take i).foldl max 0)), (5, ci i)], H ++ [some (fanC f)], V)) (fun i => i ≤ f.app.length) (fun i => f.app.length - i) 0 (Nat.zero_le _) (Sh.forget (by simp [go_sem]) rfl rfl) ?_
      intro i hi
      dsimp only
      refine SWp.seq (SWp.seq (Wp.s ?_))
      simp -implicitDefEqProofs [go_sem]
      refine Wp.s ?_
      simp -implicitDefEqProofs [go_sem]
      refine ⟨fun h => ?_, fun h => Sh.forget (by simp [go_sem, List.take_of_length_le h]) rfl rfl⟩
      refine SWp.seq (SWp.block (Wp.s ?_))
      simp -implicitDefEqProofs [go_sem, h]
      refine Wp.s ?_
      simp -implicitDefEqProofs [go_sem]
      refine ⟨i + 1, by omega, by omega, Sh.forget ?_ rfl rfl⟩
      simp [go_sem, wrap_succ (show i ≤ 1000000000 by omega), foldl_take_succ _ _ _ _ h]
    · rintro _ -
      dsimp only
      refine Wp.s ?_
      simp -implicitDefEqProofs [go_sem]
      exact Fin.int e.symm hokH (by simp) (by simp)
  · have hi : f.kept.length - 1 < f.kept.length := by omega
    have e : newF f = (f.kept[f.kept.length - 1]).number := by rw [newF, List.getLast?_eq_getElem?, List.getElem?_eq_getElem hi]
    have w1 : IntKind.i64.wrap ((f.kept.length : Int) - 1) = ((f.kept.length - 1 : Nat) : Int) := by
      rw [show (f.kept.length : Int) - 1 = ((f.kept.length - 1 : Nat) : Int) by omega]
      exact IntWalk.i64_in _ ⟨by omega, by omega⟩
    refine Wp.s ?_
    simp -implicitDefEqProofs [go_sem, hk, show (0 : Int) < (f.kept.length : Int) by omega, w1, hi]
    exact Fin.int e.symm hokH (by simp) (by simp)
def numU (f : Fan) (n : Int) (i : Nat) : Bool := (f.kept.take i).any fun c => decide (c.number = n)
theorem numU_all {f : Fan} {n : Int} {i : Nat} (h : f.kept.length ≤ i) : numU f n i = numF f n := by rw [numU, List.take_of_length_le h]; rfl
theorem numU_s {f : Fan} {n : Int} {i : Nat} (h : i < f.kept.length) (h1 : numU f n i = false) (h2 : ¬ (f.kept[i]).number = n) : numU f n (i + 1) = false := any_take h h1 (by simpa using h2)
theorem numU_at {f : Fan} {n : Int} {i : Nat} (h : i < f.kept.length) (h2 : (f.kept[i]).number = n) : numF f n = true := any_at h (by simpa using h2)
theorem refNumbered_cc (H : Hp) (V : List Nat) (f : Fan) (n : Int) (hs : Sm f) : CC Tryz.prog 56 [.agg (fanC f), ci n] H V (Pu (cb (numF f n)) H V) := by
  refine CC.of_swp Tryz.func56 rfl (by kernel_rfl) (by rw [Tryz.ntmps56]; exact len_le _ _ rfl) fun hok hokH => ?_
  clear hok
  have := hs.kl
  refine SWp.seq (Wp.s ?_)
  simp -implicitDefEqProofs [go_sem, args0]
  refine SWp.join (α := Unit) (fun _ => ([], H ++ [some (fanC f)], V)) (fun _ => numU f n f.kept.length = false) ?_ ?_
  · refine SWp.seq (Wp.s ?_)
    simp -implicitDefEqProofs [go_sem]
    refine SWp.block ?_
    refine SWp.loop (α := Nat) (fun i => ([(1, ci n), (2, .ptr H.length 0), (5, ci i)], H ++ [some (fanC f)], V)) (fun i => i ≤ f.kept.length ∧ numU f n i = false) (fun i => f.kept.length - i) 0 ⟨Nat.zero_le _, rfl⟩ (Sh.forget (by simp [go_sem]) rfl rfl) ?_
    rintro i ⟨hi, hp⟩
    dsimp only
    refine SWp.seq (SWp.seq (Wp.s ?_))
    simp -implicitDefEqProofs [go_sem]
    refine Wp.s ?_
    simp -implicitDefEqProofs [go_sem]
    refine ⟨fun h => ?_, fun h => ?_⟩
    case refine_2 =>
      obtain rfl : i = f.kept.length := by omega
      exact ⟨hp, Sh.forget (by simp [go_sem]) rfl rfl⟩
    refine SWp.seq (SWp.block (SWp.seq (Wp.s ?_)))
    by_cases e : (f.kept[i]).number = n
    · simp -implicitDefEqProofs [go_sem, h, e]
      refine Wp.s ?_
      simp -implicitDefEqProofs [go_sem]
      exact Fin.bool (by rw [numU_at h e]) hokH (by simp) (by simp)
    · simp -implicitDefEqProofs [go_sem, h, e]
      refine Wp.s ?_
      simp -implicitDefEqProofs [go_sem]
      refine Wp.s ?_
      simp -implicitDefEqProofs [go_sem]
      refine ⟨i + 1, ⟨by omega, numU_s h hp e⟩, by omega, Sh.forget ?_ rfl rfl⟩
      simp [go_sem, wrap_succ (show i ≤ 1000000000 by omega)]
  rintro _ e4
  dsimp only
  rw [numU_all (Nat.le_refl _)] at e4
  refine Wp.s ?_
  simp -implicitDefEqProofs [go_sem]
  exact Fin.bool (by rw [e4]) hokH (by simp) (by simp)
theorem refBnd_cc (H : Hp) (V : List Nat) (f : Fan) (n : Int) (hs : Sm f) : CC Tryz.prog 58 [.agg (fanC f), ci n] H V (Pu (cb (bndF f n)) H V) := by
  refine CC.of_swp Tryz.func58 rfl (by kernel_rfl) (by rw [Tryz.ntmps58]; exact len_le _ _ rfl) fun hok hokH => ?_
  clear hok
  have := hs.kl
  refine SWp.seq (Wp.s ?_)
  simp -implicitDefEqProofs [go_sem, args0]
  refine SWp.join (α := Unit) (fun _ => ([(1, ci n), (2, .ptr H.length 0)], H ++ [some (fanC f)], V)) (fun _ => bndF f n = numF f n) ?_ ?_
  · refine SWp.seq (Wp.s ?_)
    simp -implicitDefEqProofs [go_sem]
    refine CC.mono (refNewest_cc _ _ f hs) ?_
    rintro _ _ _ ⟨rfl, rfl, rfl⟩
    by_cases e1 : n = newF f
    · simp -implicitDefEqProofs [go_sem, e1]
      refine Wp.s ?_
      simp -implicitDefEqProofs [go_sem]
      exact Fin.bool (by simp [bndF, e1]) hokH (by simp) (by simp)
    cases hk : f.kept with
    | nil =>
      simp -implicitDefEqProofs [go_sem, e1, hk]
      refine Wp.s ?_
      simp -implicitDefEqProofs [go_sem]
      exact ⟨by simp [bndF, e1, hk], Sh.forget (by simp [go_sem]) rfl rfl⟩
    | cons c l =>
      by_cases e2 : n = c.base
      · subst e2
        simp -implicitDefEqProofs [go_sem, e1, hk, show (0 : Int) < (l.length : Int) + 1 by omega]
        refine Wp.s ?_
        simp -implicitDefEqProofs [go_sem]
        exact Fin.bool (by simp [bndF, hk]) hokH (by simp) (by simp)
      · simp -implicitDefEqProofs [go_sem, e1, hk, e2, show (0 : Int) < (l.length : Int) + 1 by omega]
        refine Wp.s ?_
        simp -implicitDefEqProofs [go_sem]
        exact ⟨by simp [bndF, e1, hk, show ¬ c.base = n from fun q => e2 q.symm], Sh.forget (by simp [go_sem]) rfl rfl⟩
  rintro _ e3
  dsimp only
  refine SWp.join (α := Unit) (fun _ => ([], H ++ [some (fanC f)], V)) (fun _ => numU f n f.kept.length = false) ?_ ?_
  · refine SWp.seq (Wp.s ?_)
    simp -implicitDefEqProofs [go_sem]
    refine SWp.block ?_
    refine SWp.loop (α := Nat) (fun i => ([(1, ci n), (2, .ptr H.length 0), (5, ci i)], H ++ [some (fanC f)], V)) (fun i => i ≤ f.kept.length ∧ numU f n i = false) (fun i => f.kept.length - i) 0 ⟨Nat.zero_le _, rfl⟩ (Sh.forget (by simp [go_sem]) rfl rfl) ?_
    rintro i ⟨hi, hp⟩
    dsimp only
    refine SWp.seq (SWp.seq (Wp.s ?_))
    simp -implicitDefEqProofs [go_sem]
    refine Wp.s ?_
    simp -implicitDefEqProofs [go_sem]
    refine ⟨fun h => ?_, fun h => ?_⟩
    case refine_2 =>
      obtain rfl : i = f.kept.length := by omega
      exact ⟨hp, Sh.forget (by simp [go_sem]) rfl rfl⟩
    refine SWp.seq (SWp.block (SWp.seq (Wp.s ?_)))
    by_cases e : (f.kept[i]).number = n
    · simp -implicitDefEqProofs [go_sem, h, e]
      refine Wp.s ?_
      simp -implicitDefEqProofs [go_sem]
      exact Fin.bool (by rw [e3, numU_at h e]) hokH (by simp) (by simp)
    · simp -implicitDefEqProofs [go_sem, h, e]
      refine Wp.s ?_
      simp -implicitDefEqProofs [go_sem]
      refine Wp.s ?_
      simp -implicitDefEqProofs [go_sem]
      refine ⟨i + 1, ⟨by omega, numU_s h hp e⟩, by omega, Sh.forget ?_ rfl rfl⟩
      simp [go_sem, wrap_succ (show i ≤ 1000000000 by omega)]
  rintro _ e4
  dsimp only
  rw [numU_all (Nat.le_refl _)] at e4
  refine Wp.s ?_
  simp -implicitDefEqProofs [go_sem]
  exact Fin.bool (by rw [e3, e4]) hokH (by simp) (by simp)
end Go.Proofs.YtpadnceoacbaeaaGreat
namespace Go.Proofs.YtpadnceoacbaeaaGreat
open Go.Proofs
def timU (f : Fan) (i : Nat) : Bool := (f.app.take i).any badTime
theorem timU_all {f : Fan} {i : Nat} (h : f.app.length ≤ i) : timU f i = f.app.any badTime := by rw [timU, List.take_of_length_le h]
theorem timU_s {f : Fan} {i : Nat} (h : i < f.app.length) (h1 : timU f i = false) (h2 : ¬ f.app[i] < 0) (h3 : ¬ 1073741824 < f.app[i]) : timU f (i + 1) = false := any_take h h1 (by simp [badTime, inB]; omega)
theorem timU_at {f : Fan} {i : Nat} (h : i < f.app.length) (h2 : f.app[i] < 0 ∨ 1073741824 < f.app[i]) : f.app.any badTime = true := any_at h (by simp [badTime, inB]; omega)
theorem refCheck_cc (H : Hp) (V : List Nat) (f : Fan) (hs : Sm f) : CC Tryz.prog 43 [.agg (fanC f)] H V (Pu (er (chkF f)) H V) := by
  refine CC.of_swp Tryz.func43 rfl (by kernel_rfl) (by rw [Tryz.ntmps43]; exact len_le _ _ rfl) fun hok hokH => ?_
  clear hok
  have hkl := hs.kl
  have hal := hs.al
  have hll := hs.ll
  refine SWp.seq (Wp.s ?_)
  simp -implicitDefEqProofs [go_sem, args0]
  refine SWp.join (α := Unit) (fun _ => ([(1, .ptr H.length 0)], H ++ [some (fanC f)], V)) (fun _ => ¬ (f.app.length < 1 ∨ 4 < f.app.length ∨ f.lost.length ≠ f.app.length)) ?_ ?_
  · refine SWp.seq (Wp.s ?_)
    by_cases a1 : f.app.length < 1
    · simp -implicitDefEqProofs [go_sem, a1, show (f.app.length : Int) < 1 by omega]
      refine Wp.s ?_
      simp -implicitDefEqProofs [go_sem]
      exact Fin.er (by rw [chkF, if_pos (.inl a1)]) hokH (by simp) (by simp)
    by_cases a2 : 4 < f.app.length
    · simp -implicitDefEqProofs [go_sem, a1, show ¬ (f.app.length : Int) < 1 by omega, show (4 : Int) < f.app.length by omega]
      refine Wp.s ?_
      simp -implicitDefEqProofs [go_sem]
      exact Fin.er (by rw [chkF, if_pos (.inr (.inl a2))]) hokH (by simp) (by simp)
    by_cases a3 : f.lost.length = f.app.length
    case neg =>
      simp -implicitDefEqProofs [go_sem, a1, show ¬ (f.app.length : Int) < 1 by omega, show ¬ (4 : Int) < f.app.length by omega, a3, show ¬ (f.lost.length : Int) = f.app.length by omega]
      refine Wp.s ?_
      simp -implicitDefEqProofs [go_sem]
      exact Fin.er (by rw [chkF, if_pos (.inr (.inr a3))]) hokH (by simp) (by simp)
    simp -implicitDefEqProofs [go_sem, a1, show ¬ (f.app.length : Int) < 1 by omega, show ¬ (4 : Int) < f.app.length by omega, a3, show (f.lost.length : Int) = f.app.length by omega]
    refine Wp.s ?_
    simp -implicitDefEqProofs [go_sem]
    exact ⟨by omega, Sh.forget (by simp [go_sem]) rfl rfl⟩
  rintro _ e0
  dsimp only
  refine SWp.join (α := Unit) (fun _ => ([(1, .ptr H.length 0)], H ++ [some (fanC f)], V)) (fun _ => ¬ (f.limit < 1 ∨ 1024 < f.limit)) ?_ ?_
  · refine SWp.seq (Wp.s ?_)
    by_cases b1 : f.limit < 1
    · simp -implicitDefEqProofs [go_sem, b1]
      refine Wp.s ?_
      simp -implicitDefEqProofs [go_sem, b1]
      exact Fin.er (by rw [chkF, if_neg e0, if_pos (.inl b1)]) hokH (by simp) (by simp)
    by_cases b2 : 1024 < f.limit
    · simp -implicitDefEqProofs [go_sem, b1, b2]
      refine Wp.s ?_
      simp -implicitDefEqProofs [go_sem, b1, b2]
      exact Fin.er (by rw [chkF, if_neg e0, if_pos (.inr (.inl b2))]) hokH (by simp) (by simp)
    simp -implicitDefEqProofs [go_sem, b1, b2]
    refine Wp.s ?_
    simp -implicitDefEqProofs [go_sem, b1, b2]
    exact Sh.forget (by simp [go_sem]) rfl rfl
  rintro _ e1
  dsimp only
  refine SWp.join (α := Unit) (fun _ => ([(1, .ptr H.length 0)], H ++ [some (fanC f)], V)) (fun _ => timU f f.app.length = false) ?_ ?_
  · refine SWp.seq (Wp.s ?_)
    simp -implicitDefEqProofs [go_sem]
    refine SWp.block ?_
    refine SWp.loop (α := Nat) (fun i => ([(1, .ptr H.length 0), (3, ci i)], H ++ [some (fanC f)], V)) (fun i => i ≤ f.app.length ∧ timU f i = false) (fun i => f.app.length - i) 0 ⟨Nat.zero_le _, rfl⟩ (Sh.forget (by simp [go_sem]) rfl rfl) ?_
    rintro i ⟨hi, hp⟩
    dsimp only
    refine SWp.seq (SWp.seq (Wp.s ?_))
    simp -implicitDefEqProofs [go_sem]
    refine Wp.s ?_
    simp -implicitDefEqProofs [go_sem]
    refine ⟨fun h => ?_, fun h => ?_⟩
    case refine_2 =>
      obtain rfl : i = f.app.length := by omega
      exact ⟨hp, Sh.forget (by simp [go_sem]) rfl rfl⟩
    refine SWp.seq (SWp.block (SWp.seq (Wp.s ?_)))
    by_cases c1 : f.app[i] < 0
    · simp -implicitDefEqProofs [go_sem, h, c1]
      refine Wp.s ?_
      simp -implicitDefEqProofs [go_sem]
      exact Fin.er (by rw [chkF, if_neg e0, if_pos (.inr (.inr (timU_at h (.inl c1))))]) hokH (by simp) (by simp)
    by_cases c2 : 1073741824 < f.app[i]
    · simp -implicitDefEqProofs [go_sem, h, c1, c2]
      refine Wp.s ?_
      simp -implicitDefEqProofs [go_sem]
      exact Fin.er (by rw [chkF, if_neg e0, if_pos (.inr (.inr (timU_at h (.inr c2))))]) hokH (by simp) (by simp)
    simp -implicitDefEqProofs [go_sem, h, c1, c2]
    refine Wp.s ?_
    simp -implicitDefEqProofs [go_sem]
    refine Wp.s ?_
    simp -implicitDefEqProofs [go_sem]
    refine ⟨i + 1, ⟨by omega, timU_s h hp c1 c2⟩, by omega, Sh.forget ?_ rfl rfl⟩
    simp [go_sem, wrap_succ (show i ≤ 1000000000 by omega)]
  rintro _ b3
  dsimp only
  rw [timU_all (Nat.le_refl _)] at b3
  replace e1 : ¬ (f.limit < 1 ∨ 1024 < f.limit ∨ f.app.any badTime = true) := by rw [b3]; simp; omega
  refine SWp.join (α := Unit) (fun _ => ([(1, .ptr H.length 0)], H ++ [some (fanC f)], V)) (fun _ => ¬ (f.limit < f.kept.length)) ?_ ?_
  · refine SWp.seq (Wp.s ?_)
    by_cases c1 : f.limit < f.kept.length
    · simp -implicitDefEqProofs [go_sem, c1]
      refine Wp.s ?_
      simp -implicitDefEqProofs [go_sem, c1]
      exact Fin.er (by rw [chkF, if_neg e0, if_neg e1, if_pos c1]) hokH (by simp) (by simp)
    · simp -implicitDefEqProofs [go_sem, c1]
      refine Wp.s ?_
      simp -implicitDefEqProofs [go_sem, c1]
      exact Sh.forget (by simp [go_sem]) rfl rfl
  rintro _ e2
  dsimp only
  have hl : f.lost.length = f.app.length := by omega
  have e3 : chkF f = if fstE (kErr f.kept) f.kept.length ≠ 0 then fstE (kErr f.kept) f.kept.length else if (f.app.zip f.lost).any (badT f) = true then 12 else headE f := by rw [chkF, if_neg e0, if_neg e1, if_neg e2]
  refine SWp.join (α := Unit) (fun _ => ([(1, .ptr H.length 0)], H ++ [some (fanC f)], V)) (fun _ => fstE (kErr f.kept) f.kept.length = 0) ?_ ?_
  · refine SWp.seq (Wp.s ?_)
    simp -implicitDefEqProofs [go_sem]
    refine SWp.block ?_
    refine SWp.loop (α := Nat) (fun i => ([(1, .ptr H.length 0), (4, ci i)], H ++ [some (fanC f)], V)) (fun i => i ≤ f.kept.length ∧ fstE (kErr f.kept) i = 0) (fun i => f.kept.length - i) 0 ⟨Nat.zero_le _, rfl⟩ (Sh.forget (by simp [go_sem]) rfl rfl) ?_
    rintro i ⟨hi, hp⟩
    dsimp only
    refine SWp.seq (SWp.seq (Wp.s ?_))
    simp -implicitDefEqProofs [go_sem]
    refine Wp.s ?_
    simp -implicitDefEqProofs [go_sem]
    refine ⟨fun h => ?_, fun h => ?_⟩
    case refine_2 =>
      obtain rfl : i = f.kept.length := by omega
      exact ⟨hp, Sh.forget (by simp [go_sem]) rfl rfl⟩
    obtain ⟨k1, k2, k3⟩ := hs.kc _ (List.getElem_mem h)
    refine SWp.seq (SWp.block (SWp.seq (SWp.seq (SWp.drawnT [] [] (.s 0 .pl <| .s 1 .pl <| .s 2 .pl <| .s 3 .pl <| .s 4 .pl <| .s 5 .pl <| .s 6 .pl <| .s 7 .pl <| .n) (by kernel_rfl) (by kernel_rfl) ?_))))
    simp -implicitDefEqProofs [go_sem, h]
    refine CC.mono (most_cc _ _) ?_
    rintro _ _ _ ⟨v, rfl, rfl, rfl⟩
    simp -implicitDefEqProofs [go_sem]
    refine CC.mono (refCChk_cc _ _ _ f.kept[i] mostS (by omega) k2 (by simp [mostS]) (by omega)) ?_
    rintro _ _ _ ⟨rfl, rfl, rfl⟩
    by_cases hc : chkC f.kept[i] mostS = 0
    case neg =>
      simp -implicitDefEqProofs [go_sem, hc]
      refine Wp.s ?_
      simp -implicitDefEqProofs [go_sem, hc]
      exact Fin.er (by rw [e3, fstE_at hp (by rw [kErr_chk h hc]; exact hc) h, kErr_chk h hc, if_pos hc]) hokH (by simp) (by simp)
    simp -implicitDefEqProofs [go_sem, hc]
    refine Wp.s ?_
    simp -implicitDefEqProofs [go_sem, hc]
    refine SWp.seq (SWp.drawnT [] [] (.s 0 .pl <| .s 1 .pl <| .s 2 .pl <| .s 3 .pl <| .s 4 .pl <| .s 5 .pl <| .s 6 .pl <| .s 7 .pl <| .s 8 .pl <| .s 9 .pl <| .s 10 .pl <| .s 11 .pl <| .s 12 .pl <| .s 13 .pl <| .s 14 .pl <| .s 15 .pl <| .s 16 .pl <| .s 17 .pl <| .n) (by kernel_rfl) (by kernel_rfl) ?_)
    cases i with
    | zero =>
      have z := kErr_z h hc
      simp -implicitDefEqProofs [go_sem]
      refine Wp.s ?_
      simp -implicitDefEqProofs [go_sem]
      refine Wp.s ?_
      simp -implicitDefEqProofs [go_sem]
      refine ⟨1, ⟨by omega, fstE_s hp z⟩, by omega, Sh.trim ?_ ?_ hokH ?_ (by simp) (by simp) (by simp)⟩
      · simp [go_sem, show IntKind.i64.wrap 1 = 1 from by kernel_rfl]
      · simp [go_sem, okE_ints]
      · simp [go_sem]
    | succ j =>
      have z := kErr_s h hc
      have w1 : IntKind.i64.wrap (((j + 1 : Nat) : Int) - 1) = (j : Int) := by
        rw [show ((j + 1 : Nat) : Int) - 1 = (j : Int) by omega]
        exact IntWalk.i64_in _ ⟨by omega, by omega⟩
      have w2 : IntKind.i64.wrap (j : Int) = j := IntWalk.i64_in _ ⟨by omega, by omega⟩
      have w3 : IntKind.i64.wrap ((j : Int) + 1 + 1) = (j : Int) + 1 + 1 := IntWalk.i64_in _ ⟨by omega, by omega⟩
      have hj : j < f.kept.length := by omega
      by_cases hb : f.kept[j + 1].base = f.kept[j].number
      · rw [if_pos hb] at z
        simp -implicitDefEqProofs [go_sem, h, w1, w2, hj, hb, show (0 : Int) < (j : Int) + 1 by omega, show (0 : Int) ≤ (j : Int) + 1 by omega]
        refine Wp.s ?_
        simp -implicitDefEqProofs [go_sem]
        refine Wp.s ?_
        simp -implicitDefEqProofs [go_sem]
        refine ⟨j + 1 + 1, ⟨by omega, fstE_s hp z⟩, by omega, Sh.trim ?_ ?_ hokH ?_ (by simp) (by simp) (by simp)⟩
        · simp [go_sem, w3]
        · simp [go_sem, okE_ints]
        · simp [go_sem]
      · rw [if_neg hb] at z
        simp -implicitDefEqProofs [go_sem, h, w1, w2, hj, hb, show (0 : Int) < (j : Int) + 1 by omega, show (0 : Int) ≤ (j : Int) + 1 by omega]
        refine Wp.s ?_
        simp -implicitDefEqProofs [go_sem]
        exact Fin.er (by rw [e3, fstE_at hp (by rw [z]; decide) h, z, if_pos (by decide)]) hokH (by simp) (by simp)
  rintro _ e4
  dsimp only
  rw [if_neg (by simp [e4])] at e3
  refine SWp.join (α := Unit) (fun _ => ([(1, .ptr H.length 0)], H ++ [some (fanC f)], V)) (fun _ => BadU f f.app.length = false) ?_ ?_
  · refine SWp.seq (Wp.s ?_)
    simp -implicitDefEqProofs [go_sem]
    refine SWp.block ?_
    refine SWp.loop (α := Nat) (fun i => ([(1, .ptr H.length 0), (6, ci i)], H ++ [some (fanC f)], V)) (fun i => i ≤ f.app.length ∧ BadU f i = false) (fun i => f.app.length - i) 0 ⟨Nat.zero_le _, rfl⟩ (Sh.forget (by simp [go_sem]) rfl rfl) ?_
    rintro i ⟨hi, hp⟩
    dsimp only
    refine SWp.seq (SWp.seq (Wp.s ?_))
    simp -implicitDefEqProofs [go_sem]
    refine Wp.s ?_
    simp -implicitDefEqProofs [go_sem]
    refine ⟨fun h => ?_, fun h => ?_⟩
    case refine_2 =>
      obtain rfl : i = f.app.length := by omega
      exact ⟨hp, Sh.forget (by simp [go_sem]) rfl rfl⟩
    have h2 : i < f.lost.length := by omega
    have hz : i < (f.app.zip f.lost).length := by rw [List.length_zip]; omega
    have gz : (f.app.zip f.lost)[i] = (f.app[i], f.lost[i]) := List.getElem_zip
    have bad : badT f (f.app[i], f.lost[i]) = true → chkF f = 12 := fun q => by rw [e3, if_pos (any_at hz (by rw [gz]; exact q))]
    have step : badT f (f.app[i], f.lost[i]) = false → i + 1 ≤ f.app.length ∧ BadU f (i + 1) = false := fun q => ⟨by omega, any_take hz hp (by rw [gz]; exact q)⟩
    refine SWp.seq (SWp.block (SWp.seq (SWp.drawnT [] [] (.s 0 .pl <| .s 1 .pl <| .s 2 .pl <| .s 3 .pl <| .s 4 .pl <| .s 5 .pl <| .s 6 .pl <| .s 7 .pl <| .s 8 .pl <| .s 9 .pl <| .s 10 .pl <| .s 11 .pl <| .s 12 .pl <| .s 13 .pl <| .s 14 .pl <| .s 15 .pl <| .s 16 .pl <| .s 17 .pl <| .s 18 .pl <| .s 19 .pl <| .s 20 .pl <| .s 21 .pl <| .s 22 .pl <| .s 23 .pl <| .s 24 .pl <| .s 25 .pl <| .n) (by kernel_rfl) (by kernel_rfl) ?_)))
    simp -implicitDefEqProofs [go_sem, h]
    refine CC.mono (refNewest_cc _ _ f hs) ?_
    rintro _ _ _ ⟨rfl, rfl, rfl⟩
    by_cases n1 : newF f < f.app[i]
    · simp -implicitDefEqProofs [go_sem, n1]
      refine Wp.s ?_
      simp -implicitDefEqProofs [go_sem]
      exact Fin.er (bad (by simp [badT, n1])) hokH (by simp) (by simp)
    cases hb : f.lost[i] with
    | true =>
      simp -implicitDefEqProofs [go_sem, n1, h2, hb]
      refine Wp.s ?_
      simp -implicitDefEqProofs [go_sem]
      refine Wp.s ?_
      simp -implicitDefEqProofs [go_sem]
      refine ⟨i + 1, step (by simp [badT, n1, hb]), by omega, Sh.forget ?_ rfl rfl⟩
      simp [go_sem, wrap_succ (show i ≤ 1000000000 by omega)]
    | false =>
      simp -implicitDefEqProofs [go_sem, n1, h2, hb, h]
      refine CC.mono (refBnd_cc _ _ f f.app[i] hs) ?_
      rintro _ _ _ ⟨rfl, rfl, rfl⟩
      cases hq : bndF f f.app[i] with
      | true =>
        simp -implicitDefEqProofs [go_sem]
        refine Wp.s ?_
        simp -implicitDefEqProofs [go_sem]
        refine Wp.s ?_
        simp -implicitDefEqProofs [go_sem]
        refine ⟨i + 1, step (by simp [badT, n1, hb, hq]), by omega, Sh.forget ?_ rfl rfl⟩
        simp [go_sem, wrap_succ (show i ≤ 1000000000 by omega)]
      | false =>
        simp -implicitDefEqProofs [go_sem]
        refine Wp.s ?_
        simp -implicitDefEqProofs [go_sem]
        exact Fin.er (bad (by simp [badT, n1, hb, hq])) hokH (by simp) (by simp)
  rintro _ e5
  dsimp only
  rw [badU_all hl (Nat.le_refl _)] at e5
  rw [if_neg (by simp [e5]), headE] at e3
  refine SWp.seq (SWp.seq (SWp.drawnT [] [] (.s 0 .pl <| .s 1 .pl <| .s 2 .pl <| .s 3 .pl <| .s 4 .pl <| .s 5 .pl <| .s 7 .pl <| .s 8 .pl <| .s 9 .pl <| .s 10 .pl <| .s 11 .pl <| .s 6 .pl <| .s 12 .pl <| .s 13 .pl <| .n) (by kernel_rfl) (by kernel_rfl) ?_))
  cases hk : f.kept with
  | nil =>
    rw [hk] at e3
    simp -implicitDefEqProofs [go_sem, hk]
    refine Wp.s ?_
    simp -implicitDefEqProofs [go_sem]
    refine Wp.s ?_
    simp -implicitDefEqProofs [go_sem]
    exact Fin.er e3 hokH (by simp) (by simp)
  | cons c l =>
    rw [hk] at e3
    dsimp only at e3
    simp -implicitDefEqProofs [go_sem, hk, show (0 : Int) < (l.length : Int) + 1 by omega]
    refine CC.mono (refLeast_cc _ _ .sh .sh .sh f.limit f.kept f.app f.lost hl hal) ?_
    rintro _ _ _ ⟨rfl, rfl, rfl⟩
    by_cases h : leastF f = c.base
    · rw [if_pos h] at e3
      rw [leastF_eq] at h
      simp -implicitDefEqProofs [go_sem, h]
      refine Wp.s ?_
      simp -implicitDefEqProofs [go_sem]
      refine Wp.s ?_
      simp -implicitDefEqProofs [go_sem]
      exact Fin.er e3 hokH (by simp) (by simp)
    · rw [if_neg h] at e3
      rw [leastF_eq] at h
      simp -implicitDefEqProofs [go_sem, h]
      refine Wp.s ?_
      simp -implicitDefEqProofs [go_sem]
      exact Fin.er e3 hokH (by simp) (by simp)
end Go.Proofs.YtpadnceoacbaeaaGreat
namespace Go.Proofs.YtpadnceoacbaeaaGreat
open Go.Proofs
theorem LeE.refl' : ∀ (xs : List (List CV)), LeE xs xs
  | [] => .nil
  | x :: xs => .cons (LeL.refl x) (LeE.refl' xs)
theorem LeE.snoc : ∀ (xs : List (List CV)) {x y : List CV}, LeL x y → LeE (xs ++ [x]) (xs ++ [y])
  | [], _, _, h => .cons h .nil
  | x :: xs, _, _, h => .cons (LeL.refl x) (LeE.snoc xs h)
theorem cloneInt_cc (H : Hp) (V : List Nat) (tk : Tk) (xs : List Int) (hx : xs.length ≤ 1000000000) : CC Tryz.prog 77 [.sl tk 1 (xs.map ic)] H V (Pu (.sl .sh 1 (xs.map ic)) H V) := by
  refine CC.of_swp Tryz.func77 rfl (by kernel_rfl) (by rw [Tryz.ntmps77]; exact len_le _ _ rfl) fun hok hokH => Wp.s ?_
  simp -implicitDefEqProofs [go_sem, args0]
  refine ⟨⟨by omega, ?_⟩, fun h => ?_⟩
  · exact Fin.pu (.sh ..) (by simp [go_sem, okE_ints]) hokH (by simp) (by simp)
  · obtain rfl : xs = [] := by simpa using h
    exact Fin.pu (.nil 1 (by decide)) (by simp [go_sem]) hokH (by simp) (by simp)
theorem cloneSec_cc (H : Hp) (V : List Nat) (tk : Tk) (xs : List Sec) (hx : xs.length ≤ 1000000000) : CC Tryz.prog 79 [.sl tk 8 (xs.map secC)] H V (Pu (secsV xs) H V) := by
  refine CC.of_swp Tryz.func79 rfl (by kernel_rfl) (by rw [Tryz.ntmps79]; exact len_le _ _ rfl) fun hok hokH => Wp.s ?_
  simp -implicitDefEqProofs [go_sem, args0]
  refine ⟨⟨by omega, ?_⟩, fun h => ?_⟩
  · exact Fin.pu (.sh ..) (by simp [go_sem, okE_secs]) hokH (by simp) (by simp)
  · obtain rfl : xs = [] := by simpa using h
    exact Fin.pu (.nil 8 (by decide)) (by simp [go_sem]) hokH (by simp) (by simp)
theorem cloneBo_cc (H : Hp) (V : List Nat) (tk : Tk) (l : List Bool) (h0 : l ≠ []) (hx : l.length ≤ 1000000000) : CC Tryz.prog 78 [.sl tk 1 (l.map boE)] H V (fun r H' V' => r = .bsl H.length 0 l.length 1 ∧ H' = H ++ [some (l.map cbo)] ∧ V = V') := by
  refine CC.of_swp Tryz.func78 rfl (by kernel_rfl) (by rw [Tryz.ntmps78]; exact len_le _ _ rfl) fun hok hokH => ?_
  clear hok
  have hne : l.map boE ≠ [] := by simpa using h0
  refine SWp.seq (Wp.s ?_)
  simp -implicitDefEqProofs [go_sem, args0]
  refine SWp.seq (SWp.seq (Wp.s ?_))
  simp -implicitDefEqProofs [go_sem, h0]
  refine Wp.s ?_
  simp -implicitDefEqProofs [go_sem, h0]
  refine SWp.seq (SWp.opx (pre := [_, _]) (post := [_]) rfl (by intro c e; cases e) ?_)
  simp -implicitDefEqProofs [go_sem]
  refine ⟨_, _, _, appbox (sz := 1) (tk := tk) (ys := l.map boE) slTy24 slTy24 rfl rfl hne (by rw [List.length_map]; omega), ?_⟩
  simp -implicitDefEqProofs [go_sem]
  refine Wp.s ?_
  simp -implicitDefEqProofs [go_sem]
  rw [show (List.map boE l).flatten = l.map cbo from flat_bo l]
  refine Fin.cut (H.length + 1) V.length ⟨rfl, rfl, rfl⟩ (Nat.le_succ _) (Nat.le_refl _) (List.take_of_length_le (by simp)) (List.take_of_length_le (Nat.le_refl _)) (.bsa _ _ _) (by simp [go_sem]) ?_
  intro b cs hb
  rw [List.getElem?_append] at hb
  split at hb
  · exact okL_mono (Nat.le_succ _) (Nat.le_refl _) (hokH b cs hb)
  · exact okH_get (i := H.length + 1) (j := V.length) (L := [some (l.map cbo)]) (by simp [go_sem, okL_bos]) _ _ hb
theorem cloneIB_cc (H : Hp) (V : List Nat) (tk : Tk) (l : List Int) (h0 : l ≠ []) (hx : l.length ≤ 1000000000) : CC Tryz.prog 77 [.sl tk 1 (l.map ic)] H V (fun r H' V' => r = .bsl H.length 0 l.length 1 ∧ H' = H ++ [some (l.map ci)] ∧ V = V') := by
  refine CC.of_swp Tryz.func77 rfl (by kernel_rfl) (by rw [Tryz.ntmps77]; exact len_le _ _ rfl) fun hok hokH => ?_
  clear hok
  have hne : l.map ic ≠ [] := by simpa using h0
  refine SWp.seq (Wp.s ?_)
  simp -implicitDefEqProofs [go_sem, args0]
  refine SWp.seq (SWp.seq (Wp.s ?_))
  simp -implicitDefEqProofs [go_sem, h0]
  refine Wp.s ?_
  simp -implicitDefEqProofs [go_sem, h0]
  refine SWp.seq (SWp.opx (pre := [_, _]) (post := [_]) rfl (by intro c e; cases e) ?_)
  simp -implicitDefEqProofs [go_sem]
  refine ⟨_, _, _, appbox (sz := 1) (tk := tk) (ys := l.map ic) slTy23 slTy23 rfl rfl hne (by rw [List.length_map]; omega), ?_⟩
  simp -implicitDefEqProofs [go_sem]
  refine Wp.s ?_
  simp -implicitDefEqProofs [go_sem]
  rw [show (List.map ic l).flatten = l.map ci from flat_ic l]
  refine Fin.cut (H.length + 1) V.length ⟨rfl, rfl, rfl⟩ (Nat.le_succ _) (Nat.le_refl _) (List.take_of_length_le (by simp)) (List.take_of_length_le (Nat.le_refl _)) (.bsa _ _ _) (by simp [go_sem]) ?_
  intro b cs hb
  rw [List.getElem?_append] at hb
  split at hb
  · exact okL_mono (Nat.le_succ _) (Nat.le_refl _) (hokH b cs hb)
  · exact okH_get (i := H.length + 1) (j := V.length) (L := [some (l.map ci)]) (by simp [go_sem, okL_cis]) _ _ hb
/-! ### Copies of cycles -/
structure CySm (c : Cyc) : Prop where
  wl : c.wrs.length ≤ 1000000
  ws : WrS c.wrs
  pl : c.poss.length ≤ 1000000
@[go_sem] theorem cyc_put4 (c : Cyc) (x : CV) : List.take 5 (List.take 4 (cycC c) ++ x :: List.drop 5 (cycC c)) = [ci c.base, ci c.number, ci c.time, .sl .sh 1 (c.poss.map ic), x] := rfl
@[go_sem] theorem cyc_put3 (c : Cyc) (x : CV) : List.take 3 (cycC c) ++ x :: List.drop 4 (cycC c) = [ci c.base, ci c.number, ci c.time, x, .sl .sh 3 (c.wrs.map wrC)] := rfl
def cycZ : List CV := [ci 0, ci 0, ci 0, nilS, nilS]
def wrU (l : List Wr) (i : Nat) : List (List CV) := (l.take i).map wrC
@[go_sem] theorem wrU_0 (l : List Wr) : wrU l 0 = [] := rfl
theorem wrU_len (l : List Wr) (i : Nat) (h : i ≤ l.length) : (wrU l i).length = i := by rw [wrU, List.length_map, List.length_take]; omega
@[go_sem] theorem wrU_all (l : List Wr) : wrU l l.length = l.map wrC := by rw [wrU, List.take_of_length_le (Nat.le_refl _)]
theorem wrU_s {l : List Wr} {i : Nat} (h : i < l.length) : wrU l (i + 1) = wrU l i ++ [wrC l[i]] := by
  rw [wrU, List.take_succ_eq_append_getElem h, List.map_append]; rfl
@[go_sem] theorem okE_wrU (jb jv : Nat) (l : List Wr) (i : Nat) : okE jb jv (wrU l i) = True := by rw [wrU, okE_wrs]
@[go_sem] theorem wr_put (w : Wr) : List.take 3 (List.take 2 (wrC w) ++ CV.sl .sh 8 (List.map secC w.data) :: List.drop 3 (wrC w)) = wrC w := rfl
theorem copyCyc_cc (H : Hp) (V : List Nat) (c : Cyc) (hs : CySm c) : CC Tryz.prog 40 [.agg (cycC c)] H V (Pu (.agg (cycC c)) H V) := by
  refine CC.of_swp Tryz.func40 rfl (by kernel_rfl) (by rw [Tryz.ntmps40]; exact len_le _ _ rfl) fun hok hokH => ?_
  clear hok
  have h1 := hs.wl
  have h2 := hs.ws
  have h3 := hs.pl
  refine SWp.seq (Wp.s ?_)
  simp -implicitDefEqProofs [go_sem, args0]
  refine SWp.seq (Wp.s ?_)
  simp -implicitDefEqProofs [go_sem]
  refine CC.mono (cloneInt_cc _ _ _ c.poss (by omega)) ?_
  rintro _ _ _ ⟨rfl, rfl, rfl⟩
  simp -implicitDefEqProofs [go_sem]
  refine SWp.seq (Wp.s ?_)
  simp -implicitDefEqProofs [go_sem]
  refine ⟨by omega, ?_⟩
  refine SWp.join (α := Unit) (fun _ => ([(1, .ptr H.length 0), (2, .ptr (H.length + 1) 0), (3, .sl (.own V.length c.wrs.length) 3 (c.wrs.map wrC))], H ++ [some (cycC c), some cycZ], V ++ [c.wrs.length])) (fun _ => True) ?_ ?_
  · refine SWp.seq (Wp.s ?_)
    simp -implicitDefEqProofs [go_sem]
    refine SWp.block ?_
    refine SWp.loop (α := Nat) (fun i => ([(1, .ptr H.length 0), (2, .ptr (H.length + 1) 0), (3, .sl (.own V.length i) 3 (wrU c.wrs i)), (15, .sl .sh 3 (c.wrs.map wrC)), (16, ci c.wrs.length), (17, ci i)], H ++ [some (cycC c), some cycZ], V ++ [i])) (fun i => i ≤ c.wrs.length) (fun i => c.wrs.length - i) 0 (Nat.zero_le _) (Sh.forget (by simp [go_sem]) rfl rfl) ?_
    intro i hi
    dsimp only
    refine SWp.seq (Wp.s ?_)
    simp -implicitDefEqProofs [go_sem]
    refine SWp.seq (Wp.s ?_)
    simp -implicitDefEqProofs [go_sem]
    refine ⟨fun h => ?_, fun h => ?_⟩
    case refine_2 =>
      obtain rfl : i = c.wrs.length := by omega
      exact Sh.forget (by simp [go_sem]) rfl rfl
    have hw := h2 _ (List.getElem_mem h)
    refine SWp.seq (SWp.block (SWp.seq (Wp.s ?_)))
    simp -implicitDefEqProofs [go_sem, h]
    refine SWp.seq (Wp.s ?_)
    simp -implicitDefEqProofs [go_sem]
    refine CC.mono (cloneSec_cc _ _ _ c.wrs[i].data (by omega)) ?_
    rintro _ _ _ ⟨rfl, rfl, rfl⟩
    simp -implicitDefEqProofs [go_sem]
    refine Wp.s ?_
    simp -implicitDefEqProofs [go_sem, wrU_len _ _ hi]
    refine ⟨by omega, ?_⟩
    refine Wp.s ?_
    simp -implicitDefEqProofs [go_sem]
    refine ⟨i + 1, by omega, by omega, Sh.trim ?_ ?_ hokH ?_ (by simp) (by simp) (by simp)⟩
    · simp [go_sem, wrap_succ (show i ≤ 1000000000 by omega), wrU_s h]
    · simp [go_sem, okE_wrs]
    · simp [go_sem, cycZ]
  · rintro _ -
    dsimp only
    refine SWp.seq (Wp.s ?_)
    simp -implicitDefEqProofs [go_sem]
    refine Wp.s ?_
    simp -implicitDefEqProofs [go_sem]
    refine ⟨by decide, ?_⟩
    exact Fin.pu (r0 := .agg (cycC c)) (.agg (.cons (.refl _) (.cons (.refl _) (.cons (.refl _) (.cons (.refl _) (.cons (.sh ..) .nil)))))) (by simp [go_sem]) hokH (by simp) (by simp)
theorem refCopyW_cc (H : Hp) (V : List Nat) (tk : Tk) (l : List Wr) (h1 : l.length ≤ 1000000) (h2 : WrS l) : CC Tryz.prog 87 [.sl tk 3 (l.map wrC)] H V (Pu (.sl .sh 3 (l.map wrC)) H V) := by
  refine CC.of_swp Tryz.func87 rfl (by kernel_rfl) (by rw [Tryz.ntmps87]; exact len_le _ _ rfl) fun hok hokH => ?_
  clear hok
  refine SWp.seq (Wp.s ?_)
  simp -implicitDefEqProofs [go_sem, args0]
  refine SWp.seq (Wp.s ?_)
  simp -implicitDefEqProofs [go_sem]
  refine SWp.join (α := Unit) (fun _ => ([(3, .sl (.own V.length l.length) 3 (l.map wrC))], H, V ++ [l.length])) (fun _ => True) ?_ ?_
  · refine SWp.seq (Wp.s ?_)
    simp -implicitDefEqProofs [go_sem]
    refine SWp.block ?_
    refine SWp.loop (α := Nat) (fun i => ([(0, .sl .sh 3 (l.map wrC)), (3, .sl (.own V.length i) 3 (wrU l i)), (4, ci i)], H, V ++ [i])) (fun i => i ≤ l.length) (fun i => l.length - i) 0 (Nat.zero_le _) (Sh.tokT ⟨.le (.sh ..), by simp [go_sem]⟩ rfl rfl) ?_
    intro i hi
    dsimp only
    refine SWp.seq (SWp.seq (Wp.s ?_))
    simp -implicitDefEqProofs [go_sem]
    refine Wp.s ?_
    simp -implicitDefEqProofs [go_sem]
    refine ⟨fun h => ?_, fun h => ?_⟩
    case refine_2 =>
      obtain rfl : i = l.length := by omega
      exact Sh.forget (by simp [go_sem]) rfl rfl
    have hw := h2 _ (List.getElem_mem h)
    refine SWp.seq (SWp.block (SWp.seq (Wp.s ?_)))
    simp -implicitDefEqProofs [go_sem]
    refine SWp.drawnT [] [] (.s 0 .pl <| .s 1 .pl <| .s 2 .pl <| .s 3 .pl <| .s 4 .pl <| .s 5 .pl <| .s 6 .pl <| .s 7 .pl <| .s 8 .pl <| .s 9 .pl <| .s 10 .pl <| .s 11 .pl <| .s 12 .pl <| .s 13 .pl <| .s 14 .pl <| .s 15 .pl <| .s 16 .pl <| .s 17 .pl <| .s 18 .pl <| .s 19 .pl <| .s 20 .pl <| .s 21 .pl <| .n) (by kernel_rfl) (by kernel_rfl) ?_
    simp -implicitDefEqProofs [go_sem, h, wrU_len _ _ hi]
    refine ⟨by omega, by omega, ?_⟩
    refine Wp.s ?_
    simp -implicitDefEqProofs [go_sem]
    refine ⟨i + 1, by omega, by omega, ?_⟩
    refine Sh.geT (T1 := [(0, .sl .sh 3 (l.map wrC)), (3, .sl (.own V.length (i + 1)) 3 (wrU l (i + 1))), (4, ci (i + 1 : Nat))]) (GLe.get ?_) ?_
    · simp [go_sem, wrap_succ (show i ≤ 1000000000 by omega), wrU_s h]
      exact Ge.slk (LeE.snoc _ (.cons (.refl _) (.cons (.refl _) (.cons (.sh ..) .nil))))
    · exact Sh.cut H.length (V.length + 1) (by simp [go_sem]) (Nat.le_refl _) (by omega) (by simp [go_sem, okV_slt, okE_wrs]) (fun b cs hb => okL_mono (Nat.le_refl _) (by omega) (hokH b cs hb)) (by simp) (by simp)
  · rintro _ -
    dsimp only
    refine Wp.s ?_
    simp -implicitDefEqProofs [go_sem]
    exact Fin.pu (.sh ..) (by simp [go_sem, okE_wrs]) hokH (by simp) (by simp)
theorem refCopyC_cc (H : Hp) (V : List Nat) (c : Cyc) (hs : CySm c) : CC Tryz.prog 49 [.agg (cycC c)] H V (Pu (.agg (cycC c)) H V) := by
  refine CC.of_swp Tryz.func49 rfl (by kernel_rfl) (by rw [Tryz.ntmps49]; exact len_le _ _ rfl) fun hok hokH => ?_
  clear hok
  have h1 := hs.wl
  have h2 := hs.ws
  have h3 := hs.pl
  refine SWp.seq (Wp.s ?_)
  simp -implicitDefEqProofs [go_sem, args0]
  refine SWp.seq (Wp.s ?_)
  simp -implicitDefEqProofs [go_sem]
  refine SWp.seq (Wp.s ?_)
  simp -implicitDefEqProofs [go_sem]
  refine ⟨by omega, ?_⟩
  refine SWp.seq (Wp.s ?_)
  simp -implicitDefEqProofs [go_sem]
  refine CC.mono (refCopyW_cc _ _ _ c.wrs h1 h2) ?_
  rintro _ _ _ ⟨rfl, rfl, rfl⟩
  simp -implicitDefEqProofs [go_sem]
  refine Wp.s ?_
  simp -implicitDefEqProofs [go_sem]
  exact Fin.pu (r0 := .agg (cycC c)) (.agg (.cons (.refl _) (.cons (.refl _) (.cons (.refl _) (.cons (.sh ..) (.cons (.refl _) .nil)))))) (by simp [go_sem]) hokH (by simp) (by simp)
end Go.Proofs.YtpadnceoacbaeaaGreat
namespace Go.Proofs.YtpadnceoacbaeaaGreat
open Go.Proofs
theorem Kp_one {a : Nat} {G G' : Hp} (h1 : G'[a]? = G[a]?) : Kp [a] G G' := Kp.keep fun b hb => by
  obtain rfl : b = a := by simpa using hb
  exact h1
theorem Kp_two {a b : Nat} {G G' : Hp} (h1 : G'[a]? = G[a]?) (h2 : G'[b]? = G[b]?) : Kp [a, b] G G' := Kp.keep fun x hx => by
  rcases List.mem_cons.1 hx with rfl | hx
  · exact h1
  · obtain rfl : x = b := by simpa using hx
    exact h2
def cyU (l : List Cyc) (i : Nat) : List (List CV) := (l.take i).map cycC
@[go_sem] theorem cyU_0 (l : List Cyc) : cyU l 0 = [] := rfl
theorem cyU_len (l : List Cyc) (i : Nat) (h : i ≤ l.length) : (cyU l i).length = i := by rw [cyU, List.length_map, List.length_take]; omega
@[go_sem] theorem cyU_all (l : List Cyc) : cyU l l.length = l.map cycC := by rw [cyU, List.take_of_length_le (Nat.le_refl _)]
theorem cyU_s {l : List Cyc} {i : Nat} (h : i < l.length) : cyU l (i + 1) = cyU l i ++ [cycC l[i]] := by
  rw [cyU, List.take_succ_eq_append_getElem h, List.map_append]; rfl
@[go_sem] theorem okE_cyU (jb jv : Nat) (l : List Cyc) (i : Nat) : okE jb jv (cyU l i) = True := by rw [cyU, okE_cycs]
/-- A copy: what was appended under a token, and two boxes. -/
def CopR (f : Fan) (H : Hp) (V : List Nat) : CV → Hp → List Nat → Prop := fun r H' V' => ∃ X i j v, r = .agg [ci f.limit, .sl (.own V.length v) 5 (f.kept.map cycC), .bsl (H.length + i) 0 f.app.length 1, .bsl (H.length + j) 0 f.app.length 1] ∧ H' = H ++ X ∧ V' = V ++ [v] ∧ X[i]? = some (some (f.app.map ci)) ∧ X[j]? = some (some (f.lost.map cbo)) ∧ i ≠ j
structure CpOk (f : Fan) : Prop where
  a0 : f.app ≠ []
  l0 : f.lost ≠ []
  ll : f.lost.length = f.app.length
theorem Sm.cy {f : Fan} (hs : Sm f) {i : Nat} (h : i < f.kept.length) : CySm f.kept[i] := by
  obtain ⟨a, b, c⟩ := hs.kc _ (List.getElem_mem h)
  exact ⟨a, b, c⟩

def cpH (f : Fan) (H : Hp) (K : CV) : Nat → Hp
  | 0 => H ++ [some (fanC f), some fanZ, some (f.app.map ci), some (f.lost.map cbo), some [ci f.limit, K, .bsl (H.length + 2) 0 f.app.length 1, .bsl (H.length + 3) 0 f.app.length 1]]
  | 1 => H ++ [some (fanC f), some fanZ, some (f.app.map ci), some [ci f.limit, K, .bsl (H.length + 2) 0 f.app.length 1, .bsl (H.length + 4) 0 f.app.length 1], some (f.lost.map cbo)]
  | _ => H ++ [some (fanC f), some fanZ, some [ci f.limit, K, .bsl (H.length + 3) 0 f.app.length 1, .bsl (H.length + 4) 0 f.app.length 1], some (f.app.map ci), some (f.lost.map cbo)]
def cpK : Nat → Nat
  | 0 => 4
  | 1 => 3
  | _ => 2
theorem copied_cc (H : Hp) (V : List Nat) (f : Fan) (hs : Sm f) (hc : CpOk f) : CC Tryz.prog 39 [.agg (fanC f)] H V (CopR f H V) := by
  refine CC.of_swp Tryz.func39 rfl (by kernel_rfl) (by rw [Tryz.ntmps39]; exact len_le _ _ rfl) fun hok hokH => ?_
  clear hok
  have hkl := hs.kl
  have hal := hs.al
  have hll := hs.ll
  have hl := hc.ll
  refine SWp.seq (Wp.s ?_)
  simp -implicitDefEqProofs [go_sem, args0]
  refine SWp.join (α := Nat) (fun k => ([(1, .ptr H.length 0), (2, .ptr (H.length + 1) 0), (3, .ptr (H.length + cpK k) 0)], cpH f H nilS k, V)) (fun _ => True) ?_ ?_
  · refine SWp.drawnT [H.length] [10] (.s 0 .pl <| .s 1 .pl <| .s 2 .pl <| .s 3 .pl <| .s 5 .pl <| .s 6 .pl <| .f 4 .pl (.f 7 .pl (.s 8 .pl <| .s 9 .pl <| .s 10 .st <| .n) 9 .pl (.s 7 .pl <| .s 8 .pl <| .s 10 .st <| .n)) 9 .pl (.s 4 .pl <| .s 7 .pl <| .s 8 .pl <| .s 10 .st <| .n)) (by kernel_rfl) (by kernel_rfl) ?_
    simp -implicitDefEqProofs [go_sem]
    refine ⟨?_, ?_⟩
    · refine CC.mono (cloneIB_cc _ _ _ f.app hc.a0 (by omega)) ?_
      rintro _ _ _ ⟨rfl, rfl, rfl⟩
      simp -implicitDefEqProofs [go_sem]
      refine ⟨?_, ?_⟩
      · refine CC.mono (cloneBo_cc _ _ _ f.lost hc.l0 (by omega)) ?_
        rintro _ _ _ ⟨rfl, rfl, rfl⟩
        simp -implicitDefEqProofs [go_sem, hl]
        exact ⟨Kp_one (by simp [go_sem]), 0, Sh.forget (by simp [go_sem, cpK]) (by simp [go_sem, cpH, fanZ]) rfl⟩
      · refine CC.mono (cloneBo_cc _ _ _ f.lost hc.l0 (by omega)) ?_
        rintro _ _ _ ⟨rfl, rfl, rfl⟩
        simp -implicitDefEqProofs [go_sem, hl]
        exact ⟨Kp_one (by simp [go_sem]), 1, Sh.forget (by simp [go_sem, cpK]) (by simp [go_sem, cpH, fanZ]) rfl⟩
    · refine CC.mono (cloneIB_cc _ _ _ f.app hc.a0 (by omega)) ?_
      rintro _ _ _ ⟨rfl, rfl, rfl⟩
      simp -implicitDefEqProofs [go_sem]
      refine CC.mono (cloneBo_cc _ _ _ f.lost hc.l0 (by omega)) ?_
      rintro _ _ _ ⟨rfl, rfl, rfl⟩
      simp -implicitDefEqProofs [go_sem, hl]
      exact ⟨Kp_one (by simp [go_sem]), 2, Sh.forget (by simp [go_sem, cpK]) (by simp [go_sem, cpH, fanZ]) rfl⟩
  intro k _
  match k with
  | 0 =>
    simp only [cpH, cpK]
    refine SWp.join (α := Unit) (fun _ => ([(2, .ptr (H.length + 1) 0), (3, .ptr (H.length + 4) 0)], H ++ [some (fanC f), some fanZ, some (f.app.map ci), some (f.lost.map cbo), some [ci f.limit, .sl (.own V.length f.kept.length) 5 (f.kept.map cycC), .bsl (H.length + 2) 0 f.app.length 1, .bsl (H.length + 3) 0 f.app.length 1]], V ++ [f.kept.length])) (fun _ => True) ?_ ?_
    · refine SWp.seq (Wp.s ?_)
      simp -implicitDefEqProofs [go_sem]
      refine SWp.block ?_
      refine SWp.loop (α := Nat) (fun i => ([(2, .ptr (H.length + 1) 0), (3, .ptr (H.length + 4) 0), (16, .sl .sh 5 (f.kept.map cycC)), (17, ci f.kept.length), (18, ci i)], H ++ [some (fanC f), some fanZ, some (f.app.map ci), some (f.lost.map cbo), some [ci f.limit, .sl (.own V.length i) 5 (cyU f.kept i), .bsl (H.length + 2) 0 f.app.length 1, .bsl (H.length + 3) 0 f.app.length 1]], V ++ [i])) (fun i => i ≤ f.kept.length) (fun i => f.kept.length - i) 0 (Nat.zero_le _) (Sh.tokL (b := H.length + 4) (hget _ _ 4) (ds := [ci f.limit, .sl (.own V.length 0) 5 [], .bsl (H.length + 2) 0 f.app.length 1, .bsl (H.length + 3) 0 f.app.length 1]) (by simp [go_sem]) (by simp [CV.isObj]) (by simp [go_sem]) (by simp [go_sem]) rfl) ?_
      intro i hi
      dsimp only
      refine SWp.seq (Wp.s ?_)
      simp -implicitDefEqProofs [go_sem]
      refine SWp.seq (Wp.s ?_)
      simp -implicitDefEqProofs [go_sem]
      refine ⟨fun h => ?_, fun h => ?_⟩
      case refine_2 =>
        obtain rfl : i = f.kept.length := by omega
        exact Sh.forget (by simp [go_sem]) (by simp [go_sem]) rfl
      refine SWp.seq (SWp.block (SWp.seq (Wp.s ?_)))
      simp -implicitDefEqProofs [go_sem, h]
      refine SWp.drawnT [H.length + 5] [7] (.s 0 .pl <| .s 1 .pl <| .s 2 .pl <| .s 3 .pl <| .s 4 .pl <| .s 5 .pl <| .s 6 .pl <| .s 7 .st <| .n) (by kernel_rfl) (by kernel_rfl) ?_
      simp -implicitDefEqProofs [go_sem]
      refine CC.mono (copyCyc_cc _ _ f.kept[i] (hs.cy h)) ?_
      rintro _ _ _ ⟨rfl, rfl, rfl⟩
      simp -implicitDefEqProofs [go_sem, cyU_len _ _ hi]
      refine ⟨by omega, Kp_one (by simp [go_sem]), ?_⟩
      refine Wp.s ?_
      simp -implicitDefEqProofs [go_sem]
      refine ⟨i + 1, by omega, by omega, Sh.trim ?_ ?_ hokH ?_ (by simp) (by simp [cyU_s h]) (by simp)⟩
      · simp [go_sem, wrap_succ (show i ≤ 1000000000 by omega)]
      · simp [go_sem, okE_cycs]
      · simp [go_sem, fanZ]
    · rintro _ -
      dsimp only
      refine Wp.s ?_
      simp -implicitDefEqProofs [go_sem]
      refine ⟨by decide, ?_⟩
      refine Fin.cut (H.length + 5) (V.length + 1) (r' := .agg [ci f.limit, .sl (.own V.length f.kept.length) 5 (f.kept.map cycC), .bsl (H.length + 2) 0 f.app.length 1, .bsl (H.length + 3) 0 f.app.length 1]) ⟨_, 2, 3, f.kept.length, rfl, rfl, rfl, rfl, rfl, by decide⟩ (by omega) (by omega) (List.take_of_length_le (by simp)) (List.take_of_length_le (by simp)) (.refl _) (by simp [go_sem]) ?_
      intro b cs hb
      rw [List.getElem?_append] at hb
      split at hb
      · exact okL_mono (by omega) (by omega) (hokH b cs hb)
      · exact okH_get (i := H.length + 5) (j := V.length + 1) (by simp [go_sem, fanZ]) _ _ hb
  | 1 =>
    simp only [cpH, cpK]
    refine SWp.join (α := Unit) (fun _ => ([(2, .ptr (H.length + 1) 0), (3, .ptr (H.length + 3) 0)], H ++ [some (fanC f), some fanZ, some (f.app.map ci), some [ci f.limit, .sl (.own V.length f.kept.length) 5 (f.kept.map cycC), .bsl (H.length + 2) 0 f.app.length 1, .bsl (H.length + 4) 0 f.app.length 1], some (f.lost.map cbo)], V ++ [f.kept.length])) (fun _ => True) ?_ ?_
    · refine SWp.seq (Wp.s ?_)
      simp -implicitDefEqProofs [go_sem]
      refine SWp.block ?_
      refine SWp.loop (α := Nat) (fun i => ([(2, .ptr (H.length + 1) 0), (3, .ptr (H.length + 3) 0), (16, .sl .sh 5 (f.kept.map cycC)), (17, ci f.kept.length), (18, ci i)], H ++ [some (fanC f), some fanZ, some (f.app.map ci), some [ci f.limit, .sl (.own V.length i) 5 (cyU f.kept i), .bsl (H.length + 2) 0 f.app.length 1, .bsl (H.length + 4) 0 f.app.length 1], some (f.lost.map cbo)], V ++ [i])) (fun i => i ≤ f.kept.length) (fun i => f.kept.length - i) 0 (Nat.zero_le _) (Sh.tokL (b := H.length + 3) (hget _ _ 3) (ds := [ci f.limit, .sl (.own V.length 0) 5 [], .bsl (H.length + 2) 0 f.app.length 1, .bsl (H.length + 4) 0 f.app.length 1]) (by simp [go_sem]) (by simp [CV.isObj]) (by simp [go_sem]) (by simp [go_sem]) rfl) ?_
      intro i hi
      dsimp only
      refine SWp.seq (Wp.s ?_)
      simp -implicitDefEqProofs [go_sem]
      refine SWp.seq (Wp.s ?_)
      simp -implicitDefEqProofs [go_sem]
      refine ⟨fun h => ?_, fun h => ?_⟩
      case refine_2 =>
        obtain rfl : i = f.kept.length := by omega
        exact Sh.forget (by simp [go_sem]) (by simp [go_sem]) rfl
      refine SWp.seq (SWp.block (SWp.seq (Wp.s ?_)))
      simp -implicitDefEqProofs [go_sem, h]
      refine SWp.drawnT [H.length + 5] [7] (.s 0 .pl <| .s 1 .pl <| .s 2 .pl <| .s 3 .pl <| .s 4 .pl <| .s 5 .pl <| .s 6 .pl <| .s 7 .st <| .n) (by kernel_rfl) (by kernel_rfl) ?_
      simp -implicitDefEqProofs [go_sem]
      refine CC.mono (copyCyc_cc _ _ f.kept[i] (hs.cy h)) ?_
      rintro _ _ _ ⟨rfl, rfl, rfl⟩
      simp -implicitDefEqProofs [go_sem, cyU_len _ _ hi]
      refine ⟨by omega, Kp_one (by simp [go_sem]), ?_⟩
      refine Wp.s ?_
      simp -implicitDefEqProofs [go_sem]
      refine ⟨i + 1, by omega, by omega, Sh.trim ?_ ?_ hokH ?_ (by simp) (by simp [cyU_s h]) (by simp)⟩
      · simp [go_sem, wrap_succ (show i ≤ 1000000000 by omega)]
      · simp [go_sem, okE_cycs]
      · simp [go_sem, fanZ]
    · rintro _ -
      dsimp only
      refine Wp.s ?_
      simp -implicitDefEqProofs [go_sem]
      refine ⟨by decide, ?_⟩
      refine Fin.cut (H.length + 5) (V.length + 1) (r' := .agg [ci f.limit, .sl (.own V.length f.kept.length) 5 (f.kept.map cycC), .bsl (H.length + 2) 0 f.app.length 1, .bsl (H.length + 4) 0 f.app.length 1]) ⟨_, 2, 4, f.kept.length, rfl, rfl, rfl, rfl, rfl, by decide⟩ (by omega) (by omega) (List.take_of_length_le (by simp)) (List.take_of_length_le (by simp)) (.refl _) (by simp [go_sem]) ?_
      intro b cs hb
      rw [List.getElem?_append] at hb
      split at hb
      · exact okL_mono (by omega) (by omega) (hokH b cs hb)
      · exact okH_get (i := H.length + 5) (j := V.length + 1) (by simp [go_sem, fanZ]) _ _ hb
  | _ + 2 =>
    simp only [cpH, cpK]
    refine SWp.join (α := Unit) (fun _ => ([(2, .ptr (H.length + 1) 0), (3, .ptr (H.length + 2) 0)], H ++ [some (fanC f), some fanZ, some [ci f.limit, .sl (.own V.length f.kept.length) 5 (f.kept.map cycC), .bsl (H.length + 3) 0 f.app.length 1, .bsl (H.length + 4) 0 f.app.length 1], some (f.app.map ci), some (f.lost.map cbo)], V ++ [f.kept.length])) (fun _ => True) ?_ ?_
    · refine SWp.seq (Wp.s ?_)
      simp -implicitDefEqProofs [go_sem]
      refine SWp.block ?_
      refine SWp.loop (α := Nat) (fun i => ([(2, .ptr (H.length + 1) 0), (3, .ptr (H.length + 2) 0), (16, .sl .sh 5 (f.kept.map cycC)), (17, ci f.kept.length), (18, ci i)], H ++ [some (fanC f), some fanZ, some [ci f.limit, .sl (.own V.length i) 5 (cyU f.kept i), .bsl (H.length + 3) 0 f.app.length 1, .bsl (H.length + 4) 0 f.app.length 1], some (f.app.map ci), some (f.lost.map cbo)], V ++ [i])) (fun i => i ≤ f.kept.length) (fun i => f.kept.length - i) 0 (Nat.zero_le _) (Sh.tokL (b := H.length + 2) (hget _ _ 2) (ds := [ci f.limit, .sl (.own V.length 0) 5 [], .bsl (H.length + 3) 0 f.app.length 1, .bsl (H.length + 4) 0 f.app.length 1]) (by simp [go_sem]) (by simp [CV.isObj]) (by simp [go_sem]) (by simp [go_sem]) rfl) ?_
      intro i hi
      dsimp only
      refine SWp.seq (Wp.s ?_)
      simp -implicitDefEqProofs [go_sem]
      refine SWp.seq (Wp.s ?_)
      simp -implicitDefEqProofs [go_sem]
      refine ⟨fun h => ?_, fun h => ?_⟩
      case refine_2 =>
        obtain rfl : i = f.kept.length := by omega
        exact Sh.forget (by simp [go_sem]) (by simp [go_sem]) rfl
      refine SWp.seq (SWp.block (SWp.seq (Wp.s ?_)))
      simp -implicitDefEqProofs [go_sem, h]
      refine SWp.drawnT [H.length + 5] [7] (.s 0 .pl <| .s 1 .pl <| .s 2 .pl <| .s 3 .pl <| .s 4 .pl <| .s 5 .pl <| .s 6 .pl <| .s 7 .st <| .n) (by kernel_rfl) (by kernel_rfl) ?_
      simp -implicitDefEqProofs [go_sem]
      refine CC.mono (copyCyc_cc _ _ f.kept[i] (hs.cy h)) ?_
      rintro _ _ _ ⟨rfl, rfl, rfl⟩
      simp -implicitDefEqProofs [go_sem, cyU_len _ _ hi]
      refine ⟨by omega, Kp_one (by simp [go_sem]), ?_⟩
      refine Wp.s ?_
      simp -implicitDefEqProofs [go_sem]
      refine ⟨i + 1, by omega, by omega, Sh.trim ?_ ?_ hokH ?_ (by simp) (by simp [cyU_s h]) (by simp)⟩
      · simp [go_sem, wrap_succ (show i ≤ 1000000000 by omega)]
      · simp [go_sem, okE_cycs]
      · simp [go_sem, fanZ]
    · rintro _ -
      dsimp only
      refine Wp.s ?_
      simp -implicitDefEqProofs [go_sem]
      refine ⟨by decide, ?_⟩
      refine Fin.cut (H.length + 5) (V.length + 1) (r' := .agg [ci f.limit, .sl (.own V.length f.kept.length) 5 (f.kept.map cycC), .bsl (H.length + 3) 0 f.app.length 1, .bsl (H.length + 4) 0 f.app.length 1]) ⟨_, 3, 4, f.kept.length, rfl, rfl, rfl, rfl, rfl, by decide⟩ (by omega) (by omega) (List.take_of_length_le (by simp)) (List.take_of_length_le (by simp)) (.refl _) (by simp [go_sem]) ?_
      intro b cs hb
      rw [List.getElem?_append] at hb
      split at hb
      · exact okL_mono (by omega) (by omega) (hokH b cs hb)
      · exact okH_get (i := H.length + 5) (j := V.length + 1) (by simp [go_sem, fanZ]) _ _ hb
end Go.Proofs.YtpadnceoacbaeaaGreat
namespace Go.Proofs.YtpadnceoacbaeaaGreat
open Go.Proofs
theorem refCopy_cc (H : Hp) (V : List Nat) (f : Fan) (hs : Sm f) (hc : CpOk f) : CC Tryz.prog 48 [.agg (fanC f)] H V (CopR f H V) := by
  refine CC.of_swp Tryz.func48 rfl (by kernel_rfl) (by rw [Tryz.ntmps48]; exact len_le _ _ rfl) fun hok hokH => ?_
  clear hok
  have hkl := hs.kl
  have hal := hs.al
  have hll := hs.ll
  have hl := hc.ll
  have ha0 := hc.a0
  have hl0 := hc.l0
  refine SWp.seq (Wp.s ?_)
  simp -implicitDefEqProofs [go_sem, args0]
  refine SWp.seq (Wp.s ?_)
  simp -implicitDefEqProofs [go_sem]
  refine SWp.join (α := Unit) (fun _ => ([(1, .ptr H.length 0), (2, .ptr (H.length + 1) 0), (3, .ptr (H.length + 2) 0)], H ++ [some (fanC f), some fanZ, some [ci f.limit, .sl (.own V.length f.kept.length) 5 (f.kept.map cycC), nilS, nilS]], V ++ [f.kept.length])) (fun _ => True) ?_ ?_
  · refine SWp.seq (Wp.s ?_)
    simp -implicitDefEqProofs [go_sem]
    refine SWp.block ?_
    refine SWp.loop (α := Nat) (fun i => ([(1, .ptr H.length 0), (2, .ptr (H.length + 1) 0), (3, .ptr (H.length + 2) 0), (4, ci i)], H ++ [some (fanC f), some fanZ, some [ci f.limit, .sl (.own V.length i) 5 (cyU f.kept i), nilS, nilS]], V ++ [i])) (fun i => i ≤ f.kept.length) (fun i => f.kept.length - i) 0 (Nat.zero_le _) (Sh.tokL (b := H.length + 2) (hget _ _ 2) (ds := [ci f.limit, .sl (.own V.length 0) 5 [], nilS, nilS]) (by simp [go_sem]) (by simp [CV.isObj]) (by simp [go_sem]) (by simp [go_sem, fanZ]) rfl) ?_
    intro i hi
    dsimp only
    refine SWp.seq (SWp.seq (Wp.s ?_))
    simp -implicitDefEqProofs [go_sem]
    refine Wp.s ?_
    simp -implicitDefEqProofs [go_sem]
    refine ⟨fun h => ?_, fun h => ?_⟩
    case refine_2 =>
      obtain rfl : i = f.kept.length := by omega
      exact Sh.forget (by simp [go_sem]) (by simp [go_sem]) rfl
    refine SWp.seq (SWp.block ?_)
    refine SWp.drawnT [H.length] [11] (.s 0 .pl <| .s 1 .pl <| .s 2 .pl <| .s 3 .pl <| .s 4 .pl <| .s 5 .pl <| .s 6 .pl <| .s 7 .pl <| .s 8 .pl <| .s 9 .pl <| .s 10 .pl <| .s 11 .st <| .n) (by kernel_rfl) (by kernel_rfl) ?_
    simp -implicitDefEqProofs [go_sem, h]
    refine CC.mono (refCopyC_cc _ _ f.kept[i] (hs.cy h)) ?_
    rintro _ _ _ ⟨rfl, rfl, rfl⟩
    simp -implicitDefEqProofs [go_sem, cyU_len _ _ hi]
    refine ⟨by omega, Kp_one (by simp [go_sem]), ?_⟩
    refine Wp.s ?_
    simp -implicitDefEqProofs [go_sem]
    refine ⟨i + 1, by omega, by omega, Sh.forget ?_ (by simp [cyU_s h]) (by simp)⟩
    simp [go_sem, wrap_succ (show i ≤ 1000000000 by omega)]
  rintro _ -
  dsimp only
  refine SWp.seq (SWp.opx (pre := [_, _, _, _]) (post := [_, _]) rfl (by intro c e; cases e) ?_)
  simp -implicitDefEqProofs [go_sem]
  refine ⟨_, _, _, appboxN (sz := 1) (tk := .sh) (ys := f.app.map ic) slTy23 slTy23 (by decide) rfl rfl (by simpa using ha0) (by rw [List.length_map]; omega), ?_⟩
  rw [flat_ic]
  simp -implicitDefEqProofs [go_sem]
  refine SWp.seq (SWp.opx (pre := [_, _, _, _]) (post := [_, _]) rfl (by intro c e; cases e) ?_)
  simp -implicitDefEqProofs [go_sem]
  refine ⟨_, _, _, appboxN (sz := 1) (tk := .sh) (ys := f.lost.map boE) slTy24 slTy24 (by decide) rfl rfl (by simpa using hl0) (by rw [List.length_map]; omega), ?_⟩
  rw [flat_bo]
  simp -implicitDefEqProofs [go_sem]
  refine Wp.s ?_
  simp -implicitDefEqProofs [go_sem]
  refine ⟨by decide, ?_⟩
  refine Fin.cut (H.length + 5) (V.length + 1) (r' := .agg [ci f.limit, .sl (.own V.length f.kept.length) 5 (f.kept.map cycC), .bsl (H.length + 3) 0 f.app.length 1, .bsl (H.length + 4) 0 f.app.length 1]) ⟨_, 3, 4, f.kept.length, rfl, rfl, rfl, rfl, rfl, by decide⟩ (by omega) (by omega) (List.take_of_length_le (by simp)) (List.take_of_length_le (by simp)) (.agg (.cons (.refl _) (.cons (.refl _) (.cons (.bsa _ _ _) (.cons (by rw [hl]; exact .bsa _ _ _) .nil))))) (by simp [go_sem]) ?_
  intro b cs hb
  rw [List.getElem?_append] at hb
  split at hb
  · exact okL_mono (by omega) (by omega) (hokH b cs hb)
  · exact okH_get (i := H.length + 5) (j := V.length + 1) (by simp [go_sem, fanZ, okV]) _ _ hb
/-! ### Cycles that nobody needs -/
theorem tidy1_cc (H : Hp) (V : List Nat) (c : Cyc) (b : Nat) (n : Int) (hb : H[b]? = some (some [ci n])) : CC Tryz.prog 80 [.agg (cycC c), .ptr b 0] H V (Pu (cb (needK n c)) H V) := by
  refine CC.of_swp Tryz.func80 rfl (by kernel_rfl) (by rw [Tryz.ntmps80]; exact len_le _ _ rfl) fun hok hokH => ?_
  clear hok
  refine SWp.seq (Wp.s ?_)
  simp -implicitDefEqProofs [go_sem, args0]
  by_cases h : 0 ≤ n
  · refine Wp.s ?_
    simp -implicitDefEqProofs [go_sem, hbx_of (at_old _ [some (cycC c)] hb), h]
    exact Fin.bool (by simp [needK, h]) hokH (by simp) (by simp)
  · refine Wp.s ?_
    simp -implicitDefEqProofs [go_sem, hbx_of (at_old _ [some (cycC c)] hb), h]
    exact Fin.bool (by simp [needK, h]) hokH (by simp) (by simp)
@[go_sem] theorem fan_put1 (f : Fan) (x : CV) : List.take 1 (fanC f) ++ x :: List.drop 2 (fanC f) = [ci f.limit, x, .sl .sh 1 (f.app.map ic), .sl .sh 1 (f.lost.map boE)] := rfl
theorem tidy_le (f : Fan) (l : List Cyc) (h : l = tidyK (leastF f) f.kept) : [ci f.limit, .sl .sh 5 (l.map cycC), .sl .sh 1 (f.app.map ic), .sl .sh 1 (f.lost.map boE)] = fanC (tidyF f) := by subst h; rfl
theorem tidy_cc (H : Hp) (V : List Nat) (f : Fan) (hs : Sm f) (hl : f.lost.length = f.app.length) : CC Tryz.prog 41 [.agg (fanC f)] H V (Pu (.agg (fanC (tidyF f))) H V) := by
  refine CC.of_swp Tryz.func41 rfl (by kernel_rfl) (by rw [Tryz.ntmps41]; exact len_le _ _ rfl) fun hok hokH => ?_
  clear hok
  have hkl := hs.kl
  have hal := hs.al
  refine SWp.seq (Wp.s ?_)
  simp -implicitDefEqProofs [go_sem, args0]
  refine SWp.seq (Wp.s ?_)
  simp -implicitDefEqProofs [go_sem]
  refine CC.mono (oldest_cc _ _ .sh .sh .sh f.limit f.kept f.app f.lost hl hal) ?_
  rintro _ _ _ ⟨rfl, rfl, rfl⟩
  rw [← leastF_eq]
  simp -implicitDefEqProofs [go_sem]
  refine SWp.seq (Wp.s ?_)
  simp -implicitDefEqProofs [go_sem]
  refine SWp.seq (Wp.s ?_)
  simp -implicitDefEqProofs [go_sem]
  refine CC.mono (indexCyc_cc _ _ _ f.kept _ _ (needK (leastF f)) (fun a ha => tidy1_cc _ _ a _ (leastF f) (by simp [go_sem])) (by omega)) ?_
  rintro _ _ _ ⟨rfl, rfl, rfl⟩
  simp -implicitDefEqProofs [go_sem]
  rcases ixOf_drop (p := needK (leastF f)) (l := f.kept) (k := 0) with ⟨j, h0, h1, h2⟩ | ⟨h1, h2⟩
  · rw [Nat.zero_add] at h1
    have e : (f.kept.map cycC).drop j = (tidyK (leastF f) f.kept).map cycC := by rw [← List.map_drop, h2]; rfl
    refine SWp.seq (Wp.s ?_)
    simp -implicitDefEqProofs [go_sem, h1, show ¬ (j : Int) < 0 by omega]
    refine Wp.s ?_
    simp -implicitDefEqProofs [go_sem, e, show j ≤ f.kept.length by omega]
    rw [tidy_le f _ rfl]
    exact Fin.pu (r0 := .agg (fanC (tidyF f))) (.refl _) (by simp [go_sem]) hokH (by simp) (by simp)
  · have e : (f.kept.map cycC).drop f.kept.length = (tidyK (leastF f) f.kept).map cycC := by
      rw [show tidyK (leastF f) f.kept = [] from h2, List.drop_of_length_le (by simp)]; rfl
    refine SWp.seq (Wp.s ?_)
    simp -implicitDefEqProofs [go_sem, h1]
    refine Wp.s ?_
    simp -implicitDefEqProofs [go_sem, e]
    rw [tidy_le f _ rfl]
    exact Fin.pu (r0 := .agg (fanC (tidyF f))) (.refl _) (by simp [go_sem]) hokH (by simp) (by simp)
theorem refTidy_cc (H : Hp) (V : List Nat) (f : Fan) (hs : Sm f) (hl : f.lost.length = f.app.length) : CC Tryz.prog 50 [.agg (fanC f)] H V (Pu (.agg (fanC (tidyF f))) H V) := by
  refine CC.of_swp Tryz.func50 rfl (by kernel_rfl) (by rw [Tryz.ntmps50]; exact len_le _ _ rfl) fun hok hokH => ?_
  clear hok
  have hkl := hs.kl
  have hal := hs.al
  refine SWp.seq (Wp.s ?_)
  simp -implicitDefEqProofs [go_sem, args0]
  refine SWp.seq (Wp.s ?_)
  simp -implicitDefEqProofs [go_sem]
  refine CC.mono (refLeast_cc _ _ .sh .sh .sh f.limit f.kept f.app f.lost hl hal) ?_
  rintro _ _ _ ⟨rfl, rfl, rfl⟩
  rw [← leastF_eq]
  simp -implicitDefEqProofs [go_sem]
  refine SWp.join (α := Unit) (fun _ => ([(1, .ptr H.length 0), (2, .ptr (H.length + 1) 0)], H ++ [some (fanC (tidyF f)), some fanZ], V)) (fun _ => True) ?_ ?_
  · refine SWp.block ?_
    refine SWp.loop (α := List Cyc) (fun l => ([(1, .ptr H.length 0), (2, .ptr (H.length + 1) 0), (3, ci (leastF f))], H ++ [some (fanC ⟨f.limit, l, f.app, f.lost⟩), some fanZ], V)) (fun l => tidyK (leastF f) l = tidyK (leastF f) f.kept) (fun l => l.length) f.kept rfl (Sh.forget (by simp [go_sem]) rfl rfl) ?_
    intro l hl2
    dsimp only
    refine SWp.seq (SWp.seq (Wp.s ?_))
    cases l with
    | nil =>
      simp -implicitDefEqProofs [go_sem]
      refine Wp.s ?_
      simp -implicitDefEqProofs [go_sem]
      refine Sh.forget (by simp [go_sem]) ?_ rfl
      rw [tidyF, ← hl2]; rfl
    | cons c l =>
      rw [tidyK, List.dropWhile_cons] at hl2
      by_cases q1 : leastF f < 0
      · simp -implicitDefEqProofs [go_sem, q1, show (0 : Int) < (l.length : Int) + 1 by omega]
        refine Wp.s ?_
        simp -implicitDefEqProofs [go_sem]
        refine SWp.block (Wp.s ?_)
        simp -implicitDefEqProofs [go_sem]
        refine ⟨l, ?_, by omega, Sh.forget (by simp [go_sem]) rfl rfl⟩
        rw [← hl2, if_pos (by simp [needK]; omega)]; rfl
      by_cases q2 : c.number ≤ leastF f
      · simp -implicitDefEqProofs [go_sem, q1, q2, show (0 : Int) < (l.length : Int) + 1 by omega]
        refine Wp.s ?_
        simp -implicitDefEqProofs [go_sem]
        refine SWp.block (Wp.s ?_)
        simp -implicitDefEqProofs [go_sem]
        refine ⟨l, ?_, by omega, Sh.forget (by simp [go_sem]) rfl rfl⟩
        rw [← hl2, if_pos (by simp [needK]; omega)]; rfl
      · simp -implicitDefEqProofs [go_sem, q1, q2, show (0 : Int) < (l.length : Int) + 1 by omega]
        refine Wp.s ?_
        simp -implicitDefEqProofs [go_sem]
        refine Sh.forget (by simp [go_sem]) ?_ rfl
        rw [if_neg (by simp [needK]; omega)] at hl2
        rw [tidyF, ← hl2]
  rintro _ -
  dsimp only
  refine Wp.s ?_
  simp -implicitDefEqProofs [go_sem]
  refine ⟨by decide, ?_⟩
  exact Fin.pu (r0 := .agg (fanC (tidyF f))) (.refl _) (by simp [go_sem]) hokH (by simp) (by simp)
/-- Boxes that are handed over are let go. -/
theorem CC.letFan {P : Program} {g : FuncId} {H : Hp} {V : List Nat} {R : CV → Hp → List Nat → Prop} {lim : Int} {b1 b2 n : Nat} {kept : List Cyc} {app : List Int} {lost : List Bool} {tk : Tk} (hn : app.length = n) (hl : lost.length = n) (hb1 : H[b1]? = some (some (app.map ci))) (hb2 : H[b2]? = some (some (lost.map cbo))) (hne : b1 ≠ b2)
    (hc : CC P g [.agg (fanC ⟨lim, kept, app, lost⟩)] ((H.set b1 none).set b2 none) V R) : CC P g [.agg [ci lim, .sl tk 5 (kept.map cycC), .bsl b1 0 n 1, .bsl b2 0 n 1]] H V R := by
  have e1 : chunks 1 n ((app.map ci).drop 0) = app.map ic := by
    have := chunks_1 (app.map ci)
    rw [List.length_map, hn] at this
    rw [List.drop_zero, this, map_ci]
  have e2 : chunks 1 n ((lost.map cbo).drop 0) = lost.map boE := by
    have := chunks_1 (lost.map cbo)
    rw [List.length_map, hl] at this
    rw [List.drop_zero, this, map_cbo]
  refine CC.let_go [.agg [ci lim, .sl tk 5 (kept.map cycC), .sl .sh 1 (app.map ic), .bsl b2 0 n 1]] b1 _ hb1 (.cons (.agg (.cons (.refl _) (.cons (.refl _) (.cons ?_ (.cons (.refl _) .nil))))) .nil) ?_
  · rw [← e1]; exact .bsl 0 n 1 (by rw [List.length_map]; omega)
  refine CC.let_go [.agg [ci lim, .sl tk 5 (kept.map cycC), .sl .sh 1 (app.map ic), .sl .sh 1 (lost.map boE)]] b2 (lost.map cbo) (by rw [List.getElem?_set_ne hne]; exact hb2) (.cons (.agg (.cons (.refl _) (.cons (.refl _) (.cons (.refl _) (.cons ?_ .nil))))) .nil) ?_
  · rw [← e2]; exact .bsl 0 n 1 (by rw [List.length_map]; omega)
  exact CC.le (.cons (.agg (.cons (.refl _) (.cons (.sh ..) (.cons (.refl _) (.cons (.refl _) .nil))))) .nil) hc
end Go.Proofs.YtpadnceoacbaeaaGreat
