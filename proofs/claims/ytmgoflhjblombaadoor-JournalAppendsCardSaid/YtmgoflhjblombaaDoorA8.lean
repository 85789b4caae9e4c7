import Derived.Test.YtmgoflhjblombaaDoorA7
set_option linter.unusedSimpArgs false
set_option linter.unusedVariables false
set_option linter.unusedSectionVars false
namespace Go.Proofs.YtmgoflhjblombaaDoor
open Go.Proofs
theorem nxJ_eq (j : Jrn) : decide (nxJ j = nxJ j) = true := decide_eq_true rfl
set_option maxRecDepth 8000 in
theorem Appends_law (H : Hp) (V : List Nat) (j : Jrn) (kind : Int) (p : List UInt8) : CC Tryd.prog 4 [.agg (jrC j), iv kind, .sl .sh 1 (bs p)] H V (Pu (cb true) H V) := by
  refine CC.of_swp Tryd.func4 rfl (by kernel_rfl) (by rw [Tryd.ntmps4]; exact len_le _ _ rfl) fun hok hokH => ?_
  clear hok
  refine SWp.seq (Wp.s ?_)
  simp -implicitDefEqProofs [go_sem, args0]
  refine SWp.join (α := Unit) (fun _ => ([(1, iv kind), (2, .sl .sh 1 (bs p)), (3, .ptr H.length 0)], H ++ [some (jrC j)], V)) (fun _ => j.sizes.length ≤ 40 ∧ p.length ≤ 200) ?_ ?_
  · refine SWp.seq (Wp.s ?_)
    simp -implicitDefEqProofs [go_sem]
    refine CC.le (ys := [.agg (jrC j), .agg (dkC ⟨[], []⟩)]) (.cons (.refl _) (.cons (.agg (.cons (.nil 8 (by decide)) (.cons (.nil 9 (by decide)) .nil))) .nil)) ?_
    refine CC.mono (few_cc _ _ j ⟨[], []⟩) ?_
    rintro _ _ _ ⟨rfl, rfl, rfl⟩
    by_cases c1 : j.sizes.length ≤ 40
    case neg =>
      simp -implicitDefEqProofs [go_sem, c1]
      refine Wp.s ?_
      simp -implicitDefEqProofs [go_sem]
      refine CC.mono (awake_cc _ _) ?_
      rintro _ _ _ ⟨rfl, rfl, rfl⟩
      simp -implicitDefEqProofs [go_sem]
      exact Fin.bool rfl hokH (by simp) (by simp)
    by_cases c2 : 200 < p.length
    · have c2' : 200 < (p.length : Int) := by omega
      simp -implicitDefEqProofs [go_sem, c1, c2']
      refine Wp.s ?_
      simp -implicitDefEqProofs [go_sem]
      refine CC.mono (awake_cc _ _) ?_
      rintro _ _ _ ⟨rfl, rfl, rfl⟩
      simp -implicitDefEqProofs [go_sem]
      exact Fin.bool rfl hokH (by simp) (by simp)
    have c2' : ¬ 200 < (p.length : Int) := by omega
    simp -implicitDefEqProofs [go_sem, c1, c2']
    refine Wp.s ?_
    simp -implicitDefEqProofs [go_sem]
    exact ⟨by omega, Sh.forget (by simp [go_sem]) rfl rfl⟩
  rintro _ ⟨hl, hp⟩
  dsimp only
  have hj := appJ_jl (j := j) (k := kind) (p := p) (by omega)
  obtain ⟨ho1, ho2⟩ := appJ_ol j kind p
  have hl9 : j.sizes.length ≤ 1000000000 := by omega
  refine SWp.seq (Wp.s ?_)
  simp -implicitDefEqProofs [go_sem]
  refine CC.mono (Append_cc _ _ j kind p hl9 (by omega)) ?_
  rintro _ _ _ ⟨rfl, rfl, rfl⟩
  simp -implicitDefEqProofs [go_sem, jtV]
  refine SWp.seq (Wp.s ?_)
  simp -implicitDefEqProofs [go_sem]
  refine CC.mono (refAppend_cc _ _ j kind p hl9 (by omega)) ?_
  rintro _ _ _ ⟨rfl, rfl, rfl⟩
  simp -implicitDefEqProofs [go_sem, jtV]
  refine SWp.seq (SWp.seq (Wp.s ?_))
  simp -implicitDefEqProofs [go_sem]
  refine CC.mono (Same_cc _ _ _ hj) ?_
  rintro _ _ _ ⟨rfl, rfl, rfl⟩
  simp -implicitDefEqProofs [go_sem]
  refine CC.mono (sSameOps_cc _ _ .sh .sh _ ho1 ho2) ?_
  rintro _ _ _ ⟨rfl, rfl, rfl⟩
  simp -implicitDefEqProofs [go_sem]
  refine Wp.s ?_
  simp -implicitDefEqProofs [go_sem]
  refine SWp.seq (SWp.drawnT [] [] (.s 0 .pl <| .s 1 .pl <| .s 2 .pl <| .s 4 .pl <| .s 3 .pl <| .s 5 .pl <| .s 6 .pl <| .s 7 .pl <| .s 8 .pl <| .s 9 .pl <| .s 11 .pl <| .s 10 .pl <| .s 12 .pl <| .s 13 .pl <| .s 14 .pl <| .s 15 .pl <| .s 16 .pl <| .s 18 .pl <| .s 17 .pl <| .s 19 .pl <| .s 20 .pl <| .s 21 .pl <| .s 22 .pl <| .n) (by kernel_rfl) (by kernel_rfl) ?_)
  simp -implicitDefEqProofs [go_sem]
  refine CC.mono (awake_cc _ _) ?_
  rintro _ _ _ ⟨rfl, rfl, rfl⟩
  simp -implicitDefEqProofs [go_sem]
  refine CC.mono (JCheck_cc _ _ j hl9) ?_
  rintro _ _ _ ⟨rfl, rfl, rfl⟩
  simp -implicitDefEqProofs [go_sem]
  refine CC.mono (refCheck_cc _ _ j hl9) ?_
  rintro _ _ _ ⟨rfl, rfl, rfl⟩
  simp -implicitDefEqProofs [go_sem]
  refine CC.mono (JNext_cc _ _ j hl9) ?_
  rintro _ _ _ ⟨rfl, rfl, rfl⟩
  simp -implicitDefEqProofs [go_sem]
  refine CC.mono (refNext_cc _ _ j hl9) ?_
  rintro _ _ _ ⟨rfl, rfl, rfl⟩
  simp -implicitDefEqProofs [go_sem]
  refine CC.mono (JFree_cc _ _ j hl9) ?_
  rintro _ _ _ ⟨rfl, rfl, rfl⟩
  simp -implicitDefEqProofs [go_sem]
  refine CC.mono (refFree_cc _ _ j hl9) ?_
  rintro _ _ _ ⟨rfl, rfl, rfl⟩
  simp -implicitDefEqProofs [go_sem]
  refine Wp.s ?_
  simp -implicitDefEqProofs [go_sem]
  exact Fin.bool rfl hokH (by simp) (by simp)
end Go.Proofs.YtmgoflhjblombaaDoor
namespace Go.Proofs.YtmgoflhjblombaaDoor
open Go.Proofs
theorem opens_sl {t e sz : Nat} {α : Type} {f : α → List CV} (ht : Tryd.prog.underlying t = some (.slice e)) (hs : Tryd.prog.cellsOf e = sz) (h0 : 0 < sz) (he : Opens Tryd.prog e fun cs => ∃ a, cs = f a) :
    Opens Tryd.prog t fun cs => ∃ l : List α, cs = [.sl .sh sz (l.map f)] ∧ l.length ≤ maxLen :=
  (Opens.slice ht hs h0 he).mono fun _ ⟨xs, h, hl, hx⟩ => by
    obtain ⟨ys, rfl⟩ := exMap hx
    exact ⟨ys, h, by simpa using hl⟩
theorem opens_u8 : Opens Tryd.prog 5 fun cs => ∃ b, cs = u8 b :=
  (Opens.int Tryd.underlying5).mono fun _ ⟨n, h, hw⟩ => ⟨byt n, by
    simp only [Lit.wf, Bool.and_eq_true, decide_eq_true_eq] at hw
    have h1 : 0 ≤ n := hw.1
    have h2 : n ≤ 255 := hw.2
    rw [h, u8, byt_toNat, Int.emod_eq_of_lt h1 (by omega)]⟩
theorem opens_bytes : Opens Tryd.prog 37 fun cs => ∃ l : List UInt8, cs = [.sl .sh 1 (bs l)] ∧ l.length ≤ maxLen := opens_sl Tryd.underlying37 (by kernel_rfl) (by decide) opens_u8
theorem opens_ints : Opens Tryd.prog 25 fun cs => ∃ l : List Int, cs = [.sl .sh 1 (l.map ic)] ∧ l.length ≤ maxLen := opens_sl Tryd.underlying25 (by kernel_rfl) (by decide) opens_int
theorem opens_jr : Opens Tryd.prog 27 fun cs => ∃ j, cs = jrC j :=
  (Opens.struct Tryd.underlying27 (N := 6) (by kernel_rfl) (.cons rfl (n := 2) (by kernel_rfl) opens_rgn (.cons rfl (n := 1) (by kernel_rfl) opens_int (.cons rfl (n := 1) (by kernel_rfl) opens_int (.cons rfl (n := 1) (by kernel_rfl) opens_int (.cons rfl (n := 1) (by kernel_rfl) opens_ints .nil)))))).mono fun cs h => by
    obtain ⟨_, _, rfl, ⟨r, rfl⟩, _, _, rfl, ⟨a, rfl⟩, _, _, rfl, ⟨b, rfl⟩, _, _, rfl, ⟨c, rfl⟩, _, _, rfl, ⟨l, rfl, _⟩, rfl⟩ := h
    exact ⟨⟨r.s, r.c, a, b, c, l⟩, rfl⟩
theorem Appends_lawR (j : Jrn) (k : Int) (p : List UInt8) : CC Tryd.prog 4 [.agg (jrC j), ci k, .sl .sh 1 (bs p)] [] [] (Pu (cb true) [] []) := Appends_law [] [] j k p
end Go.Proofs.YtmgoflhjblombaaDoor
