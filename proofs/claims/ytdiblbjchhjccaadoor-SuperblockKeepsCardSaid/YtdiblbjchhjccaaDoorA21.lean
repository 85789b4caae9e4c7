import Derived.Test.YtdiblbjchhjccaaDoorA20
set_option linter.unusedSimpArgs false
set_option linter.unusedVariables false
set_option linter.unusedSectionVars false
namespace Go.Proofs.YtdiblbjchhjccaaDoor
open Go.Proofs
theorem Grows_cc (H : Hp) (V : List Nat) (c : List Sec) (l : List Stp) (hl : l.length ≤ 9223372036854775807) : CC Tryd.prog 7 [.sl .sh 8 (c.map secC), .sl .sh 3 (l.map stpC)] H V (Pu (cb true) H V) := by
  refine CC.of_swp Tryd.func7 rfl (by kernel_rfl) (by rw [Tryd.ntmps7]; exact len_le _ _ rfl) fun hok hokH => ?_
  clear hok
  refine SWp.seq (Wp.s ?_)
  simp -implicitDefEqProofs [go_sem, args0]
  refine SWp.seq (Wp.s ?_)
  simp -implicitDefEqProofs [go_sem]
  refine ⟨fun h1 => ?_, fun h1 => ?_⟩
  case refine_2 =>
    refine CC.mono (awake_cc _ _) ?_
    rintro _ _ _ ⟨rfl, rfl, rfl⟩
    simp -implicitDefEqProofs [go_sem]
    exact Fin.bool rfl hokH (by simp) (by simp)
  refine CC.mono (small_cc _ _ _ l hl) ?_
  rintro _ _ _ ⟨rfl, rfl, rfl⟩
  simp -implicitDefEqProofs [go_sem]
  refine ⟨fun h2 => ?_, fun h2 => ?_⟩
  case refine_1 =>
    refine CC.mono (awake_cc _ _) ?_
    rintro _ _ _ ⟨rfl, rfl, rfl⟩
    simp -implicitDefEqProofs [go_sem]
    exact Fin.bool rfl hokH (by simp) (by simp)
  obtain ⟨hl12, hbig⟩ := bigS_f h2
  refine SWp.seq (Wp.s ?_)
  simp -implicitDefEqProofs [go_sem]
  refine CC.le (.cons (.refl _) (.cons (.nil 1 (by decide)) .nil)) (CC.mono (begin_cc _ _ _ .sh c [] (by omega)) ?_)
  rintro _ _ _ ⟨rfl, rfl, rfl⟩
  obtain ⟨s0, hb, hg, hsl, _, _, _⟩ := beginG c (p := []) (by omega) (by decide)
  rw [hb]
  simp -implicitDefEqProofs [go_sem]
  refine SWp.seq (Wp.s ?_)
  simp -implicitDefEqProofs [go_sem]
  refine SWp.join (α := List Sec) (fun s => ([(6, cb true)], H ++ [some (dkC ⟨s, []⟩)], V)) (fun _ => True) ?_ ?_
  · refine SWp.seq (Wp.s ?_)
    simp -implicitDefEqProofs [go_sem]
    refine SWp.block ?_
    refine SWp.loop (α := Nat × List Sec × Nat × List UInt8) (fun x => ([(1, .sl .sh 3 (l.map stpC)), (5, .ptr H.length 0), (6, cb true), (7, ci x.2.2.1), (8, ci x.1)], H ++ [some (dkC ⟨x.2.1, []⟩)], V)) (fun x => x.1 ≤ l.length ∧ Gd x.2.1 x.2.2.1 x.2.2.2 (1 + x.1) ∧ x.2.1.length ≤ 60) (fun x => l.length - x.1) (0, s0, 1, []) ⟨Nat.zero_le _, hg, (show s0.length ≤ 60 by omega)⟩ (Sh.forget (by simp [go_sem]) rfl rfl) ?_
    rintro ⟨i, s, g, v⟩ ⟨hi, hgd, hsl2⟩
    dsimp only at hi hgd hsl2 ⊢
    refine SWp.seq (Wp.s ?_)
    simp -implicitDefEqProofs [go_sem]
    refine ⟨fun h => ?_, fun h => ⟨s, Sh.forget (by simp [go_sem]) rfl rfl⟩⟩
    refine SWp.seq (SWp.block ?_)
    refine SWp.join (α := DR) (fun x => ([(1, .sl .sh 3 (l.map stpC)), (5, .ptr H.length 0), (6, cb true), (7, ci g), (8, ci i), (9, .ptr (H.length + 1) 0), (10, cb x.done), (11, cb x.right)], H ++ [some (dkC ⟨s, []⟩), some (dkC ⟨x.s, []⟩)], V)) (fun x => StpS ⟨s, []⟩ l[i] ⟨x.s, []⟩ x.done x.right) ?_ ?_
    · refine SWp.drawnT [] [11] (.s 0 .pl <| .s 1 .pl <| .s 2 .pl <| .s 3 .pl <| .s 4 .pl <| .f 5 .pl (.s 6 .pl <| .s 7 .pl <| .s 8 .pl <| .s 9 .pl <| .s 10 .pl <| .s 11 .st <| .s 12 .pl <| .s 13 .pl <| .n) 10 .pl (.s 5 .pl <| .s 6 .pl <| .s 7 .pl <| .s 8 .pl <| .s 9 .pl <| .s 11 .st <| .s 12 .pl <| .s 13 .pl <| .n)) (by kernel_rfl) (by kernel_rfl) ?_
      simp -implicitDefEqProofs [go_sem, h]
      have hst := step_cc (H ++ [some (dkC ⟨s, []⟩)]) V ⟨s, []⟩ l[i] (by dsimp only; omega) (by simp) (by have := (hbig _ (List.getElem_mem h)).2; omega) sortOK
      have hst2 := step_cc (H ++ [some (dkC ⟨s, []⟩), some [.v (.slice none 0 0), .v (.slice none 0 0)]]) V ⟨s, []⟩ l[i] (by dsimp only; omega) (by simp) (by have := (hbig _ (List.getElem_mem h)).2; omega) sortOK
      have fin : ∀ {d' : Dk} {done right : Bool}, StpS ⟨s, []⟩ l[i] d' done right → d'.cache = [] := fun hs => by
        obtain ⟨_, s', _, _, rfl, _⟩ := stpG hgd (by omega) (hbig _ (List.getElem_mem h)).1 hs
        rfl
      refine ⟨CC.mono hst ?_, ?_⟩
      · rintro _ _ _ ⟨⟨s', c'⟩, done, right, hS, rfl, rfl, rfl⟩
        obtain rfl : c' = [] := fin hS
        simp -implicitDefEqProofs [go_sem]
        exact ⟨⟨s', done, right⟩, hS, Sh.forget (by simp [go_sem]) rfl rfl⟩
      · refine CC.mono hst2 ?_
        rintro _ _ _ ⟨⟨s', c'⟩, done, right, hS, rfl, rfl, rfl⟩
        obtain rfl : c' = [] := fin hS
        simp -implicitDefEqProofs [go_sem]
        exact ⟨⟨s', done, right⟩, hS, Sh.forget (by simp [go_sem]) rfl rfl⟩
    · rintro ⟨s', done, right⟩ hS
      dsimp only at hS ⊢
      obtain ⟨rfl, s2, g', v', e2, hl2, hg2, hout, hor, _⟩ := stpG hgd (by omega) (hbig _ (List.getElem_mem h)).1 hS
      obtain rfl : s' = s2 := congrArg Dk.stable e2
      refine SWp.seq (Wp.s ?_)
      simp -implicitDefEqProofs [go_sem]
      refine CC.mono (Load_cc _ _ ⟨s', []⟩ 5 ⟨by dsimp only; omega, by simp⟩) ?_
      rintro _ _ _ ⟨rfl, rfl, rfl⟩
      rw [hg2.load]
      simp -implicitDefEqProofs [go_sem, ldV]
      refine SWp.join (α := Unit) (fun _ => ([(1, .sl .sh 3 (l.map stpC)), (5, .ptr H.length 0), (6, cb true), (8, ci i), (9, .ptr (H.length + 1) 0), (13, ci g')], H ++ [some (dkC ⟨s, []⟩), some (dkC ⟨s', []⟩)], V)) (fun _ => True) ?_ ?_
      · refine SWp.seq (Wp.s ?_)
        have hgl : ¬ ((g' : Int) < (g : Int)) ∧ (done = true → ¬ ((g' : Int) = (g : Int))) := by
          rcases hor with ⟨rfl, rfl, rfl⟩ | ⟨hlt, rfl⟩
          · exact ⟨by omega, fun e => by cases e⟩
          · exact ⟨by omega, fun _ => by omega⟩
        cases done with
        | true =>
          simp -implicitDefEqProofs [go_sem, hgl.1, hgl.2 rfl]
          refine Wp.s ?_
          simp -implicitDefEqProofs [go_sem]
          exact Sh.forget (by simp [go_sem]) rfl rfl
        | false =>
          simp -implicitDefEqProofs [go_sem, hgl.1]
          refine Wp.s ?_
          simp -implicitDefEqProofs [go_sem]
          exact Sh.forget (by simp [go_sem]) rfl rfl
      · rintro _ -
        dsimp only
        refine Wp.s ?_
        simp -implicitDefEqProofs [go_sem]
        refine Wp.s ?_
        simp -implicitDefEqProofs [go_sem, wrap_succ (show i ≤ 1000000000 by omega)]
        exact ⟨i + 1, s', g', ⟨by omega, ⟨v', by rw [← Nat.add_assoc]; exact hg2⟩, by omega⟩, by omega, Sh.trim (L := [some (dkC ⟨s', []⟩)]) (by simp [go_sem]) (by simp [go_sem]) hokH (by simp [go_sem]) (Nat.le_refl _) (by simp) (by simp)⟩
  · rintro s -
    dsimp only
    refine SWp.seq (Wp.s ?_)
    simp -implicitDefEqProofs [go_sem]
    refine CC.mono (awake_cc _ _) ?_
    rintro _ _ _ ⟨rfl, rfl, rfl⟩
    simp -implicitDefEqProofs [go_sem]
    refine Wp.s ?_
    simp -implicitDefEqProofs [go_sem]
    exact Fin.bool rfl hokH (by simp) (by simp)
end Go.Proofs.YtdiblbjchhjccaaDoor
namespace Go.Proofs.YtdiblbjchhjccaaDoor
open Go.Proofs
theorem Keeps_cc (H : Hp) (V : List Nat) (c : List Sec) (l : List Stp) (hl : l.length ≤ 9223372036854775807) : CC Tryd.prog 8 [.sl .sh 8 (c.map secC), .sl .sh 3 (l.map stpC)] H V (Pu (cb true) H V) := by
  refine CC.of_swp Tryd.func8 rfl (by kernel_rfl) (by rw [Tryd.ntmps8]; exact len_le _ _ rfl) fun hok hokH => ?_
  clear hok
  refine SWp.seq (Wp.s ?_)
  simp -implicitDefEqProofs [go_sem, args0]
  refine SWp.seq (Wp.s ?_)
  simp -implicitDefEqProofs [go_sem]
  refine ⟨fun h1 => ?_, fun h1 => ?_⟩
  case refine_2 =>
    refine CC.mono (awake_cc _ _) ?_
    rintro _ _ _ ⟨rfl, rfl, rfl⟩
    simp -implicitDefEqProofs [go_sem]
    exact Fin.bool rfl hokH (by simp) (by simp)
  refine CC.mono (small_cc _ _ _ l hl) ?_
  rintro _ _ _ ⟨rfl, rfl, rfl⟩
  simp -implicitDefEqProofs [go_sem]
  refine ⟨fun h2 => ?_, fun h2 => ?_⟩
  case refine_1 =>
    refine CC.mono (awake_cc _ _) ?_
    rintro _ _ _ ⟨rfl, rfl, rfl⟩
    simp -implicitDefEqProofs [go_sem]
    exact Fin.bool rfl hokH (by simp) (by simp)
  obtain ⟨hl12, hbig⟩ := bigS_f h2
  refine SWp.seq (Wp.s ?_)
  simp -implicitDefEqProofs [go_sem]
  refine CC.le (.cons (.refl _) (.cons (.nil 1 (by decide)) .nil)) (CC.mono (begin_cc _ _ _ .sh c [] (by omega)) ?_)
  rintro _ _ _ ⟨rfl, rfl, rfl⟩
  obtain ⟨s0, hb, hg, hsl, hout0, _, _⟩ := beginG c (p := []) (by omega) (by decide)
  obtain ⟨B, hB⟩ : ∃ B, c ++ List.replicate 30 sec0 = B := ⟨_, rfl⟩
  rw [hB] at hout0
  have hB1 : ∀ i (h : i < c.length), B[i]? = some c[i] := fun i h => by rw [← hB, List.getElem?_append_left h, List.getElem?_eq_getElem h]
  have hB2 : ∀ i, c.length ≤ i → i < c.length + 30 → B[i]? = some sec0 := fun i h h' => by rw [← hB, List.getElem?_append_right h, List.getElem?_replicate, if_pos (by omega)]
  clear hB
  rw [hb]
  simp -implicitDefEqProofs [go_sem]
  refine SWp.join (α := List Sec) (fun s => ([(0, .sl .sh 8 (c.map secC)), (5, .ptr H.length 0), (6, cb true)], H ++ [some (dkC ⟨s, []⟩)], V)) (fun s => s.length = c.length + 30 ∧ ∀ j, j < 5 ∨ 21 ≤ j → s[j]? = B[j]?) ?_ ?_
  · refine SWp.seq (Wp.s ?_)
    simp -implicitDefEqProofs [go_sem]
    refine SWp.block ?_
    refine SWp.loop (α := Nat × List Sec × Nat × List UInt8) (fun x => ([(0, .sl .sh 8 (c.map secC)), (1, .sl .sh 3 (l.map stpC)), (5, .ptr H.length 0), (6, cb true), (7, ci x.1)], H ++ [some (dkC ⟨x.2.1, []⟩)], V)) (fun x => x.1 ≤ l.length ∧ Gd x.2.1 x.2.2.1 x.2.2.2 (1 + x.1) ∧ x.2.1.length = c.length + 30 ∧ ∀ j, j < 5 ∨ 21 ≤ j → x.2.1[j]? = B[j]?) (fun x => l.length - x.1) (0, s0, 1, []) ⟨Nat.zero_le _, hg, hsl, hout0⟩ (Sh.forget (by simp [go_sem]) rfl rfl) ?_
    rintro ⟨i, s, g, v⟩ ⟨hi, hgd, hsl2, hout1⟩
    dsimp only at hi hgd hsl2 hout1 ⊢
    refine SWp.seq (Wp.s ?_)
    simp -implicitDefEqProofs [go_sem]
    refine ⟨fun h => ?_, fun h => ⟨s, ⟨hsl2, hout1⟩, Sh.forget (by simp [go_sem]) rfl rfl⟩⟩
    refine SWp.seq (SWp.block ?_)
    refine SWp.join (α := DR) (fun x => ([(0, .sl .sh 8 (c.map secC)), (1, .sl .sh 3 (l.map stpC)), (5, .ptr H.length 0), (6, cb true), (7, ci i), (8, .ptr (H.length + 1) 0), (10, cb x.right)], H ++ [some (dkC ⟨s, []⟩), some (dkC ⟨x.s, []⟩)], V)) (fun x => StpS ⟨s, []⟩ l[i] ⟨x.s, []⟩ x.done x.right) ?_ ?_
    · refine SWp.drawnT [] [11] (.s 0 .pl <| .s 1 .pl <| .s 2 .pl <| .s 3 .pl <| .s 4 .pl <| .f 5 .pl (.s 6 .pl <| .s 7 .pl <| .s 8 .pl <| .s 9 .pl <| .s 10 .pl <| .s 11 .st <| .s 12 .pl <| .s 13 .pl <| .n) 10 .pl (.s 5 .pl <| .s 6 .pl <| .s 7 .pl <| .s 8 .pl <| .s 9 .pl <| .s 11 .st <| .s 12 .pl <| .s 13 .pl <| .n)) (by kernel_rfl) (by kernel_rfl) ?_
      simp -implicitDefEqProofs [go_sem, h]
      have hst := step_cc (H ++ [some (dkC ⟨s, []⟩)]) V ⟨s, []⟩ l[i] (by dsimp only; omega) (by simp) (by have := (hbig _ (List.getElem_mem h)).2; omega) sortOK
      have hst2 := step_cc (H ++ [some (dkC ⟨s, []⟩), some [.v (.slice none 0 0), .v (.slice none 0 0)]]) V ⟨s, []⟩ l[i] (by dsimp only; omega) (by simp) (by have := (hbig _ (List.getElem_mem h)).2; omega) sortOK
      have fin : ∀ {d' : Dk} {done right : Bool}, StpS ⟨s, []⟩ l[i] d' done right → d'.cache = [] := fun hs => by
        obtain ⟨_, s', _, _, rfl, _⟩ := stpG hgd (by omega) (hbig _ (List.getElem_mem h)).1 hs
        rfl
      refine ⟨CC.mono hst ?_, ?_⟩
      · rintro _ _ _ ⟨⟨s', c'⟩, done, right, hS, rfl, rfl, rfl⟩
        obtain rfl : c' = [] := fin hS
        simp -implicitDefEqProofs [go_sem]
        exact ⟨⟨s', done, right⟩, hS, Sh.forget (by simp [go_sem]) rfl rfl⟩
      · refine CC.mono hst2 ?_
        rintro _ _ _ ⟨⟨s', c'⟩, done, right, hS, rfl, rfl, rfl⟩
        obtain rfl : c' = [] := fin hS
        simp -implicitDefEqProofs [go_sem]
        exact ⟨⟨s', done, right⟩, hS, Sh.forget (by simp [go_sem]) rfl rfl⟩
    · rintro ⟨s', done, right⟩ hS
      dsimp only at hS ⊢
      obtain ⟨rfl, s2, g', v', e2, hl2, hg2, hout, hor, _⟩ := stpG hgd (by omega) (hbig _ (List.getElem_mem h)).1 hS
      obtain rfl : s' = s2 := congrArg Dk.stable e2
      refine Wp.s ?_
      simp -implicitDefEqProofs [go_sem]
      refine Wp.s ?_
      simp -implicitDefEqProofs [go_sem, wrap_succ (show i ≤ 1000000000 by omega)]
      exact ⟨i + 1, s', ⟨by omega, ⟨g', v', by rw [← Nat.add_assoc]; exact hg2⟩, by omega, fun j hj => (hout j hj).trans (hout1 j hj)⟩, by omega, Sh.trim (L := [some (dkC ⟨s', []⟩)]) (by simp [go_sem]) (by simp [go_sem]) hokH (by simp [go_sem]) (Nat.le_refl _) (by simp) (by simp)⟩
  · rintro s ⟨hsl2, hout1⟩
    dsimp only at hsl2 hout1 ⊢
    refine SWp.join (α := Unit) (fun _ => ([(0, .sl .sh 8 (c.map secC)), (5, .ptr H.length 0), (6, cb true)], H ++ [some (dkC ⟨s, []⟩)], V)) (fun _ => True) ?_ ?_
    · refine SWp.seq (Wp.s ?_)
      simp -implicitDefEqProofs [go_sem]
      refine SWp.block ?_
      refine SWp.loop (α := Nat) (fun i => ([(0, .sl .sh 8 (c.map secC)), (5, .ptr H.length 0), (6, cb true), (11, ci i)], H ++ [some (dkC ⟨s, []⟩)], V)) (fun i => i ≤ s.length) (fun i => s.length - i) 0 (Nat.zero_le _) (Sh.forget (by simp [go_sem]) rfl rfl) ?_
      rintro i hi
      dsimp only
      refine SWp.seq (Wp.s ?_)
      simp -implicitDefEqProofs [go_sem]
      refine ⟨fun h => ?_, fun h => Sh.forget (by simp [go_sem]) rfl rfl⟩
      refine SWp.seq (SWp.block (SWp.seq (Wp.s ?_)))
      simp -implicitDefEqProofs [go_sem]
      refine SWp.join (α := Sec) (fun w => ([(0, .sl .sh 8 (c.map secC)), (5, .ptr H.length 0), (6, cb true), (11, ci i), (12, .ptr (H.length + 1) 0)], H ++ [some (dkC ⟨s, []⟩), some (secC w)], V)) (fun w => B[i]? = some w) ?_ ?_
      · refine SWp.seq (Wp.s ?_)
        simp -implicitDefEqProofs [go_sem]
        refine Wp.s ?_
        simp -implicitDefEqProofs [go_sem]
        refine ⟨fun h3 => ⟨h3, c[i], hB1 i h3, Sh.forget (by simp [go_sem]) (by simp) rfl⟩, fun h3 => ⟨sec0, hB2 i h3 (by omega), Sh.forget (by simp [go_sem]) rfl rfl⟩⟩
      · intro w hw
        dsimp only at hw ⊢
        refine SWp.seq ?_
        refine SWp.drawnT [] [] (.s 0 .pl <| .s 1 .pl <| .s 2 .pl <| .s 3 .pl <| .s 4 .pl <| .s 5 .pl <| .s 6 .pl <| .s 7 .pl <| .s 8 .pl <| .s 9 .pl <| .s 10 .pl <| .s 11 .pl <| .s 12 .pl <| .s 13 .pl <| .s 14 .pl <| .n) (by kernel_rfl) (by kernel_rfl) ?_
        have go : (i < 5 ∨ 21 ≤ i) → s[i] = w := fun hj => by
          have := hout1 i hj
          rw [hw, List.getElem?_eq_getElem h] at this
          exact Option.some.inj this
        by_cases h5 : i < 5
        · simp -implicitDefEqProofs [go_sem, h, show (i : Int) < 5 by omega]
          refine ⟨_, flat57, fits_sec _, fits_sec _, fun q => absurd (congrArg secC (go (.inl h5))) q, fun _ => ?_⟩
          refine Wp.s ?_
          simp -implicitDefEqProofs [go_sem]
          refine Wp.s ?_
          simp -implicitDefEqProofs [go_sem, wrap_succ (show i ≤ 1000000000 by omega)]
          exact ⟨i + 1, by omega, by omega, Sh.trim (L := [some (dkC ⟨s, []⟩)]) (by simp [go_sem]) (by simp [go_sem]) hokH (by simp [go_sem]) (Nat.le_refl _) (by simp) (by simp)⟩
        · by_cases h21 : 21 ≤ i
          · simp -implicitDefEqProofs [go_sem, h, show ¬ (i : Int) < 5 by omega, show (21 : Int) ≤ i by omega]
            refine ⟨_, flat57, fits_sec _, fits_sec _, fun q => absurd (congrArg secC (go (.inr h21))) q, fun _ => ?_⟩
            refine Wp.s ?_
            simp -implicitDefEqProofs [go_sem]
            refine Wp.s ?_
            simp -implicitDefEqProofs [go_sem, wrap_succ (show i ≤ 1000000000 by omega)]
            exact ⟨i + 1, by omega, by omega, Sh.trim (L := [some (dkC ⟨s, []⟩)]) (by simp [go_sem]) (by simp [go_sem]) hokH (by simp [go_sem]) (Nat.le_refl _) (by simp) (by simp)⟩
          · simp -implicitDefEqProofs [go_sem, h, show ¬ (i : Int) < 5 by omega, show ¬ (21 : Int) ≤ i by omega]
            refine Wp.s ?_
            simp -implicitDefEqProofs [go_sem]
            refine Wp.s ?_
            simp -implicitDefEqProofs [go_sem, wrap_succ (show i ≤ 1000000000 by omega)]
            exact ⟨i + 1, by omega, by omega, Sh.trim (L := [some (dkC ⟨s, []⟩)]) (by simp [go_sem]) (by simp [go_sem]) hokH (by simp [go_sem]) (Nat.le_refl _) (by simp) (by simp)⟩
    · rintro - -
      dsimp only
      refine SWp.seq (Wp.s ?_)
      simp -implicitDefEqProofs [go_sem]
      refine CC.mono (awake_cc _ _) ?_
      rintro _ _ _ ⟨rfl, rfl, rfl⟩
      simp -implicitDefEqProofs [go_sem]
      refine Wp.s ?_
      simp -implicitDefEqProofs [go_sem]
      exact Fin.bool (by rw [hsl2, IntWalk.i64_in _ ⟨by omega, by omega⟩]; simp) hokH (by simp) (by simp)
end Go.Proofs.YtdiblbjchhjccaaDoor
namespace Go.Proofs.YtdiblbjchhjccaaDoor
open Go.Proofs
structure KB where
  b : Bool
/-- Whether what was loaded is known. -/
def KnB (v p old sp : List UInt8) (i : Nat) (b : Bool) : Prop := b = (decide (v = p) || (decide (i < 2) && (decide (v = old) || decide (v = sp))))
theorem Begins_cc (H : Hp) (V : List Nat) (old p : List UInt8) (st : Stp) : CC Tryd.prog 9 [.sl .sh 1 (bs old), .sl .sh 1 (bs p), .agg (stpC st)] H V (Pu (cb true) H V) := by
  refine CC.of_swp Tryd.func9 rfl (by kernel_rfl) (by rw [Tryd.ntmps9]; exact len_le _ _ rfl) fun hok hokH => ?_
  clear hok
  refine SWp.seq (Wp.s ?_)
  simp -implicitDefEqProofs [go_sem, args0]
  refine SWp.seq (Wp.s ?_)
  by_cases ho : 31 < old.length
  · simp -implicitDefEqProofs [go_sem, show (31 : Int) < old.length by omega]
    refine CC.mono (awake_cc _ _) ?_
    rintro _ _ _ ⟨rfl, rfl, rfl⟩
    simp -implicitDefEqProofs [go_sem]
    exact Fin.bool rfl hokH (by simp) (by simp)
  by_cases hp : 31 < p.length
  · simp -implicitDefEqProofs [go_sem, show ¬ (31 : Int) < old.length by omega, show (31 : Int) < p.length by omega]
    refine CC.mono (awake_cc _ _) ?_
    rintro _ _ _ ⟨rfl, rfl, rfl⟩
    simp -implicitDefEqProofs [go_sem]
    exact Fin.bool rfl hokH (by simp) (by simp)
  simp -implicitDefEqProofs [go_sem, show ¬ (31 : Int) < old.length by omega, show ¬ (31 : Int) < p.length by omega]
  refine CC.mono (small_cc _ _ .ti [st] (by simp)) ?_
  rintro _ _ _ ⟨rfl, rfl, rfl⟩
  simp -implicitDefEqProofs [go_sem]
  refine ⟨fun h2 => ?_, fun h2 => ?_⟩
  case refine_1 =>
    refine CC.mono (awake_cc _ _) ?_
    rintro _ _ _ ⟨rfl, rfl, rfl⟩
    simp -implicitDefEqProofs [go_sem]
    exact Fin.bool rfl hokH (by simp) (by simp)
  obtain ⟨_, hbig⟩ := bigS_f h2
  obtain ⟨hb1, hb2⟩ := hbig st (by simp)
  refine SWp.seq (Wp.s ?_)
  simp -implicitDefEqProofs [go_sem]
  refine CC.le (.cons (.nil 8 (by decide)) (.cons (.refl _) .nil)) (CC.mono (begin_cc _ _ .sh .sh [] old (by simp)) ?_)
  rintro _ _ _ ⟨rfl, rfl, rfl⟩
  obtain ⟨s0, hb, hg, hsl, _, hA0, hB0⟩ := beginG [] (p := old) (by simp) (by omega)
  rw [hb]
  simp -implicitDefEqProofs [go_sem]
  refine SWp.seq (Wp.s ?_)
  simp -implicitDefEqProofs [go_sem]
  simp only [List.length_nil] at hsl
  refine CC.mono (step_cc _ _ ⟨s0, []⟩ st (by dsimp only; omega) (by simp) (by omega) sortOK) ?_
  rintro _ _ V9 ⟨d1, done, right, hS, rfl, rfl, eV⟩
  obtain rfl := eV.symm
  obtain ⟨rfl, s1, g1, v1, rfl, hl1, hg1, _, _, hk1⟩ := stpG hg (by decide) hb1 hS
  simp -implicitDefEqProofs [go_sem]
  refine SWp.seq (Wp.s ?_)
  simp -implicitDefEqProofs [go_sem]
  refine CC.mono (Format_cc _ _ 5 _ p) ?_
  rintro _ _ _ ⟨rfl, rfl, rfl⟩
  have hf : formatS 5 p = ((formatS 5 p).1, 0) := by
    rw [formatS, if_neg (by omega), if_neg (by omega)]
  have hfl : (formatS 5 p).1.length = 4 := by
    rw [formatS, if_neg (by omega), if_neg (by omega)]; rfl
  have hft := fmt_tot 5 p
  have hfi := fun k hk d' e hi => fmtI (s := s1) (p := p) (old := old) (sp := st.payload) hg1.l1 hg1.l2 (by omega) (fun x hx => by
    rcases hk1 x hx with q | q | q | q
    · exact .inl q
    · right; left; rw [q, hA0]
    · left; rw [q, hB0]
    · exact .inr (.inr q)) (k := k) hk (d' := d') (e := e) hi
  rw [hf]
  generalize (formatS 5 p).1 = ops at *
  simp -implicitDefEqProofs [go_sem, stV]
  refine SWp.seq (Wp.s ?_)
  simp -implicitDefEqProofs [go_sem]
  refine SWp.join (α := Unit) (fun _ => ([], H ++ [some (stpC st), some (dkC ⟨s1, []⟩)], V)) (fun _ => True) ?_ ?_
  · refine SWp.seq (Wp.s ?_)
    simp -implicitDefEqProofs [go_sem]
    refine SWp.block ?_
    refine SWp.loop (α := Nat) (fun i => ([(0, .sl .sh 1 (bs old)), (1, .sl .sh 1 (bs p)), (5, .ptr H.length 0), (7, .ptr (H.length + 1) 0), (11, opsV ops), (13, ci i)], H ++ [some (stpC st), some (dkC ⟨s1, []⟩)], V)) (fun i => i ≤ 5) (fun i => 5 - i) 0 (Nat.zero_le _) (Sh.forget (by simp [go_sem]) rfl rfl) ?_
    rintro i hi
    dsimp only
    refine SWp.seq (Wp.s ?_)
    simp -implicitDefEqProofs [go_sem]
    refine ⟨fun h => ?_, fun h => Sh.forget (by simp [go_sem]) rfl rfl⟩
    refine SWp.seq (SWp.block (SWp.seq (Wp.s ?_)))
    simp -implicitDefEqProofs [go_sem]
    refine CC.mono (Interrupt_cc _ _ ⟨s1, []⟩ ops i .sh st.choices (by dsimp only; omega) (by simp only [List.length_nil]; omega) (by omega) (by omega) sortOK) ?_
    rintro _ _ V9 ⟨d2, l2, e, ⟨hI, _⟩, rfl, rfl, eV⟩
    obtain rfl := eV.symm
    obtain ⟨rfl, q1, q2, q3⟩ := hfi i (by omega) d2 e hI
    simp -implicitDefEqProofs [go_sem]
    refine SWp.seq (Wp.s ?_)
    simp -implicitDefEqProofs [go_sem]
    refine CC.mono (Load_cc _ _ d2 5 ⟨by omega, by rw [q2]; simp⟩) ?_
    rintro _ _ _ ⟨rfl, rfl, rfl⟩
    generalize hw : loadS d2 5 = w at *
    obtain ⟨v, n, e⟩ := w
    dsimp only at q3
    simp -implicitDefEqProofs [go_sem, ldV]
    refine SWp.join (α := KB) (fun x => ([(0, .sl .sh 1 (bs old)), (1, .sl .sh 1 (bs p)), (5, .ptr H.length 0), (7, .ptr (H.length + 1) 0), (11, opsV ops), (13, ci i), (16, er 0), (19, er e), (20, cb x.b)], H ++ [some (stpC st), some (dkC ⟨s1, []⟩)], V)) (fun x => KnB v p old st.payload i x.b) ?_ ?_
    · refine Wp.s ?_
      simp -implicitDefEqProofs [go_sem]
      refine CC.mono (Equal_cc _ _ .sh .sh _ _) ?_
      rintro _ _ _ ⟨rfl, rfl, rfl⟩
      have hokB : ∀ (b : Nat) cs, (H ++ [some (stpC st), some (dkC ⟨s1, []⟩)])[b]? = some (some cs) → okL (H.length + 2) V.length cs := by
        intro b cs hb
        rw [List.getElem?_append] at hb
        split at hb
        · exact okL_mono (by omega) (Nat.le_refl _) (hokH b cs hb)
        · exact okH_get (i := H.length + 2) (j := V.length) (L := [some (stpC st), some (dkC ⟨s1, []⟩)]) (by simp [go_sem]) _ _ hb
      have fin : ∀ (b : Bool) {T : Tm}, KnB v p old st.payload i b → TLe T [(0, .sl .sh 1 (bs old)), (1, .sl .sh 1 (bs p)), (5, .ptr H.length 0), (7, .ptr (H.length + 1) 0), (11, opsV ops), (13, ci i), (16, er 0), (19, er e), (20, cb b)] →
          ∃ x : KB, KnB v p old st.payload i x.b ∧ Sh 132 H.length V.length T (H ++ [some (stpC st), some (dkC ⟨s1, []⟩), some (dkC d2)]) V ([(0, .sl .sh 1 (bs old)), (1, .sl .sh 1 (bs p)), (5, .ptr H.length 0), (7, .ptr (H.length + 1) 0), (11, opsV ops), (13, ci i), (16, er 0), (19, er e), (20, cb x.b)], H ++ [some (stpC st), some (dkC ⟨s1, []⟩)], V) := fun b T h1 h2 => ⟨⟨b⟩, h1, Sh.trim (L := [some (stpC st), some (dkC ⟨s1, []⟩)]) h2 (by simp [go_sem, okE_ops]) hokH (by simp [go_sem]) (Nat.le_refl _) (by simp) (by simp)⟩
      rcases e1 : decide (v = p) with - | -
      · by_cases e2 : i < 2
        · simp -implicitDefEqProofs [go_sem, e1, show (i : Int) < 2 by omega]
          refine CC.mono (Equal_cc _ _ .sh .sh _ _) ?_
          rintro _ _ _ ⟨rfl, rfl, rfl⟩
          rcases e3 : decide (v = old) with - | -
          · simp -implicitDefEqProofs [go_sem, e3]
            refine CC.mono (Equal_cc _ _ .sh .sh _ _) ?_
            rintro _ _ _ ⟨rfl, rfl, rfl⟩
            simp -implicitDefEqProofs [go_sem, e1, e3]
            refine fin (decide (v = st.payload)) (by simp only [KnB, e1, e3]; simp [e2]) ?_
            simp [go_sem]
          · simp -implicitDefEqProofs [go_sem, e3]
            refine fin true (by simp only [KnB, e1, e3]; simp [e2]) ?_
            simp [go_sem]
        · simp -implicitDefEqProofs [go_sem, e1, show ¬ (i : Int) < 2 by omega]
          refine fin false (by simp only [KnB, e1]; simp [e2]) ?_
          simp [go_sem]
      · simp -implicitDefEqProofs [go_sem, e1]
        refine fin true (by simp only [KnB, e1]; simp) ?_
        simp [go_sem]
    · rintro ⟨b⟩ hb
      dsimp only at hb ⊢
      refine SWp.seq (Wp.s ?_)
      rcases q3 with ⟨rfl, k4⟩ | ⟨rfl, hk⟩
      · simp -implicitDefEqProofs [go_sem, hfl, show ¬ (i : Int) = 4 by omega]
        refine Wp.s ?_
        simp -implicitDefEqProofs [go_sem]
        refine Wp.s ?_
        simp -implicitDefEqProofs [go_sem, wrap_succ (show i ≤ 1000000000 by omega)]
        exact ⟨i + 1, by omega, by omega, Sh.trim (L := [some (stpC st), some (dkC ⟨s1, []⟩)]) (by simp [go_sem]) (by simp [go_sem, okE_ops]) hokH (by simp [go_sem]) (Nat.le_refl _) (by simp) (by simp)⟩
      · have hbt : b = true := by
          rw [KnB] at hb
          rw [hb]
          rcases hk with hk | ⟨hk, hk2 | hk2⟩
          · simp [hk]
          · simp [hk, hk2]
          · simp [hk, hk2]
        subst hbt
        simp -implicitDefEqProofs [go_sem, hfl]
        refine ⟨fun _ => ?_, fun _ => ?_⟩
        all_goals
          refine Wp.s ?_
          simp -implicitDefEqProofs [go_sem]
          refine Wp.s ?_
          simp -implicitDefEqProofs [go_sem, wrap_succ (show i ≤ 1000000000 by omega)]
          exact ⟨i + 1, by omega, by omega, Sh.trim (L := [some (stpC st), some (dkC ⟨s1, []⟩)]) (by simp [go_sem]) (by simp [go_sem, okE_ops]) hokH (by simp [go_sem]) (Nat.le_refl _) (by simp) (by simp)⟩
  · rintro - -
    dsimp only
    refine SWp.seq (Wp.s ?_)
    simp -implicitDefEqProofs [go_sem]
    refine CC.mono (awake_cc _ _) ?_
    rintro _ _ _ ⟨rfl, rfl, rfl⟩
    simp -implicitDefEqProofs [go_sem]
    refine Wp.s ?_
    simp -implicitDefEqProofs [go_sem]
    exact Fin.bool rfl hokH (by simp) (by simp)
theorem Interrupts_law (c : List Sec) (l : List Stp) (hl : l.length ≤ maxLen) : CC Tryd.prog 6 [.sl .sh 8 (c.map secC), .sl .sh 3 (l.map stpC)] [] [] (Pu (cb true) [] []) := Interrupts_cc [] [] c l (by simpa [maxLen] using hl)
theorem Grows_law (c : List Sec) (l : List Stp) (hl : l.length ≤ maxLen) : CC Tryd.prog 7 [.sl .sh 8 (c.map secC), .sl .sh 3 (l.map stpC)] [] [] (Pu (cb true) [] []) := Grows_cc [] [] c l (by simpa [maxLen] using hl)
theorem Keeps_law (c : List Sec) (l : List Stp) (hl : l.length ≤ maxLen) : CC Tryd.prog 8 [.sl .sh 8 (c.map secC), .sl .sh 3 (l.map stpC)] [] [] (Pu (cb true) [] []) := Keeps_cc [] [] c l (by simpa [maxLen] using hl)
theorem Begins_law (old p : List UInt8) (st : Stp) : CC Tryd.prog 9 [.sl .sh 1 (bs old), .sl .sh 1 (bs p), .agg (stpC st)] [] [] (Pu (cb true) [] []) := Begins_cc [] [] old p st
end Go.Proofs.YtdiblbjchhjccaaDoor
