import Derived.Test.YtpedbpbmnchllaaGreatDoorD6
import Derived.Test.YtpedbpbmnchllaaGreatDoorD4
set_option linter.unusedSimpArgs false
set_option linter.unusedVariables false
set_option linter.unusedSectionVars false
namespace Go.Proofs.YtpedbpbmnchllaaGreatDoor
open Go.Proofs
def endE (l : List (Nat × Nat)) : Int := match l.getLast? with | none => -1 | some e => (e.1 : Int) + e.2
theorem endE_nil : endE [] = -1 := rfl
theorem endE_snoc (l : List (Nat × Nat)) (e : Nat × Nat) : endE (l ++ [e]) = (e.1 : Int) + e.2 := by simp [endE]
theorem endE_step (l : List (Nat × Nat)) (x : Nat) : endE (exStep l x) = (x : Int) + 1 := by
  rcases List.eq_nil_or_concat l with rfl | ⟨l0, e, rfl⟩
  · rw [exStep_nil]; rfl
  · rw [List.concat_eq_append, exStep_snoc]
    split
    · rw [endE_snoc]; dsimp only; omega
    · rw [endE_snoc]; rfl
set_option maxHeartbeats 1600000 in
theorem imEx_cc (H : Hp) (V : List Nat) (a b : List Sec) (hab : a.length = b.length) (hn : a.length ≤ 63) : CC Tryz.prog 111 [secsV a, secsV b] H V (Pu (.sl .sh 2 ((runsN (dfN a b a.length)).map exC)) H V) := by
  refine CC.of_swp0 Tryz.func111 rfl (by kernel_rfl) (by rw [Tryz.ntmps111]; exact len_le _ _ rfl) fun hok hokH => ?_
  refine SWp0.seq (SWp.s0 (Wp.s ?_))
  simp -implicitDefEqProofs [go_sem, args0]
  refine SWp0.seq (SWp.s0 (Wp.s ?_))
  simp -implicitDefEqProofs [go_sem]
  refine SWp0.seq (SWp.s0 (Wp.s ?_))
  simp -implicitDefEqProofs [go_sem]
  refine SWp0.join (α := CV × List (Nat × Nat) × Hp × Int) (fun x => ([(5, .ptr H.length 0)], H ++ (some [x.1] :: some [ci x.2.2.2] :: some [secsV a] :: some [secsV b] :: none :: x.2.2.1), V)) (fun x => x.2.1 = runsN (dfN a b a.length) ∧ ExA H.length x.2.1 x.1 x.2.2.1) ?_ ?_
  · refine SWp0.seq (SWp.s0 (Wp.s ?_))
    simp -implicitDefEqProofs [go_sem]
    refine CC.mono (imDif_cc _ _ a b) ?_
    rintro _ _ _ ⟨rfl, rfl, rfl⟩
    simp -implicitDefEqProofs [go_sem]
    refine SWp0.block (SWp0.range [(5, .ptr H.length 0), (6, .ptr (H.length + 1) 0)] rfl (by simp -implicitDefEqProofs [go_sem]) ?_)
    simp -implicitDefEqProofs [go_sem]
    generalize hbd : Code.block 1 _ = bd
    generalize has : Code.region 4 _ _ = asg
    refine CC.mono (imDif1_cc _ V _ (H.length + 2) (H.length + 2 + 1) a b hab (by omega) (fun i G W => W = V ∧ ∃ cv Wg, G = H ++ (some [cv] :: some [ci (endE (runsN (dfN a b i)))] :: some [secsV a] :: some [secsV b] :: some [lpc 33 #[11] asg bd [(5, .ptr H.length 0), (6, .ptr (H.length + 1) 0)] .ready none] :: Wg) ∧ ExA H.length (runsN (dfN a b i)) cv Wg) ?_ ?_ ?_ ?_) ?_
    · exact ⟨rfl, _, [], rfl, .inl ⟨rfl, rfl⟩⟩
    · rintro i _ _ ⟨rfl, cv, Wg, rfl, hc⟩
      exact ⟨Go.Proofs.YtpedbpbmnchllaaGreatDoor.hget _ _ 2, Go.Proofs.YtpedbpbmnchllaaGreatDoor.hget _ _ 3⟩
    · rintro i hi he G V1 ⟨rfl, h⟩
      rw [dfN_eq he]
      exact ⟨rfl, h⟩
    · rintro x hx hne _ V1 ⟨rfl, cv, Wg, rfl, hc⟩
      have hbd0 : ∀ e ∈ runsN (dfN a b x), e.1 + e.2 ≤ x := runsN_bd dfN_lt
      have hll : (runsN (dfN a b x)).length ≤ 63 := by
        have := runsN_len (dfN a b x)
        have := dfN_len a b x
        omega
      rw [dfN_ne hne, runsN_snoc]
      generalize runsN (dfN a b x) = l at hc hbd0 hll ⊢
      have hes := endE_step l x
      refine YC.of_round (n := 33) (ps := #[11]) (bd := bd) (T := [(5, .ptr H.length 0), (6, .ptr (H.length + 1) 0)]) (Go.Proofs.YtpedbpbmnchllaaGreatDoor.hget _ _ 4) rfl (by decide) ?_
      subst hbd has
      refine Wp.s ?_
      simp -implicitDefEqProofs [go_sem, tps]
      generalize hlp : lpc 33 #[11] _ _ _ LoopState.busy none = lp
      generalize hqq : RQ 33 #[11] _ _ _ _ _ = QQ
      have w4 : IntKind.i64.wrap ((x : Int) + 1) = (x : Int) + 1 := IntWalk.i64_in _ ⟨by omega, by omega⟩
      rcases hc with ⟨rfl, rfl⟩ | ⟨j, l0, e, rfl, rfl, hj⟩
      · rw [endE_nil]
        refine SWp.block (SWp.seq (SWp.seq (Wp.s ?_)))
        simp -implicitDefEqProofs [go_sem, show ¬ (x : Int) = -1 by omega]
        refine SWp.condF (by simp [go_sem]) ?_
        refine SWp.opx (pre := [_, _, _, _]) (post := [_]) rfl (by intro c e; cases e) ?_
        simp -implicitDefEqProofs [go_sem]
        refine ⟨_, _, _, appboxN (sz := 2) (tk := .ti) (ys := [[ci x, ci 1]]) slTy94 slTy94 (by decide) rfl rfl (by simp) (by simp), ?_⟩
        simp -implicitDefEqProofs [go_sem]
        refine Wp.s ?_
        simp -implicitDefEqProofs [go_sem, w4]
        rw [← hqq, ← hlp]
        refine ⟨Go.Proofs.YtpedbpbmnchllaaGreatDoor.hget _ _ 4, rfl, rfl, .bsa (H.length + (Wg.length + 5)) 1 2, Wg ++ [some (exF [(x, 1)])], ?_, .inr ⟨Wg.length, [], (x, 1), rfl, rfl, by simp [exStep_nil]⟩⟩
        rw [List.set_append_right _ _ (by omega), Nat.add_sub_cancel_left, hes]
        simp [exF, exC]
      · have b1 := hbd0 e (by simp)
        rw [List.length_append, List.length_singleton] at hll
        have w1 : IntKind.i64.wrap ((l0.length : Int) + 1 - 1) = l0.length := by rw [IntWalk.i64_in _ ⟨by omega, by omega⟩]; omega
        have w1' : IntKind.i64.wrap (l0.length : Int) = l0.length := IntWalk.i64_in _ ⟨by omega, by omega⟩
        have w3 : IntKind.i64.wrap ((e.2 : Int) + 1) = ((e.2 + 1 : Nat) : Int) := by rw [IntWalk.i64_in _ ⟨by omega, by omega⟩]; omega
        have x0 : l0.length < l0.length + 1 := by omega
        rw [endE_snoc]
        refine SWp.block (SWp.seq (SWp.seq (Wp.s ?_)))
        by_cases hq : e.1 + e.2 = x
        · have hq' : (x : Int) = (e.1 : Int) + e.2 := by omega
          have hst : exStep (l0 ++ [e]) x = l0 ++ [(e.1, e.2 + 1)] := by rw [exStep_snoc, if_pos hq]
          have hjl := (List.getElem?_eq_some_iff.1 hj).1
          have w4' : IntKind.i64.wrap ((e.1 : Int) + e.2 + 1) = (x : Int) + 1 := by rw [← hq']; exact w4
          rw [hst] at hes
          simp -implicitDefEqProofs [go_sem, hq']
          refine Wp.s ?_
          simp -implicitDefEqProofs [go_sem, w1, w1', w3, hbx_of hj, exF_at1]
          refine ⟨by omega, by omega, by omega, ?_⟩
          refine Wp.s ?_
          simp -implicitDefEqProofs [go_sem, w4']
          rw [← hqq, ← hlp, hst]
          refine ⟨Go.Proofs.YtpedbpbmnchllaaGreatDoor.hget _ _ 4, rfl, rfl, .bsa (H.length + (j + 5)) (l0.length + 1) 2, Wg.set j (some (exF (l0 ++ [(e.1, e.2 + 1)]))), ?_, .inr ⟨j, l0, (e.1, e.2 + 1), rfl, by simp, by rw [List.getElem?_set_self hjl]⟩⟩
          rw [List.set_append_right _ _ (by omega), Nat.add_sub_cancel_left, hes, exF_take, exF_drop, exF_snoc]
          simp [exC]
        · have hq' : ¬ (x : Int) = (e.1 : Int) + e.2 := by omega
          have hst : exStep (l0 ++ [e]) x = l0 ++ [e] ++ [(x, 1)] := by rw [exStep_snoc, if_neg hq]
          rw [hst] at hes
          simp -implicitDefEqProofs [go_sem, hq']
          refine Wp.s ?_
          simp -implicitDefEqProofs [go_sem, hbx_of hj]
          refine ⟨by omega, ?_⟩
          refine Wp.s ?_
          simp -implicitDefEqProofs [go_sem, w4]
          rw [← hqq, ← hlp, hst]
          refine ⟨Go.Proofs.YtpedbpbmnchllaaGreatDoor.hget _ _ 4, rfl, rfl, .bsa (H.length + (Wg.length + 5)) (l0.length + 2) 2, Wg.set j none ++ [some (exF (l0 ++ [e] ++ [(x, 1)]))], ?_, .inr ⟨Wg.length, l0 ++ [e], (x, 1), rfl, by simp, by simp⟩⟩
          rw [List.set_append_right _ _ (by omega), Nat.add_sub_cancel_left, hes, exF_snoc (l0 ++ [e])]
          simp [exC]
    · rintro _ _ _ ⟨rfl, cv, Wg, rfl, hc⟩
      refine .inl ⟨Go.Proofs.YtpedbpbmnchllaaGreatDoor.hget _ _ 4, ?_⟩
      refine ⟨cv, _, Wg, ⟨rfl, hc⟩, endE (runsN (dfN a b a.length)), Sh.forget (by simp -implicitDefEqProofs [go_sem]) ?_ rfl⟩
      rw [List.set_append_right _ _ (by omega), Nat.add_sub_cancel_left]; rfl
  · rintro ⟨cv, l, W, z⟩ ⟨rfl, hc⟩
    dsimp only at hc ⊢
    refine SWp0.seq (SWp.s0 (Wp.s ?_))
    simp -implicitDefEqProofs [go_sem]
    refine SWp.s0 (Wp.s ?_)
    simp -implicitDefEqProofs [go_sem]
    rcases hc with ⟨rfl, hl⟩ | ⟨j, l0, e, hl, rfl, hj⟩
    · rw [hl]
      exact Fin.pu (.nil 2 (by decide)) (by simp [go_sem]) hokH (by simp) (by simp)
    · refine Fin.froz (b := H.length + (j + 5)) (cs := exF (runsN (dfN a b a.length))) (o := 0) (n := (runsN (dfN a b a.length)).length) (sz := 2) (xs := (runsN (dfN a b a.length)).map exC) ⟨rfl, rfl, rfl⟩ (.bsa _ _ _) ?_ (by rw [List.drop_zero, chunks_exF]) (by simp) (by omega) ?_ hokH (by simp) (by simp)
      · rw [get_W5]; exact hj
      · exact okE_exs _ _ _
end Go.Proofs.YtpedbpbmnchllaaGreatDoor
namespace Go.Proofs.YtpedbpbmnchllaaGreatDoor
open Go.Proofs
theorem eq_of_takeJ {α : Type} {x y : List α} {i : Nat} (hl : x.length = y.length) (h : x.length ≤ i) (e : x.take i = y.take i) : x = y := by
  rwa [List.take_of_length_le h, List.take_of_length_le (by omega)] at e
theorem take_eq_succJ {α : Type} {x y : List α} {i : Nat} (h : i < x.length) (h2 : i < y.length) (e : x.take i = y.take i) (he : x[i] = y[i]) : x.take (i + 1) = y.take (i + 1) := by
  rw [List.take_succ_eq_append_getElem h, List.take_succ_eq_append_getElem h2, e, he]
theorem ne_atJ {α : Type} {x y : List α} {i : Nat} (h : i < x.length) (h2 : i < y.length) (he : ¬ x[i] = y[i]) : ¬ x = y := fun e => he (by subst e; rfl)
theorem eqInts_cc (H : Hp) (V : List Nat) (t1 t2 : Tk) (x y : List Int) (hl : x.length ≤ 1000000000) : CC Tryz.prog 137 [.sl t1 1 (x.map ic), .sl t2 1 (y.map ic)] H V (Pu (.v (.bool (decide (x = y)))) H V) := by
  refine CC.of_swp Tryz.func137 rfl (by kernel_rfl) (by rw [Tryz.ntmps137]; exact len_le _ _ rfl) fun hok hokH => ?_
  clear hok
  refine SWp.seq (Wp.s ?_)
  simp -implicitDefEqProofs [go_sem, args0]
  refine SWp.seq (SWp.seq (Wp.s ?_))
  by_cases hlen : x.length = y.length
  case neg =>
    have hlen' : ¬ (x.length : Int) = (y.length : Int) := by omega
    simp -implicitDefEqProofs [go_sem, hlen']
    refine Wp.s ?_
    simp -implicitDefEqProofs [go_sem, hlen, hlen']
    exact Fin.bool (by simp [show x ≠ y from fun e => hlen (by rw [e])]) hokH (by simp) (by simp)
  simp -implicitDefEqProofs [go_sem, hlen]
  refine Wp.s ?_
  simp -implicitDefEqProofs [go_sem, hlen]
  refine SWp.join (α := Unit) (fun _ => ([], H, V)) (fun _ => x = y) ?_ ?_
  · refine SWp.seq (Wp.s ?_)
    simp -implicitDefEqProofs [go_sem]
    refine SWp.block ?_
    refine SWp.loop (α := Nat) (fun i => ([(0, .sl t1 1 (x.map ic)), (1, .sl t2 1 (y.map ic)), (12, ci x.length), (13, ci i)], H, V)) (fun i => i ≤ x.length ∧ x.take i = y.take i) (fun i => x.length - i) 0 ⟨Nat.zero_le _, rfl⟩ (Sh.forget (by simp [go_sem, hlen]) rfl rfl) ?_
    rintro i ⟨hi, hp⟩
    dsimp only
    refine SWp.seq (Wp.s ?_)
    simp -implicitDefEqProofs [go_sem]
    refine SWp.seq (Wp.s ?_)
    simp -implicitDefEqProofs [go_sem]
    refine ⟨fun h => ?_, fun h => ⟨eq_of_takeJ hlen h hp, Sh.forget (by simp [go_sem]) rfl rfl⟩⟩
    have h2 : i < y.length := by omega
    refine SWp.seq (SWp.block (SWp.seq (Wp.s ?_)))
    simp -implicitDefEqProofs [go_sem]
    refine SWp.seq (SWp.drawnT [] [] (.s 0 .pl <| .s 1 .pl <| .s 2 .pl <| .s 3 .pl <| .s 4 .pl <| .s 5 .pl <| .s 6 .pl <| .s 7 .pl <| .s 8 .pl <| .n) (by kernel_rfl) (by kernel_rfl) ?_)
    by_cases he : x[i] = y[i]
    · simp -implicitDefEqProofs [go_sem, h, h2, he]
      refine Wp.s ?_
      simp -implicitDefEqProofs [go_sem]
      refine Wp.s ?_
      simp -implicitDefEqProofs [go_sem]
      refine ⟨i + 1, ⟨by omega, take_eq_succJ h h2 hp he⟩, by omega, Sh.forget ?_ rfl rfl⟩
      simp [go_sem, wrap_succ (show i ≤ 1000000000 by omega)]
    · simp -implicitDefEqProofs [go_sem, h, h2, he]
      refine Wp.s ?_
      simp -implicitDefEqProofs [go_sem]
      exact Fin.bool (by simp [ne_atJ h h2 he]) hokH (by simp) (by simp)
  · rintro _ he
    dsimp only
    refine Wp.s ?_
    simp -implicitDefEqProofs [go_sem]
    exact Fin.bool (by simp [he]) hokH (by simp) (by simp)
theorem sz_int {a b : Img} (h : a.map List.length = b.map List.length) : imgSz a = imgSz b := by rw [sz_imgSz h, sz_imgSz rfl]
theorem imPair_cc (H : Hp) (V : List Nat) (a b : Img) (ha : sizesE (imgSz a) = 0) (h : a.map List.length = b.map List.length) (hl : a.length ≤ 1000) : CC Tryz.prog 110 [.sl .sh 1 (a.map imE), .sl .sh 1 (b.map imE)] H V (Pu (er 0) H V) := by
  refine CC.of_swp Tryz.func110 rfl (by kernel_rfl) (by rw [Tryz.ntmps110]; exact len_le _ _ rfl) fun hok hokH => ?_
  clear hok
  have hb : sizesE (imgSz b) = 0 := by rw [← sz_int h]; exact ha
  have hbl : b.length = a.length := by simpa using (congrArg List.length h).symm
  refine SWp.seq (Wp.s ?_)
  simp -implicitDefEqProofs [go_sem, args0]
  refine SWp.join (α := Unit) (fun _ => ([(0, .sl .sh 1 (a.map imE)), (1, .sl .sh 1 (b.map imE))], H, V)) (fun _ => True) ?_ ?_
  · refine SWp.seq (Wp.s ?_)
    simp -implicitDefEqProofs [go_sem]
    refine SWp.block ?_
    refine SWp.loop (α := Nat) (fun i => ([(0, .sl .sh 1 (a.map imE)), (1, .sl .sh 1 (b.map imE)), (10, .sl .sh 1 ([a, b].map fun l => [imV l])), (11, ci 2), (12, ci i)], H, V)) (fun i => i ≤ 2) (fun i => 2 - i) 0 (Nat.zero_le _) (Sh.forget (by simp [go_sem, imV]) rfl rfl) ?_
    intro i hi
    dsimp only
    have hl2 : [a, b].length = 2 := rfl
    have hab : ∀ x ∈ [a, b], sizesE (imgSz x) = 0 ∧ x.length ≤ 1000 := fun x hx => by
      rcases List.mem_cons.1 hx with rfl | hx
      · exact ⟨ha, hl⟩
      · obtain rfl := List.mem_singleton.1 hx; exact ⟨hb, by omega⟩
    generalize [a, b] = l at hl2 hab
    refine SWp.seq (Wp.s ?_)
    simp -implicitDefEqProofs [go_sem]
    refine SWp.seq (Wp.s ?_)
    simp -implicitDefEqProofs [go_sem]
    refine ⟨fun hil => ?_, fun hil => Sh.forget (by simp [go_sem]) rfl rfl⟩
    obtain ⟨x1, x2⟩ := hab l[i] (List.getElem_mem (by omega))
    refine SWp.seq (SWp.block (SWp.seq (Wp.s ?_)))
    simp -implicitDefEqProofs [go_sem, (show i < l.length by omega)]
    refine SWp.seq (Wp.s ?_)
    simp -implicitDefEqProofs [go_sem, imV]
    refine CC.mono (iCheck_cc _ _ .sh l[i] (by omega)) ?_
    rintro _ _ _ ⟨rfl, rfl, rfl⟩
    rw [x1]
    simp -implicitDefEqProofs [go_sem]
    refine SWp.seq (Wp.s ?_)
    simp -implicitDefEqProofs [go_sem]
    refine Wp.s ?_
    simp -implicitDefEqProofs [go_sem]
    refine Wp.s ?_
    simp -implicitDefEqProofs [go_sem]
    refine ⟨i + 1, by omega, by omega, Sh.forget ?_ rfl rfl⟩
    simp [go_sem, wrap_succ (show i ≤ 1000000000 by omega)]
  rintro _ -
  dsimp only
  refine SWp.seq (SWp.seq (Wp.s ?_))
  simp -implicitDefEqProofs [go_sem]
  refine CC.mono (sizes_cc _ _ .sh a (by omega)) ?_
  rintro _ _ _ ⟨k1, rfl, rfl, rfl⟩
  simp -implicitDefEqProofs [go_sem]
  refine CC.mono (sizes_cc _ _ .sh b (by omega)) ?_
  rintro _ _ _ ⟨k2, rfl, rfl, rfl⟩
  simp -implicitDefEqProofs [go_sem]
  refine CC.mono (eqInts_cc _ _ _ _ (imgSz a) (imgSz b) (by rw [imgSz, List.length_map]; omega)) ?_
  rintro _ _ _ ⟨rfl, rfl, rfl⟩
  rw [decide_eq_true (sz_int h)]
  simp -implicitDefEqProofs [go_sem]
  refine Wp.s ?_
  simp -implicitDefEqProofs [go_sem]
  refine SWp.seq (Wp.s ?_)
  simp -implicitDefEqProofs [go_sem]
  refine Wp.s ?_
  simp -implicitDefEqProofs [go_sem]
  exact Fin.er rfl hokH (by simp) (by simp)
end Go.Proofs.YtpedbpbmnchllaaGreatDoor
namespace Go.Proofs.YtpedbpbmnchllaaGreatDoor
open Go.Proofs
def dfE (a b : Img) (n : Nat) : List (List (Nat × Nat)) := (List.range n).map fun v => runsN (dfN (imAt a v) (imAt b v) (imAt a v).length)
theorem dfE_succ (a b : Img) (n : Nat) : dfE a b (n + 1) = dfE a b n ++ [runsN (dfN (imAt a n) (imAt b n) (imAt a n).length)] := by rw [dfE, List.range_succ, List.map_append]; rfl
theorem dfE_len (a b : Img) (n : Nat) : (dfE a b n).length = n := by simp [dfE]
theorem imAt_get {k : Img} {v : Nat} (h : v < k.length) : imAt k v = k[v] := by rw [imAt, List.getD_eq_getElem?_getD, List.getElem?_eq_getElem h]; rfl
theorem imDiffer_cc (H : Hp) (V : List Nat) (a b : Img) (ha : sizesE (imgSz a) = 0) (h : a.map List.length = b.map List.length) (hs : ∀ v ∈ a, v.length ≤ 63) : CC Tryz.prog 70 [.sl .sh 1 (a.map imE), .sl .sh 1 (b.map imE)] H V (Pu (.tup [.sl .sh 1 ((dfE a b a.length).map mxsE), er 0]) H V) := by
  refine CC.of_swp Tryz.func70 rfl (by kernel_rfl) (by rw [Tryz.ntmps70]; exact len_le _ _ rfl) fun hok hokH => ?_
  clear hok
  have hl8 := (sizes_pos ha).1
  have hbl : b.length = a.length := by simpa using (congrArg List.length h).symm
  refine SWp.seq (Wp.s ?_)
  simp -implicitDefEqProofs [go_sem, args0]
  refine SWp.seq (SWp.seq (Wp.s ?_))
  simp -implicitDefEqProofs [go_sem]
  refine CC.mono (imPair_cc _ _ a b ha h (by omega)) ?_
  rintro _ _ _ ⟨rfl, rfl, rfl⟩
  simp -implicitDefEqProofs [go_sem]
  refine SWp.seq (Wp.s ?_)
  simp -implicitDefEqProofs [go_sem]
  refine Wp.s ?_
  simp -implicitDefEqProofs [go_sem]
  refine SWp.seq (Wp.s ?_)
  simp -implicitDefEqProofs [go_sem]
  refine SWp.join (α := Nat) (fun k => ([(7, .sl (.own V.length k) 1 ((dfE a b a.length).map mxsE))], H, V ++ [k])) (fun _ => True) ?_ ?_
  · refine SWp.seq (Wp.s ?_)
    simp -implicitDefEqProofs [go_sem]
    refine SWp.block ?_
    refine SWp.loop (α := Nat × Nat) (fun u => ([(0, .sl .sh 1 (a.map imE)), (1, .sl .sh 1 (b.map imE)), (7, .sl (.own V.length u.2) 1 ((dfE a b u.1).map mxsE)), (16, ci a.length), (17, ci u.1)], H, V ++ [u.2])) (fun u => u.1 ≤ a.length) (fun u => a.length - u.1) (0, 0) (Nat.zero_le _) (Sh.tokT (by simp [go_sem, dfE]) rfl rfl) ?_
    rintro ⟨i, k⟩ hi
    dsimp only at hi ⊢
    refine SWp.seq (Wp.s ?_)
    simp -implicitDefEqProofs [go_sem]
    refine SWp.seq (Wp.s ?_)
    simp -implicitDefEqProofs [go_sem]
    refine ⟨fun hil => ?_, fun hil => ?_⟩
    case refine_2 =>
      obtain rfl : i = a.length := by omega
      exact ⟨k, Sh.forget (by simp [go_sem]) rfl rfl⟩
    have h2 : i < b.length := by omega
    have hsl := hs _ (List.getElem_mem hil)
    have hab : a[i].length = b[i].length := by
      have := congrArg (fun l : List Nat => l[i]?) h
      simpa [hil, h2] using this
    have hts := dfE_succ a b i
    rw [imAt_get hil, imAt_get h2] at hts
    have hln := dfE_len a b i
    refine SWp.seq (SWp.block (SWp.seq (Wp.s ?_)))
    simp -implicitDefEqProofs [go_sem]
    refine SWp.drawnT [] [] (.s 0 .pl <| .s 1 .pl <| .s 2 .pl <| .s 3 .pl <| .s 4 .pl <| .s 5 .pl <| .s 6 .pl <| .s 7 .pl <| .s 8 .pl <| .s 9 .pl <| .s 10 .pl <| .s 11 .pl <| .s 12 .pl <| .n) (by kernel_rfl) (by kernel_rfl) ?_
    simp -implicitDefEqProofs [go_sem, hil, h2]
    refine CC.mono (imEx_cc _ _ a[i] b[i] hab hsl) ?_
    rintro _ _ _ ⟨rfl, rfl, rfl⟩
    simp -implicitDefEqProofs [go_sem]
    refine ⟨by omega, ?_⟩
    refine Wp.s ?_
    simp -implicitDefEqProofs [go_sem]
    refine ⟨i + 1, by omega, by omega, k + 1, ?_⟩
    rw [hts, List.map_append]
    refine Sh.trim0 ?_ (by simp [go_sem, okE_ims, okE_exss1]) hokH (by simp) (by simp) (by simp)
    simp [go_sem, wrap_succ (show i ≤ 1000000000 by omega), mxsE]
  rintro k -
  dsimp only
  refine SWp.seq (Wp.s ?_)
  simp -implicitDefEqProofs [go_sem]
  refine Wp.s ?_
  simp -implicitDefEqProofs [go_sem]
  exact Fin.pu (.tup (.cons (.sh _ _ _) (.cons (.refl _) .nil))) (by simp [go_sem, okE_exss]) hokH (by simp) (by simp)
def cntE (l : List (Nat × Nat)) : Nat := (l.map (·.2)).sum
theorem cntE_snoc (l : List (Nat × Nat)) (e : Nat × Nat) : cntE (l ++ [e]) = cntE l + e.2 := by simp [cntE]
theorem cntE_flat : ∀ l : List (Nat × Nat), cntE l = (l.flatMap fun e => List.range' e.1 e.2).length
  | [] => rfl
  | e :: l => by
    have := cntE_flat l
    rw [cntE] at this ⊢
    rw [List.map_cons, List.sum_cons, this, List.flatMap_cons, List.length_append, List.length_range']
theorem cntE_runs (xs : List Nat) : cntE (runsN xs) = xs.length := by rw [cntE_flat, runsN_flat]
theorem cntE_take (l : List (Nat × Nat)) (k : Nat) : cntE (l.take k) ≤ cntE l := by
  have := List.take_append_drop k l
  have h2 : cntE l = cntE (l.take k) + cntE (l.drop k) := by
    rw [cntE, cntE, cntE, ← List.sum_append, ← List.map_append, this]
  omega
theorem least_cc (H : Hp) (V : List Nat) (a b : Img) (ha : sizesE (imgSz a) = 0) (h : a.map List.length = b.map List.length) (hs : ∀ v ∈ a, v.length ≤ 63) : CC Tryz.prog 20 [.sl .sh 1 (a.map imE), .sl .sh 1 (b.map imE)] H V (Pu (.tup [ci (dfI a b a.length : Nat), er 0]) H V) := by
  refine CC.of_swp Tryz.func20 rfl (by kernel_rfl) (by rw [Tryz.ntmps20]; exact len_le _ _ rfl) fun hok hokH => ?_
  clear hok
  have hl8 := (sizes_pos ha).1
  have hbd : ∀ n, n ≤ a.length → dfI a b n ≤ n * 63 := by
    intro n
    induction n with
    | zero => intro _; simp [dfI]
    | succ n ih =>
      intro hn
      rw [dfI_succ]
      have h1 := ih (by omega)
      have h2 := hs a[n] (List.getElem_mem _)
      have h3 : imAt a n = a[n] := imAt_get (by omega)
      have h4 := dfK_le (imAt a n) (imAt b n) (imAt a n).length
      rw [dfV]
      rw [h3] at h4 ⊢
      omega
  refine SWp.seq (Wp.s ?_)
  simp -implicitDefEqProofs [go_sem, args0]
  refine SWp.seq (Wp.s ?_)
  simp -implicitDefEqProofs [go_sem]
  refine CC.mono (imDiffer_cc _ _ a b ha h hs) ?_
  rintro _ _ _ ⟨rfl, rfl, rfl⟩
  simp -implicitDefEqProofs [go_sem]
  refine SWp.seq (SWp.seq (Wp.s ?_))
  simp -implicitDefEqProofs [go_sem]
  refine Wp.s ?_
  simp -implicitDefEqProofs [go_sem]
  refine SWp.seq (Wp.s ?_)
  simp -implicitDefEqProofs [go_sem]
  have hln := dfE_len a b a.length
  refine SWp.join (α := Unit) (fun _ => ([(8, ci (dfI a b a.length : Nat))], H, V)) (fun _ => True) ?_ ?_
  · refine SWp.seq (Wp.s ?_)
    simp -implicitDefEqProofs [go_sem]
    refine SWp.block ?_
    refine SWp.loop (α := Nat) (fun v => ([(8, ci (dfI a b v : Nat)), (22, .sl .sh 1 ((dfE a b a.length).map mxsE)), (23, ci a.length), (24, ci v)], H, V)) (fun v => v ≤ a.length) (fun v => a.length - v) 0 (Nat.zero_le _) (Sh.forget (by simp [go_sem, dfI, hln]) rfl rfl) ?_
    intro v hv
    dsimp only
    refine SWp.seq (Wp.s ?_)
    simp -implicitDefEqProofs [go_sem]
    refine SWp.seq (Wp.s ?_)
    simp -implicitDefEqProofs [go_sem]
    refine ⟨fun hvl => ?_, fun hvl => ?_⟩
    case refine_2 =>
      obtain rfl : v = a.length := by omega
      exact Sh.forget (by simp [go_sem]) rfl rfl
    have hvd : v < (dfE a b a.length).length := by omega
    have hg : (dfE a b a.length)[v] = runsN (dfN (imAt a v) (imAt b v) (imAt a v).length) := by simp [dfE]
    have hs1 := dfI_succ a b v
    have hd1 : dfV (imAt a v) (imAt b v) = cntE (dfE a b a.length)[v] := by rw [hg, cntE_runs]; rfl
    have hb1 := hbd (v + 1) (by omega)
    have hE1 : (dfE a b a.length)[v].length ≤ 63 := by
      rw [hg]
      have := runsN_len (dfN (imAt a v) (imAt b v) (imAt a v).length)
      have := dfN_len (imAt a v) (imAt b v) (imAt a v).length
      have h2 := hs a[v] (List.getElem_mem _)
      rw [imAt_get hvl] at *
      omega
    rw [hd1] at hs1
    refine SWp.seq (SWp.block (SWp.seq (Wp.s ?_)))
    simp -implicitDefEqProofs [go_sem, hvd]
    refine SWp.seq (Wp.s ?_)
    simp -implicitDefEqProofs [go_sem]
    generalize (dfE a b a.length)[v] = E at hE1 hs1
    refine SWp.block ?_
    refine SWp.loop (α := Nat) (fun k => ([(8, ci (dfI a b v + cntE (E.take k) : Nat)), (22, .sl .sh 1 ((dfE a b a.length).map mxsE)), (23, ci a.length), (24, ci v), (28, .sl .sh 2 (E.map exC)), (29, ci E.length), (30, ci k)], H, V)) (fun k => k ≤ E.length) (fun k => E.length - k) 0 (Nat.zero_le _) (Sh.forget (by simp [go_sem, cntE, mxsE]) rfl rfl) ?_
    intro k hk
    dsimp only
    refine SWp.seq (Wp.s ?_)
    simp -implicitDefEqProofs [go_sem]
    refine SWp.seq (Wp.s ?_)
    simp -implicitDefEqProofs [go_sem]
    refine ⟨fun hkl => ?_, fun hkl => ?_⟩
    case refine_2 =>
      obtain rfl : k = E.length := by omega
      rw [List.take_of_length_le (Nat.le_refl _)]
      refine Wp.s ?_
      simp -implicitDefEqProofs [go_sem]
      refine ⟨v + 1, by omega, by omega, Sh.forget ?_ rfl rfl⟩
      rw [hs1]
      simp [go_sem, wrap_succ (show v ≤ 1000000000 by omega)]
    have hts : cntE (E.take (k + 1)) = cntE (E.take k) + E[k].2 := by rw [List.take_succ_eq_append_getElem hkl, cntE_snoc]
    have htl := cntE_take E (k + 1)
    have w1 : IntKind.i64.wrap ((dfI a b v : Int) + (cntE (E.take k) : Int) + (E[k].2 : Int)) = (dfI a b v : Int) + (cntE (E.take (k + 1)) : Int) := by rw [IntWalk.i64_in _ ⟨by omega, by omega⟩]; omega
    refine SWp.seq (SWp.block (SWp.seq (Wp.s ?_)))
    simp -implicitDefEqProofs [go_sem, hkl]
    rw [show exC E[k] = [ci (E[k].1 : Nat), ci (E[k].2 : Nat)] from rfl]
    refine Wp.s ?_
    simp -implicitDefEqProofs [go_sem, w1]
    refine Wp.s ?_
    simp -implicitDefEqProofs [go_sem]
    refine ⟨k + 1, by omega, by omega, ?_⟩
    refine Sh.trim0 ?_ (by simp [go_sem, okE_exs, okE_exss]) hokH (by simp) (by simp) (by simp)
    simp [go_sem, wrap_succ (show k ≤ 1000000000 by omega)]
  rintro _ -
  dsimp only
  refine SWp.seq (Wp.s ?_)
  simp -implicitDefEqProofs [go_sem]
  refine Wp.s ?_
  simp -implicitDefEqProofs [go_sem]
  exact Fin.pu (.refl _) (by simp [go_sem]) hokH (by simp) (by simp)
theorem cosec_cc (H : Hp) (V : List Nat) (ws : List Wr) (hl : ws.length ≤ 1000000) (hw : ∀ w ∈ ws, w.data.length ≤ 1000000) : CC Tryz.prog 73 [.sl .sh 3 (ws.map wrC)] H V (Pu (ci (secN ws : Nat)) H V) := by
  refine CC.of_swp Tryz.func73 rfl (by kernel_rfl) (by rw [Tryz.ntmps73]; exact len_le _ _ rfl) fun hok hokH => ?_
  clear hok
  refine SWp.seq (Wp.s ?_)
  simp -implicitDefEqProofs [go_sem, args0]
  refine SWp.seq (Wp.s ?_)
  simp -implicitDefEqProofs [go_sem]
  refine SWp.join (α := Unit) (fun _ => ([(3, ci (secN ws : Nat))], H, V)) (fun _ => True) ?_ ?_
  · refine SWp.seq (Wp.s ?_)
    simp -implicitDefEqProofs [go_sem]
    refine SWp.block ?_
    refine SWp.loop (α := Nat) (fun i => ([(3, ci (secN (ws.take i) : Nat)), (6, .sl .sh 3 (ws.map wrC)), (7, ci ws.length), (8, ci i)], H, V)) (fun i => i ≤ ws.length) (fun i => ws.length - i) 0 (Nat.zero_le _) (Sh.forget (by simp [go_sem, secN]) rfl rfl) ?_
    intro i hi
    dsimp only
    refine SWp.seq (Wp.s ?_)
    simp -implicitDefEqProofs [go_sem]
    refine SWp.seq (Wp.s ?_)
    simp -implicitDefEqProofs [go_sem]
    refine ⟨fun h => ?_, fun h => ?_⟩
    case refine_2 =>
      rw [List.take_of_length_le (by omega)]
      exact Sh.forget (by simp [go_sem]) rfl rfl
    have h1 := secN_le (n := 1000000) (ws.take i) fun x hx => hw x (List.mem_of_mem_take hx)
    have h2 := hw ws[i] (List.getElem_mem h)
    have h3 := secN_snoc (ws.take i) ws[i]
    rw [← List.take_succ_eq_append_getElem h] at h3
    rw [List.length_take] at h1
    have h4 : min i ws.length * 1000000 ≤ 1000000 * 1000000 := Nat.mul_le_mul_right _ (by omega)
    have w1 : IntKind.i64.wrap ((secN (ws.take i) : Int) + ws[i].data.length) = (secN (ws.take (i + 1)) : Int) := by rw [IntWalk.i64_in _ ⟨by omega, by omega⟩]; omega
    refine SWp.seq (SWp.block (SWp.seq (Wp.s ?_)))
    simp -implicitDefEqProofs [go_sem, h]
    refine Wp.s ?_
    simp -implicitDefEqProofs [go_sem, w1]
    refine Wp.s ?_
    simp -implicitDefEqProofs [go_sem]
    refine ⟨i + 1, by omega, by omega, ?_⟩
    refine Sh.trim0 ?_ (by simp [go_sem, okE_wrs]) hokH (by simp) (by simp) (by simp)
    simp [go_sem, wrap_succ (show i ≤ 1000000000 by omega)]
  rintro _ -
  dsimp only
  refine SWp.seq (Wp.s ?_)
  simp -implicitDefEqProofs [go_sem]
  refine Wp.s ?_
  simp -implicitDefEqProofs [go_sem]
  exact Fin.int rfl hokH (by simp) (by simp)
theorem transf_cc (H : Hp) (V : List Nat) (c : Cyc) (hl : c.wrs.length ≤ 1000000) (hw : ∀ w ∈ c.wrs, w.data.length ≤ 1000000) : CC Tryz.prog 23 [.sl .sh 5 ([c].map cycC)] H V (Pu (ci (secN c.wrs : Nat)) H V) := by
  refine CC.of_swp Tryz.func23 rfl (by kernel_rfl) (by rw [Tryz.ntmps23]; exact len_le _ _ rfl) fun hok hokH => ?_
  clear hok
  have h1 := secN_le (n := 1000000) c.wrs hw
  have h4 : c.wrs.length * 1000000 ≤ 1000000 * 1000000 := Nat.mul_le_mul_right _ hl
  have w1 : IntKind.i64.wrap (0 + (secN c.wrs : Int)) = (secN c.wrs : Int) := by rw [IntWalk.i64_in _ ⟨by omega, by omega⟩]; omega
  have w1' : IntKind.i64.wrap (secN c.wrs : Int) = (secN c.wrs : Int) := by rw [IntWalk.i64_in _ ⟨by omega, by omega⟩]
  have hl1 : [c].length = 1 := rfl
  have hc0 : ∀ h : 0 < [c].length, [c][0] = c := fun _ => rfl
  generalize [c] = l at hl1 hc0
  refine SWp.seq (Wp.s ?_)
  simp -implicitDefEqProofs [go_sem, args0]
  refine SWp.seq (Wp.s ?_)
  simp -implicitDefEqProofs [go_sem]
  refine SWp.join (α := Unit) (fun _ => ([(3, ci (secN c.wrs : Nat))], H, V)) (fun _ => True) ?_ ?_
  · refine SWp.seq (Wp.s ?_)
    simp -implicitDefEqProofs [go_sem]
    refine SWp.block ?_
    refine SWp.loop (α := Nat) (fun i => ([(3, ci (if i = 0 then 0 else (secN c.wrs : Int))), (6, .sl .sh 5 (l.map cycC)), (7, ci 1), (8, ci i)], H, V)) (fun i => i ≤ 1) (fun i => 1 - i) 0 (Nat.zero_le _) (Sh.forget (by simp [go_sem, hl1]) rfl rfl) ?_
    intro i hi
    dsimp only
    rcases (show i = 1 ∨ i = 0 by omega) with rfl | rfl
    · refine SWp.seq (Wp.s ?_)
      simp -implicitDefEqProofs [go_sem]
      refine SWp.seq (Wp.s ?_)
      simp -implicitDefEqProofs [go_sem]
      exact Sh.forget (by simp [go_sem]) rfl rfl
    · have h0 : 0 < l.length := by omega
      refine SWp.seq (Wp.s ?_)
      simp -implicitDefEqProofs [go_sem]
      refine SWp.seq (Wp.s ?_)
      simp -implicitDefEqProofs [go_sem]
      refine SWp.seq (SWp.block (SWp.seq (Wp.s ?_)))
      simp -implicitDefEqProofs [go_sem, h0, hc0]
      refine Wp.s ?_
      simp -implicitDefEqProofs [go_sem]
      refine CC.mono (cosec_cc _ _ c.wrs hl hw) ?_
      rintro _ _ _ ⟨rfl, rfl, rfl⟩
      simp -implicitDefEqProofs [go_sem, w1, w1']
      refine Wp.s ?_
      simp -implicitDefEqProofs [go_sem]
      refine ⟨1, by omega, by omega, ?_⟩
      refine Sh.trim0 ?_ (by simp [go_sem]) hokH (by simp) (by simp) (by simp)
      simp [go_sem]
      rw [show IntKind.i64.wrap (1 : Int) = 1 from rfl]
      exact .refl _
  rintro _ -
  dsimp only
  refine SWp.seq (Wp.s ?_)
  simp -implicitDefEqProofs [go_sem]
  refine Wp.s ?_
  simp -implicitDefEqProofs [go_sem]
  exact Fin.int rfl hokH (by simp) (by simp)
end Go.Proofs.YtpedbpbmnchllaaGreatDoor
namespace Go.Proofs.YtpedbpbmnchllaaGreatDoor
open Go.Proofs
theorem flatExt : FlatEq Tryz.prog 96 [.i64, .i64] := flatEq_pair Tryz.underlying96 rfl rfl rfl rfl (by decide) (by decide) Tryz.underlying3 (by kernel_rfl) (by kernel_rfl)
theorem fits_exC (e : Nat × Nat) : fits [.i64, .i64] (exC e) := fits_rep .i64 [(e.1 : Int), (e.2 : Int)]
theorem sameX02_cc (H : Hp) (V : List Nat) (t1 t2 : Tk) (x : List (Nat × Nat)) (hl : x.length ≤ 1000000) : CC Tryz.prog 71 [.sl t1 2 (x.map exC), .sl t2 2 (x.map exC)] H V (Pu (cb true) H V) := by
  refine CC.of_swp Tryz.func71 rfl (by kernel_rfl) (by rw [Tryz.ntmps71]; exact len_le _ _ rfl) fun hok hokH => ?_
  clear hok
  refine SWp.seq (Wp.s ?_)
  simp -implicitDefEqProofs [go_sem, args0]
  refine SWp.seq (SWp.seq (Wp.s ?_))
  simp -implicitDefEqProofs [go_sem]
  refine Wp.s ?_
  simp -implicitDefEqProofs [go_sem]
  refine SWp.join (α := Unit) (fun _ => ([], H, V)) (fun _ => True) ?_ ?_
  · refine SWp.seq (Wp.s ?_)
    simp -implicitDefEqProofs [go_sem]
    refine SWp.block ?_
    refine SWp.loop (α := Nat) (fun i => ([(0, .sl t1 2 (x.map exC)), (1, .sl t2 2 (x.map exC)), (5, ci i)], H, V)) (fun i => i ≤ x.length) (fun i => x.length - i) 0 (Nat.zero_le _) (Sh.forget (by simp [go_sem]) rfl rfl) ?_
    intro i hi
    dsimp only
    refine SWp.seq (SWp.seq (Wp.s ?_))
    simp -implicitDefEqProofs [go_sem]
    refine Wp.s ?_
    simp -implicitDefEqProofs [go_sem]
    refine ⟨fun h => ?_, fun h => Sh.forget (by simp [go_sem]) rfl rfl⟩
    refine SWp.seq (SWp.block (SWp.seq (SWp.drawnT [] [] (.s 0 .pl <| .s 1 .pl <| .s 2 .pl <| .s 3 .pl <| .s 4 .pl <| .s 5 .pl <| .s 6 .pl <| .s 7 .pl <| .s 8 .pl <| .n) (by kernel_rfl) (by kernel_rfl) ?_)))
    simp -implicitDefEqProofs [go_sem, h]
    refine ⟨_, flatExt, fits_exC _, ?_⟩
    refine Wp.s ?_
    simp -implicitDefEqProofs [go_sem]
    refine Wp.s ?_
    simp -implicitDefEqProofs [go_sem]
    refine ⟨i + 1, by omega, by omega, Sh.forget ?_ rfl rfl⟩
    simp [go_sem, wrap_succ (show i ≤ 1000000000 by omega)]
  rintro _ -
  dsimp only
  refine SWp.seq (Wp.s ?_)
  simp -implicitDefEqProofs [go_sem]
  refine Wp.s ?_
  simp -implicitDefEqProofs [go_sem]
  exact Fin.bool rfl hokH (by simp) (by simp)
theorem sameX47_cc (H : Hp) (V : List Nat) (t1 t2 : Tk) (x : List (List (Nat × Nat))) (hl : x.length ≤ 1000000) (hx : ∀ e ∈ x, e.length ≤ 1000000) : CC Tryz.prog 21 [.sl t1 1 (x.map mxsE), .sl t2 1 (x.map mxsE)] H V (Pu (cb true) H V) := by
  refine CC.of_swp Tryz.func21 rfl (by kernel_rfl) (by rw [Tryz.ntmps21]; exact len_le _ _ rfl) fun hok hokH => ?_
  clear hok
  refine SWp.seq (Wp.s ?_)
  simp -implicitDefEqProofs [go_sem, args0]
  refine SWp.seq (SWp.seq (Wp.s ?_))
  simp -implicitDefEqProofs [go_sem]
  refine Wp.s ?_
  simp -implicitDefEqProofs [go_sem]
  refine SWp.join (α := Unit) (fun _ => ([], H, V)) (fun _ => True) ?_ ?_
  · refine SWp.seq (Wp.s ?_)
    simp -implicitDefEqProofs [go_sem]
    refine SWp.block ?_
    refine SWp.loop (α := Nat) (fun i => ([(0, .sl t1 1 (x.map mxsE)), (1, .sl t2 1 (x.map mxsE)), (5, ci i)], H, V)) (fun i => i ≤ x.length) (fun i => x.length - i) 0 (Nat.zero_le _) (Sh.forget (by simp [go_sem]) rfl rfl) ?_
    intro i hi
    dsimp only
    refine SWp.seq (SWp.seq (Wp.s ?_))
    simp -implicitDefEqProofs [go_sem]
    refine Wp.s ?_
    simp -implicitDefEqProofs [go_sem]
    refine ⟨fun h => ?_, fun h => Sh.forget (by simp [go_sem]) rfl rfl⟩
    refine SWp.seq (SWp.block (SWp.seq (SWp.drawnT [] [] (.s 0 .pl <| .s 1 .pl <| .s 2 .pl <| .s 3 .pl <| .s 4 .pl <| .s 5 .pl <| .s 6 .pl <| .s 7 .pl <| .s 8 .pl <| .s 9 .pl <| .n) (by kernel_rfl) (by kernel_rfl) ?_)))
    simp -implicitDefEqProofs [go_sem, h]
    refine CC.mono (sameX02_cc _ _ .sh .sh x[i] (hx _ (List.getElem_mem h))) ?_
    rintro _ _ _ ⟨rfl, rfl, rfl⟩
    simp -implicitDefEqProofs [go_sem]
    refine Wp.s ?_
    simp -implicitDefEqProofs [go_sem]
    refine Wp.s ?_
    simp -implicitDefEqProofs [go_sem]
    refine ⟨i + 1, by omega, by omega, Sh.forget ?_ rfl rfl⟩
    simp [go_sem, wrap_succ (show i ≤ 1000000000 by omega)]
  rintro _ -
  dsimp only
  refine SWp.seq (Wp.s ?_)
  simp -implicitDefEqProofs [go_sem]
  refine Wp.s ?_
  simp -implicitDefEqProofs [go_sem]
  exact Fin.bool rfl hokH (by simp) (by simp)
theorem rExtents_cc (H : Hp) (V : List Nat) (p q : Pt) (h : Pt2 p q) : CC Tryz.prog 19 [.agg (ptC p), .agg (ptC q)] H V (Pu (.tup [.sl .sh 1 ((mkd p q).map mxsE), er 0]) H V) := by
  refine CC.of_swp Tryz.func19 rfl (by kernel_rfl) (by rw [Tryz.ntmps19]; exact len_le _ _ rfl) fun hok hokH => ?_
  clear hok
  refine SWp.seq (Wp.s ?_)
  simp -implicitDefEqProofs [go_sem, args0]
  refine SWp.seq (Wp.s ?_)
  simp -implicitDefEqProofs [go_sem]
  refine CC.mono (between_cc2 _ _ p q h) ?_
  rintro _ _ _ ⟨rfl, rfl, rfl⟩
  simp -implicitDefEqProofs [go_sem]
  refine Wp.s ?_
  simp -implicitDefEqProofs [go_sem]
  exact Fin.pu (.refl _) (by simp [go_sem, okE_exss]) hokH (by simp) (by simp)
theorem undo_cc (H : Hp) (V : List Nat) (p : Pt) (hp : PtOk p) (x : Nat) (hx : 3 ≤ x) (hl : p.lin = linO x) : CC Tryz.prog 69 [.agg (ptC p), ci 3] H V (Pu (.tup [.sl .sh 1 ((mxP p.dirty).map mxsE), er 0]) H V) := by
  refine CC.of_swp Tryz.func69 rfl (by kernel_rfl) (by rw [Tryz.ntmps69]; exact len_le _ _ rfl) fun hok hokH => ?_
  clear hok
  have hlen := hp.len
  have hfew := hp.few
  refine SWp.seq (Wp.s ?_)
  simp -implicitDefEqProofs [go_sem, args0]
  refine SWp.seq (SWp.seq (Wp.s ?_))
  simp -implicitDefEqProofs [go_sem]
  refine CC.mono (ptCheck_cc _ _ p hp) ?_
  rintro _ _ _ ⟨rfl, rfl, rfl⟩
  simp -implicitDefEqProofs [go_sem]
  refine SWp.seq (Wp.s ?_)
  simp -implicitDefEqProofs [go_sem]
  refine Wp.s ?_
  simp -implicitDefEqProofs [go_sem]
  refine SWp.seq (SWp.seq (Wp.s ?_))
  simp -implicitDefEqProofs [go_sem, hl]
  refine CC.mono (rlast_cc _ _ (linO x) 0 (by simp [linO]) (by simp [linO]) rfl) ?_
  rintro _ _ _ ⟨rfl, rfl, rfl⟩
  rw [show (linO x)[0]'(by simp [linO]) = ⟨1, 1, x⟩ from rfl]
  simp -implicitDefEqProofs [go_sem, show ¬ (x : Int) < 3 by omega]
  refine Wp.s ?_
  simp -implicitDefEqProofs [go_sem]
  refine SWp.seq (Wp.s ?_)
  simp -implicitDefEqProofs [go_sem]
  have hbs : ∀ b ∈ p.dirty, BmOk b := fun b hb => by
    obtain ⟨i, hi, rfl⟩ := List.getElem_of_mem hb
    exact (hp.dirty i hi (by omega)).1
  refine CC.mono (volumesX_cc _ _ p.dirty (by omega) hbs) ?_
  rintro _ _ _ ⟨rfl, rfl, rfl⟩
  simp -implicitDefEqProofs [go_sem]
  refine Wp.s ?_
  simp -implicitDefEqProofs [go_sem]
  exact Fin.pu (.refl _) (by simp [go_sem, okE_exss]) hokH (by simp) (by simp)
def shortL (l : List Wr) : Bool := decide (l.length ≤ 10) && l.all fun w => decide (w.data.length ≤ 12)
theorem shortL_1 {l : List Wr} (h : shortL l = true) : l.length ≤ 10 ∧ ∀ w ∈ l, w.data.length ≤ 12 := by
  rw [shortL, Bool.and_eq_true, decide_eq_true_eq, List.all_eq_true] at h
  exact ⟨h.1, fun w hw => by simpa using h.2 w hw⟩
theorem shortL_0 {l : List Wr} (h : l.length ≤ 10) (h2 : ∀ w ∈ l, w.data.length ≤ 12) : shortL l = true := by
  rw [shortL, Bool.and_eq_true, decide_eq_true_eq, List.all_eq_true]
  exact ⟨h, fun w hw => by simpa using h2 w hw⟩
theorem short_cc (H : Hp) (V : List Nat) (x : List (List Wr)) (hl : x.length ≤ 1000000) : CC Tryz.prog 15 [.sl .ti 1 (x.map wlE)] H V (Pu (cb (x.all shortL)) H V) := by
  refine CC.of_swp Tryz.func15 rfl (by kernel_rfl) (by rw [Tryz.ntmps15]; exact len_le _ _ rfl) fun hok hokH => ?_
  clear hok
  refine SWp.seq (Wp.s ?_)
  simp -implicitDefEqProofs [go_sem, args0]
  refine SWp.join (α := Unit) (fun _ => ([], H, V)) (fun _ => x.all shortL = true) ?_ ?_
  · refine SWp.seq (Wp.s ?_)
    simp -implicitDefEqProofs [go_sem]
    refine SWp.block ?_
    refine SWp.loop (α := Nat) (fun i => ([(0, .sl .ti 1 (x.map wlE)), (3, ci i)], H, V)) (fun i => i ≤ x.length ∧ ∀ l ∈ x.take i, shortL l = true) (fun i => x.length - i) 0 ⟨Nat.zero_le _, by simp⟩ (Sh.forget (by simp [go_sem]) rfl rfl) ?_
    rintro i ⟨hi, hp⟩
    dsimp only
    refine SWp.seq (SWp.seq (Wp.s ?_))
    simp -implicitDefEqProofs [go_sem]
    refine Wp.s ?_
    simp -implicitDefEqProofs [go_sem]
    refine ⟨fun h => ?_, fun h => ⟨?_, Sh.forget (by simp [go_sem]) rfl rfl⟩⟩
    case refine_2 =>
      rw [List.take_of_length_le h] at hp
      simpa using hp
    have hbad : shortL x[i] = false → x.all shortL = false := fun e => List.all_eq_false.2 ⟨x[i], List.getElem_mem h, by simp [e]⟩
    refine SWp.seq (SWp.block (SWp.seq (SWp.seq (Wp.s ?_))))
    by_cases c1 : 10 < x[i].length
    · have c1' : 10 < (x[i].length : Int) := by omega
      simp -implicitDefEqProofs [go_sem, h, wlE, c1']
      refine Wp.s ?_
      simp -implicitDefEqProofs [go_sem]
      exact Fin.bool (by rw [hbad (by rw [shortL, decide_eq_false (by omega)]; rfl)]) hokH (by simp) (by simp)
    have c1' : ¬ 10 < (x[i].length : Int) := by omega
    simp -implicitDefEqProofs [go_sem, h, wlE, c1']
    refine Wp.s ?_
    simp -implicitDefEqProofs [go_sem]
    have htk : x.take (i + 1) = x.take i ++ [x[i]] := List.take_succ_eq_append_getElem h
    generalize hE : x[i] = E at c1 c1' hbad htk
    refine SWp.seq (Wp.s ?_)
    simp -implicitDefEqProofs [go_sem]
    refine SWp.block ?_
    refine SWp.loop (α := Nat) (fun k => ([(0, .sl .ti 1 (x.map wlE)), (3, ci i), (4, ci k)], H, V)) (fun k => k ≤ E.length ∧ ∀ w ∈ E.take k, w.data.length ≤ 12) (fun k => E.length - k) 0 ⟨Nat.zero_le _, by simp⟩ (Sh.forget (by simp [go_sem]) rfl rfl) ?_
    rintro k ⟨hk, hq⟩
    dsimp only
    refine SWp.seq (SWp.seq (Wp.s ?_))
    simp -implicitDefEqProofs [go_sem, h, hE, wlE]
    refine Wp.s ?_
    simp -implicitDefEqProofs [go_sem]
    refine ⟨fun h2 => ?_, fun h2 => ?_⟩
    case refine_2 =>
      rw [List.take_of_length_le h2] at hq
      refine Wp.s ?_
      simp -implicitDefEqProofs [go_sem]
      refine ⟨i + 1, ⟨by omega, fun l hl => ?_⟩, by omega, Sh.forget ?_ rfl rfl⟩
      · rw [htk, List.mem_append, List.mem_singleton] at hl
        rcases hl with hl | rfl
        · exact hp l hl
        · exact shortL_0 (by omega) hq
      · simp [go_sem, wrap_succ (show i ≤ 1000000000 by omega)]
    refine SWp.seq (SWp.block (SWp.seq (Wp.s ?_)))
    by_cases c2 : 12 < E[k].data.length
    · have c2' : 12 < (E[k].data.length : Int) := by omega
      simp -implicitDefEqProofs [go_sem, h, hE, wlE, h2, c2']
      refine Wp.s ?_
      simp -implicitDefEqProofs [go_sem]
      exact Fin.bool (by rw [hbad (by
        rw [shortL, List.all_eq_false.2 ⟨E[k], List.getElem_mem h2, by simp; omega⟩, Bool.and_false])]) hokH (by simp) (by simp)
    have c2' : ¬ 12 < (E[k].data.length : Int) := by omega
    simp -implicitDefEqProofs [go_sem, h, hE, wlE, h2, c2']
    refine Wp.s ?_
    simp -implicitDefEqProofs [go_sem]
    refine Wp.s ?_
    simp -implicitDefEqProofs [go_sem]
    refine ⟨k + 1, ⟨by omega, fun w hw => ?_⟩, by omega, Sh.forget ?_ rfl rfl⟩
    · rw [List.take_succ_eq_append_getElem h2, List.mem_append, List.mem_singleton] at hw
      rcases hw with hw | rfl
      · exact hq w hw
      · omega
    · simp [go_sem, wrap_succ (show k ≤ 1000000000 by omega)]
  rintro _ he
  dsimp only
  refine SWp.seq (Wp.s ?_)
  simp -implicitDefEqProofs [go_sem]
  refine Wp.s ?_
  simp -implicitDefEqProofs [go_sem]
  exact Fin.bool (by rw [he]) hokH (by simp) (by simp)
end Go.Proofs.YtpedbpbmnchllaaGreatDoor
namespace Go.Proofs.YtpedbpbmnchllaaGreatDoor
open Go.Proofs
theorem LeE.refl' : ∀ l : List (List CV), LeE l l
  | [] => .nil
  | c :: l => .cons (LeL.refl c) (LeE.refl' l)
theorem LeE.app' : ∀ {a b c d : List (List CV)}, LeE a b → LeE c d → LeE (a ++ c) (b ++ d)
  | _, _, _, _, .nil, h => h
  | _, _, _, _, .cons h t, g => .cons h (LeE.app' t g)
theorem Sh.ge {n nb nv : Nat} {T T' : Tm} {H H' : Hp} {V V' : List Nat} (h : ∀ p ∈ T', Ge (tget T p.1) p.2) (hH : H = H') (hV : V = V') : Sh n nb nv T H V (T', H', V') := by
  subst hH hV
  exact Gst.ge h
set_option maxRecDepth 8000 in
theorem rCopyG_cc (H : Hp) (V : List Nat) (l : Img) (hl : l.length ≤ 1000000) (hn : ∀ v ∈ l, v ≠ [] ∧ v.length ≤ 1000000) (R : CV → Hp → List Nat → Prop) (hR : (∀ (b : Nat) cs, H[b]? = some (some cs) → okL H.length V.length cs) → Fin H.length V.length R (.sl (.own V.length l.length) 1 (bxs H.length l)) (H ++ imH l) (V ++ [l.length])) : CC Tryz.prog 102 [.sl .sh 1 (l.map imE)] H V (R) := by
  refine CC.of_swp Tryz.func102 rfl (by kernel_rfl) (by rw [Tryz.ntmps102]; exact len_le _ _ rfl) fun hok hokH => ?_
  clear hok
  refine SWp.seq (Wp.s ?_)
  simp -implicitDefEqProofs [go_sem, args0]
  refine SWp.seq (Wp.s ?_)
  simp -implicitDefEqProofs [go_sem]
  refine SWp.join (α := Unit) (fun _ => ([(3, .sl (.own V.length l.length) 1 (bxs H.length l))], H ++ imH l, V ++ [l.length])) (fun _ => True) ?_ ?_
  · refine SWp.seq (Wp.s ?_)
    simp -implicitDefEqProofs [go_sem]
    refine SWp.block ?_
    refine SWp.loop (α := Nat) (fun i => ([(0, .sl .sh 1 (l.map imE)), (3, .sl (.own V.length i) 1 (bxs H.length (l.take i))), (4, ci i)], H ++ imH (l.take i), V ++ [i])) (fun i => i ≤ l.length) (fun i => l.length - i) 0 (Nat.zero_le _) (Sh.tokT (by simp [go_sem, bxs]) (by simp [imH]) rfl) ?_
    intro i hi
    dsimp only
    refine SWp.seq (SWp.seq (Wp.s ?_))
    simp -implicitDefEqProofs [go_sem]
    refine Wp.s ?_
    simp -implicitDefEqProofs [go_sem]
    refine ⟨fun h => ?_, fun h => ?_⟩
    case refine_2 =>
      obtain rfl : i = l.length := by omega
      exact Sh.forget (by rw [List.take_of_length_le (by omega)]; simp [go_sem]) (by rw [List.take_of_length_le (by omega)]) rfl
    obtain ⟨n1, n2⟩ := hn l[i] (List.getElem_mem h)
    have hmn : min i l.length = i := Nat.min_eq_left (by omega)
    have w5 : IntKind.i64.wrap ((i : Int) + 1) = (i : Int) + 1 := IntWalk.i64_in _ ⟨by omega, by omega⟩
    refine SWp.seq (SWp.block (SWp.seq (Wp.s ?_)))
    simp -implicitDefEqProofs [go_sem]
    refine SWp.opx (pre := [_, _, _, _, _, _]) (post := [_, _, _]) rfl (by intro c e; cases e) ?_
    simp -implicitDefEqProofs [go_sem, h]
    refine ⟨_, _, _, appboxN (sz := 8) (tk := .sh) (ys := l[i].map secC) slTy93 slTy93 (by decide) rfl rfl (by simpa using n1) (by rw [List.length_map]; omega), ?_⟩
    simp -implicitDefEqProofs [go_sem, hmn]
    rw [show (List.map secC l[i]).flatten = secsF l[i] from rfl]
    refine ⟨by omega, ?_⟩
    refine Wp.s ?_
    simp -implicitDefEqProofs [go_sem, w5]
    refine ⟨i + 1, by omega, by omega, Sh.ge (fun p hp => ?_) ?_ (by simp)⟩
    · rw [List.take_succ_eq_append_getElem h, bxs_snoc, List.length_take, hmn] at hp
      simp only [List.mem_cons, List.not_mem_nil, or_false] at hp
      rcases hp with rfl | rfl | rfl
      · simp [go_sem]
      · simp [go_sem]; exact Ge.slk (LeE.app' (LeE.refl' _) (.cons (.cons (.bsa _ _ _) .nil) .nil))
      · simp [go_sem]
    · rw [List.take_succ_eq_append_getElem h, imH, imH, List.map_append]; rfl
  rintro _ -
  dsimp only
  refine Wp.s ?_
  simp -implicitDefEqProofs [go_sem]
  exact hR hokH
theorem rCopy_cc (H : Hp) (V : List Nat) (l : Img) (hl : l.length ≤ 1000000) (hn : ∀ v ∈ l, v ≠ [] ∧ v.length ≤ 1000000) : CC Tryz.prog 102 [.sl .sh 1 (l.map imE)] H V (fun r H' V' => r = .sl (.own V.length l.length) 1 (bxs H.length l) ∧ H' = H ++ imH l ∧ V' = V ++ [l.length]) := by
  refine rCopyG_cc H V l hl hn _ fun hokH => ?_
  refine Fin.cut (H.length + l.length) (V.length + 1) ⟨rfl, rfl, rfl⟩ (by omega) (by omega) (List.take_of_length_le (by simp)) (List.take_of_length_le (by simp)) (.refl _) ?_ ?_
  · rw [okV]
    exact ⟨Nat.lt_succ_self _, okE_bxs _ _ _ _ (Nat.le_refl _)⟩
  intro b cs hb
  rw [List.getElem?_append] at hb
  split at hb
  · exact okL_mono (by omega) (Nat.le_succ _) (hokH b cs hb)
  · obtain ⟨v, -, hv⟩ := List.mem_map.1 (List.mem_of_getElem? hb)
    obtain rfl := Option.some.inj hv
    rw [okL_secsF]; trivial
end Go.Proofs.YtpedbpbmnchllaaGreatDoor
namespace Go.Proofs.YtpedbpbmnchllaaGreatDoor
open Go.Proofs
theorem putV_0 (v : List Sec) (p : Nat) : putV v p [] = v := by simp [putV]
theorem putV_snoc {v : List Sec} {p : Nat} {d : List Sec} {t : Nat} (ht : t < d.length) (h : p + d.length ≤ v.length) : (putV v p (d.take t)).set (p + t) d[t] = putV v p (d.take (t + 1)) := by
  apply List.ext_getElem
  · rw [List.length_set, putV_len (by rw [List.length_take]; omega), putV_len (by rw [List.length_take]; omega)]
  intro i h1 h2
  rw [List.length_set, putV_len (by rw [List.length_take]; omega)] at h1
  rw [List.getElem_set]
  simp only [putV, List.getElem_append, List.length_append, List.length_take, List.getElem_take, List.getElem_drop]
  by_cases e : p + t = i
  · subst e
    rw [if_pos rfl, dif_pos (by omega), dif_neg (by omega)]
    congr 1; omega
  · rw [if_neg e]
    by_cases q1 : i < p
    · rw [dif_pos (by omega), dif_pos (by omega), dif_pos (by omega), dif_pos (by omega)]
    · by_cases q2 : i < p + t
      · rw [dif_pos (by omega), dif_neg (by omega), dif_pos (by omega), dif_neg (by omega)]
      · rw [dif_neg (by omega), dif_neg (by omega)]
        congr 1; omega
set_option maxRecDepth 8000 in
theorem rApply_cc (H : Hp) (V : List Nat) (l : Img) (ws : List Wr) (hl : l.length ≤ 1000000000) (hn : ws.length ≤ 1000000000) (hw : ∀ w ∈ ws, w.data.length ≤ 1000000000) : CC Tryz.prog 64 [.sl .sh 1 (l.map imE), .sl .sh 3 (ws.map wrC)] H V (Pu (apV (apR l ws)) H V) := by
  refine CC.of_swp Tryz.func64 rfl (by kernel_rfl) (by rw [Tryz.ntmps64]; exact len_le _ _ rfl) fun hok hokH => ?_
  clear hok
  have bad : ∀ (i e : Nat) (H' : Hp) (V' : List Nat), apR l ws = ([], i, e) → H'.take H.length = H → V'.take V.length = V → Fin H.length V.length (Pu (apV (apR l ws)) H V) (.tup [.v (.slice none 0 0), ci i, er e]) H' V' := fun i e H' V' h1 h2 h3 => by
    rw [h1]
    exact Fin.pu (.tup (.cons (.nil 1 (by decide)) (.cons (.refl _) (.cons (.refl _) .nil)))) (okV_apV _ _ _) hokH h2 h3
  refine SWp.seq (Wp.s ?_)
  simp -implicitDefEqProofs [go_sem, args0]
  refine SWp.seq (SWp.seq (Wp.s ?_))
  simp -implicitDefEqProofs [go_sem]
  refine CC.mono (rImChk_cc _ _ .sh l hl) ?_
  rintro _ _ _ ⟨rfl, rfl, rfl⟩
  simp -implicitDefEqProofs [go_sem]
  refine SWp.seq (Wp.s ?_)
  by_cases h0 : sizesE (imgSz l) = 0
  case neg =>
    simp -implicitDefEqProofs [go_sem, h0]
    refine Wp.s ?_
    simp -implicitDefEqProofs [go_sem]
    exact bad 0 _ _ _ (by rw [apR, if_pos h0]) (by simp) (by simp)
  have e0 : apR l ws = apI l ws 0 := by rw [apR, if_neg (by simp [h0])]
  simp -implicitDefEqProofs [go_sem, h0]
  refine Wp.s ?_
  simp -implicitDefEqProofs [go_sem]
  obtain ⟨hl8, hvs⟩ := sizes_pos h0
  refine SWp.seq (Wp.s ?_)
  simp -implicitDefEqProofs [go_sem]
  refine CC.mono (rCopy_cc _ _ l (by omega) (fun v hv => ⟨(hvs v hv).1, by have := (hvs v hv).2; omega⟩)) ?_
  rintro _ _ _ ⟨rfl, rfl, rfl⟩
  simp -implicitDefEqProofs [go_sem]
  refine SWp.join (α := Img) (fun k => ([(8, .sl (.own V.length l.length) 1 (bxs H.length l))], H ++ imH k, V ++ [l.length])) (fun k => k.map List.length = l.map List.length ∧ apI l ws 0 = (k, 0, 0)) ?_ ?_
  · refine SWp.seq (Wp.s ?_)
    simp -implicitDefEqProofs [go_sem]
    refine SWp.block ?_
    refine SWp.loop (α := Nat × Img) (fun x => ([(0, .sl .sh 1 (l.map imE)), (1, .sl .sh 3 (ws.map wrC)), (8, .sl (.own V.length l.length) 1 (bxs H.length l)), (9, ci x.1)], H ++ imH x.2, V ++ [l.length])) (fun x => x.1 ≤ ws.length ∧ x.2.map List.length = l.map List.length ∧ apI l ws 0 = apI x.2 (ws.drop x.1) x.1) (fun x => ws.length - x.1) (0, l) ⟨Nat.zero_le _, rfl, rfl⟩ (Sh.forget (by simp [go_sem]) rfl rfl) ?_
    rintro ⟨i, k⟩ ⟨hi, hk, hap⟩
    dsimp only at hi hk hap ⊢
    refine SWp.seq (SWp.seq (Wp.s ?_))
    simp -implicitDefEqProofs [go_sem]
    refine Wp.s ?_
    simp -implicitDefEqProofs [go_sem]
    have hkl : k.length = l.length := by have := congrArg List.length hk; simpa using this
    refine ⟨fun h => ?_, fun h => ?_⟩
    case refine_2 =>
      rw [List.drop_of_length_le h] at hap
      exact ⟨k, ⟨hk, hap⟩, Sh.forget (by simp [go_sem]) rfl rfl⟩
    rw [List.drop_eq_getElem_cons h] at hap
    have hszk : imgSz l = imgSz k := by
      have : ∀ x : Img, imgSz x = (x.map List.length).map fun n : Nat => (n : Int) := fun x => by rw [imgSz, List.map_map]; rfl
      rw [this l, this k, hk]
    have hkn : ∀ v ∈ k, v.length ≤ 4096 := fun v hv => by
      have : v.length ∈ k.map List.length := List.mem_map.2 ⟨v, hv, rfl⟩
      rw [hk] at this
      obtain ⟨u, hu, he⟩ := List.mem_map.1 this
      have := (hvs u hu).2; omega
    have hdw := hw _ (List.getElem_mem h)
    have w5 : IntKind.i64.wrap ((i : Int) + 1) = (i : Int) + 1 := IntWalk.i64_in _ ⟨by omega, by omega⟩
    refine SWp.seq (SWp.block (SWp.seq (SWp.seq (Wp.s ?_))))
    simp -implicitDefEqProofs [go_sem, h]
    refine CC.mono (rFits_cc _ _ .sh l ws[i] hl hdw) ?_
    rintro _ _ _ ⟨rfl, rfl, rfl⟩
    have hfi : fitsI l ws[i] = fitsS (imgSz k) ws[i] := by rw [fitsI, if_neg (by simp [h0]), hszk]
    rw [hfi]
    simp -implicitDefEqProofs [go_sem]
    refine SWp.seq (Wp.s ?_)
    by_cases hf : fitsS (imgSz k) ws[i] = 0
    case neg =>
      simp -implicitDefEqProofs [go_sem, hf]
      refine Wp.s ?_
      simp -implicitDefEqProofs [go_sem]
      exact bad i _ _ _ (by rw [e0, hap, apI, if_pos hf]) (by simp) (by simp)
    rw [apI, if_neg (by simp [hf])] at hap
    simp -implicitDefEqProofs [go_sem, hf]
    refine Wp.s ?_
    simp -implicitDefEqProofs [go_sem]
    obtain ⟨n, hvn, hnk, hd0, p, hpn, hpl⟩ := fitsI_0 hf
    have hkl4 := hkn _ (List.getElem_mem hnk)
    obtain ⟨d, hd⟩ : ∃ d, d = ws[i].data := ⟨_, rfl⟩
    rw [← hd] at hd0 hpl hdw
    have hap1 : ap1 k ws[i] = k.set n (putV k[n] p d) := by
      rw [ap1, hvn, hpn, Int.toNat_natCast, Int.toNat_natCast, List.getD_eq_getElem?_getD, List.getElem?_eq_getElem hnk, Option.getD_some, hd]
    refine SWp.seq (Wp.s ?_)
    simp -implicitDefEqProofs [go_sem]
    refine SWp.block ?_
    refine SWp.loop (α := Nat) (fun t => ([(0, .sl .sh 1 (l.map imE)), (1, .sl .sh 3 (ws.map wrC)), (8, .sl (.own V.length l.length) 1 (bxs H.length l)), (9, ci i), (11, ci t)], H ++ imH (k.set n (putV k[n] p (d.take t))), V ++ [l.length])) (fun t => t ≤ d.length) (fun t => d.length - t) 0 (Nat.zero_le _) (Sh.forget (by simp [go_sem]) (by rw [List.take_zero, putV_0, List.set_getElem_self]) rfl) ?_
    intro t ht
    dsimp only
    refine SWp.seq (SWp.seq (Wp.s ?_))
    simp -implicitDefEqProofs [go_sem, h, ← hd]
    refine Wp.s ?_
    simp -implicitDefEqProofs [go_sem]
    refine ⟨fun h6 => ?_, fun h6 => ?_⟩
    case refine_2 =>
      refine Wp.s ?_
      simp -implicitDefEqProofs [go_sem, w5]
      exact ⟨i + 1, ap1 k ws[i], ⟨by omega, (ap1_sz hf).trans hk, hap⟩, by omega, Sh.forget (by simp [go_sem]) (by rw [hap1, List.take_of_length_le h6]) rfl⟩
    have hdt : (d.take t).length = t := by rw [List.length_take]; omega
    have hpvl : (putV k[n] p (d.take t)).length = k[n].length := putV_len (by omega)
    obtain ⟨k', hk'⟩ : ∃ k', k' = k.set n (putV k[n] p (d.take t)) := ⟨_, rfl⟩
    have hk'l : k'.length = k.length := by rw [hk', List.length_set]
    have hk'n : k'[n]? = some (putV k[n] p (d.take t)) := by rw [hk', List.getElem?_set_self hnk]
    rw [← hk']
    have hbxe := bxs_eq H.length hk
    rw [← hbxe]
    obtain ⟨G, hG⟩ : ∃ G, G = H ++ imH k' := ⟨_, rfl⟩
    have hGn : G[H.length + n]? = some (some (secsF (putV k[n] p (d.take t)))) := by
      rw [hG, imH_get H k' n (by omega)]
      obtain ⟨_, e⟩ := List.getElem?_eq_some_iff.1 hk'n
      rw [e]
    rw [← hG]
    have w6 : IntKind.i64.wrap ((p : Int) + (t : Int)) = ((p + t : Nat) : Int) := by rw [IntWalk.i64_in _ ⟨by omega, by omega⟩]; omega
    have w7 : IntKind.i64.wrap ((t : Int) + 1) = (t : Int) + 1 := IntWalk.i64_in _ ⟨by omega, by omega⟩
    have hpt : p + t < k[n].length := by omega
    have hpt' : (p : Int) + (t : Int) < (k[n].length : Int) := by omega
    refine SWp.seq (SWp.block (SWp.drawnT [] [24] (.s 0 .pl <| .s 1 .pl <| .s 2 .pl <| .s 3 .pl <| .s 4 .pl <| .s 5 .pl <| .s 6 .pl <| .s 7 .pl <| .s 8 .pl <| .s 9 .pl <| .s 10 .pl <| .s 11 .pl <| .s 12 .pl <| .s 13 .pl <| .s 14 .pl <| .s 15 .pl <| .s 16 .pl <| .s 17 .pl <| .s 18 .pl <| .s 19 .pl <| .s 20 .pl <| .s 21 .pl <| .s 22 .pl <| .s 23 .pl <| .s 24 .st <| .n) (by kernel_rfl) (by kernel_rfl) ?_))
    have w8 : ((p : Int) + (t : Int)).toNat = p + t := by omega
    simp -implicitDefEqProofs [go_sem, h, hvn, hpn, hnk, ← hd, w6, w8, h6, hpt, hpt', hbx_of hGn]
    refine ⟨by omega, by omega, ?_⟩
    refine Wp.s ?_
    simp -implicitDefEqProofs [go_sem, w7]
    refine ⟨t + 1, by omega, by omega, Sh.forget (by simp [go_sem]) ?_ rfl⟩
    rw [hG, secsF_set' (by omega), putV_snoc h6 (by omega), imH_set, hk', List.set_set]
  rintro k ⟨hk, hap⟩
  dsimp only
  have hkl : k.length = l.length := by have := congrArg List.length hk; simpa using this
  rw [← bxs_eq H.length hk]
  refine Wp.s ?_
  simp -implicitDefEqProofs [go_sem]
  rw [e0, hap]
  exact fin_bxs hokH (by simp)
end Go.Proofs.YtpedbpbmnchllaaGreatDoor
namespace Go.Proofs.YtpedbpbmnchllaaGreatDoor
open Go.Proofs
def fitL (im : Img) (l : List Wr) : List Wr := (l.take 6).filter fun w => decide (fitsI im w = 0)
def fitK (im : Img) (l : List Wr) (n : Nat) : List Wr := (l.take n).filter fun w => decide (fitsI im w = 0)
theorem fitK_succ (im : Img) (l : List Wr) (n : Nat) (h : n < l.length) : fitK im l (n + 1) = fitK im l n ++ (if fitsI im l[n] = 0 then [l[n]] else []) := by
  rw [fitK, List.take_succ_eq_append_getElem h, List.filter_append, ← fitK]
  congr 1
  by_cases h0 : fitsI im l[n] = 0
  · rw [if_pos h0]; exact List.filter_eq_self.2 fun x hx => by obtain rfl := List.mem_singleton.1 hx; exact decide_eq_true h0
  · rw [if_neg h0]; exact List.filter_eq_nil_iff.2 fun x hx => by obtain rfl := List.mem_singleton.1 hx; simp [h0]
theorem fitK_len (im : Img) (l : List Wr) (n : Nat) : (fitK im l n).length ≤ n := by
  refine Nat.le_trans (List.length_filter_le ..) ?_
  rw [List.length_take]; exact Nat.min_le_left ..
theorem okE_wrs1 (jb jv : Nat) (l : List Wr) (w : Wr) : okE jb jv (l.map wrC ++ [wrC w]) = True := by
  rw [show l.map wrC ++ [wrC w] = (l ++ [w]).map wrC by simp]; exact okE_wrs ..
theorem fitting_cc (H : Hp) (V : List Nat) (im : Img) (l : List Wr) (hl : im.length ≤ 1000000000) (hn : l.length ≤ 1000000) (hw : ∀ w ∈ l, w.data.length ≤ 1000000000) : CC Tryz.prog 63 [.sl .sh 1 (im.map imE), .sl .sh 3 (l.map wrC)] H V (Pu (.sl .sh 3 ((fitL im l).map wrC)) H V) := by
  refine CC.of_swp Tryz.func63 rfl (by kernel_rfl) (by rw [Tryz.ntmps63]; exact len_le _ _ rfl) fun hok hokH => ?_
  clear hok
  refine SWp.seq (Wp.s ?_)
  simp -implicitDefEqProofs [go_sem, args0]
  refine SWp.seq (Wp.s ?_)
  simp -implicitDefEqProofs [go_sem]
  refine SWp.join (α := Nat) (fun k => ([(5, .sl (.own V.length k) 3 ((fitL im l).map wrC))], H, V ++ [k])) (fun _ => True) ?_ ?_
  · refine SWp.seq (Wp.s ?_)
    simp -implicitDefEqProofs [go_sem]
    refine SWp.block ?_
    refine SWp.loop (α := Nat × Nat) (fun u => ([(0, .sl .sh 1 (im.map imE)), (1, .sl .sh 3 (l.map wrC)), (5, .sl (.own V.length u.2) 3 ((fitK im l u.1).map wrC)), (6, ci u.1)], H, V ++ [u.2])) (fun u => u.1 ≤ l.length ∧ u.1 ≤ 6) (fun u => 6 - u.1) (0, 0) ⟨Nat.zero_le _, Nat.zero_le _⟩ (Sh.tokT (by simp [go_sem, fitK]) rfl rfl) ?_
    rintro ⟨i, k⟩ ⟨hi, hi6⟩
    dsimp only at hi hi6 ⊢
    refine SWp.seq (SWp.seq (Wp.s ?_))
    have done : (¬ i < l.length ∨ ¬ i < 6) → fitK im l i = fitL im l := fun h => by
      rw [fitK, fitL]
      rcases Nat.lt_or_ge i 6 with h6 | h6
      · rw [List.take_of_length_le (by omega), List.take_of_length_le (by omega)]
      · obtain rfl : i = 6 := by omega
        rfl
    by_cases h1 : i < l.length
    case neg =>
      have h1' : ¬ (i : Int) < l.length := by omega
      simp -implicitDefEqProofs [go_sem, h1, h1']
      refine Wp.s ?_
      simp -implicitDefEqProofs [go_sem]
      rw [done (.inl h1)]
      exact ⟨k, Sh.forget (by simp [go_sem]) rfl rfl⟩
    have h1' : (i : Int) < l.length := by omega
    by_cases h2 : i < 6
    case neg =>
      have h2' : ¬ (i : Int) < 6 := by omega
      simp -implicitDefEqProofs [go_sem, h1, h1', h2']
      refine Wp.s ?_
      simp -implicitDefEqProofs [go_sem]
      rw [done (.inr h2)]
      exact ⟨k, Sh.forget (by simp [go_sem]) rfl rfl⟩
    have h2' : (i : Int) < 6 := by omega
    simp -implicitDefEqProofs [go_sem, h1, h1', h2']
    refine Wp.s ?_
    simp -implicitDefEqProofs [go_sem]
    have hts := fitK_succ im l i h1
    have hkl := fitK_len im l i
    refine SWp.seq (SWp.block (SWp.seq (Wp.s ?_)))
    simp -implicitDefEqProofs [go_sem, h1]
    refine CC.mono (rFits_cc _ _ .sh im l[i] hl (hw _ (List.getElem_mem h1))) ?_
    rintro _ _ _ ⟨rfl, rfl, rfl⟩
    by_cases hf : fitsI im l[i] = 0
    · rw [if_pos hf] at hts
      simp -implicitDefEqProofs [go_sem, hf, h1]
      refine Wp.s ?_
      simp -implicitDefEqProofs [go_sem, h1]
      refine ⟨by omega, ?_⟩
      refine Wp.s ?_
      simp -implicitDefEqProofs [go_sem]
      refine ⟨i + 1, ⟨by omega, by omega⟩, by omega, k + 1, ?_⟩
      rw [hts, List.map_append]
      refine Sh.trim0 ?_ (by simp [go_sem, okE_ims, okE_wrs, okE_wrs1]) hokH (by simp) (by simp) (by simp)
      simp [go_sem, wrap_succ (show i ≤ 1000000000 by omega)]
    · rw [if_neg hf, List.append_nil] at hts
      have hf' : ¬ ((fitsI im l[i] : Nat) : Int) = 0 := by omega
      simp -implicitDefEqProofs [go_sem, hf, hf', h1]
      refine Wp.s ?_
      simp -implicitDefEqProofs [go_sem]
      refine Wp.s ?_
      simp -implicitDefEqProofs [go_sem]
      refine ⟨i + 1, ⟨by omega, by omega⟩, by omega, k, ?_⟩
      rw [hts]
      refine Sh.forget ?_ rfl rfl
      simp [go_sem, wrap_succ (show i ≤ 1000000000 by omega)]
  rintro k -
  dsimp only
  refine SWp.seq (Wp.s ?_)
  simp -implicitDefEqProofs [go_sem]
  refine Wp.s ?_
  simp -implicitDefEqProofs [go_sem]
  exact Fin.pu (.sh _ _ _) (by simp [go_sem, okE_wrs]) hokH (by simp) (by simp)
structure Sds where
  old : Pt
  cur : Pt
  t : Trk
  right : Bool
def sdC (s : Sds) : List CV := [ci s.old.site, .sl .sh 3 (s.old.lin.map spC), .sl .sh 2 (s.old.dirty.map bmC), .sl .sh 1 (s.old.im.map imE), ci s.cur.site, .sl .sh 3 (s.cur.lin.map spC), .sl .sh 2 (s.cur.dirty.map bmC), .sl .sh 1 (s.cur.im.map imE), .sl .sh 1 ((zI s.t.z).map ic), .sl .sh 3 (s.t.peers.map prC), cb s.right]
theorem okL_sdC (jb jv : Nat) (s : Sds) : okL jb jv (sdC s) = True := by
  simp [sdC, okL, okV, go_sem, okE_sps, okE_bms, okE_ims, okE_ints, okE_prs]
@[go_sem, simp] theorem sdC_len (s : Sds) : (sdC s).length = 11 := rfl
@[go_sem, simp] theorem sdC_all (s : Sds) : allOne (sdC s) = true := rfl
set_option maxRecDepth 8000 in
theorem sdMarked_cc (H : Hp) (V : List Nat) (s : Sds) (ht : TrkOk s.t) (hi : 0 < s.t.peers.length) (hs : s.t.peers[0].site = 0) : CC Tryz.prog 18 [.agg (sdC s)] H V (Pu (.agg (ptC ⟨s.cur.site, s.cur.lin, s.t.peers[0].dirty, s.cur.im⟩)) H V) := by
  refine CC.of_swp Tryz.func18 rfl (by kernel_rfl) (by rw [Tryz.ntmps18]; exact len_le _ _ rfl) fun hok hokH => ?_
  clear hok
  refine SWp.seq (Wp.s ?_)
  simp -implicitDefEqProofs [go_sem, args0]
  refine SWp.seq (Wp.s ?_)
  simp -implicitDefEqProofs [go_sem, sdC]
  refine SWp.seq (Wp.s ?_)
  simp -implicitDefEqProofs [go_sem]
  rw [show [CV.sl .sh 1 ((zI s.t.z).map ic), .sl .sh 3 (s.t.peers.map prC)] = trkC s.t from rfl, show (CV.v (.int .i64 0)) = ci ((s.t.peers[0].site : Nat) : Int) by rw [hs]; rfl]
  refine CC.mono (tkDirty_cc _ _ s.t 0 ht hi) ?_
  rintro _ _ _ ⟨rfl, rfl, rfl⟩
  simp -implicitDefEqProofs [go_sem]
  refine SWp.seq (SWp.seq (Wp.s ?_))
  simp -implicitDefEqProofs [go_sem]
  refine Wp.s ?_
  simp -implicitDefEqProofs [go_sem]
  refine SWp.seq (Wp.s ?_)
  simp -implicitDefEqProofs [go_sem]
  refine Wp.s ?_
  simp -implicitDefEqProofs [go_sem]
  exact Fin.pu (.refl _) (by simp [go_sem]) hokH (by simp) (by simp)
theorem apR_1w {k : Img} {w : Wr} {z : List Nat} (hz : SzOkN z) (hk : k.map List.length = z) (h : fitsS (zI z) w = 0) : apR k [w] = (ap1 k w, 0, 0) := by
  rw [apR, sz_imgSz hk, if_neg (by simp [hz.sizes]), apI, sz_imgSz hk, if_neg (by simp [h]), apI]
def sdZ : List CV := [ci 0, .v (.slice none 0 0), .v (.slice none 0 0), .v (.slice none 0 0), ci 0, .v (.slice none 0 0), .v (.slice none 0 0), .v (.slice none 0 0), .v (.slice none 0 0), .v (.slice none 0 0), cb false]
def sdW (p q : Pt) (z : List Nat) (ws : List Wr) : Sds := ⟨p, ⟨q.site, q.lin, q.dirty, apA q.im ws⟩, tkW z [0, 2] 3 ws, true⟩
theorem sites02 : SitesOk [0, 2] := ⟨by decide, by decide, fun i h => by
  obtain rfl : i = 0 := by simp at h; omega
  exact Nat.two_pos⟩
set_option maxRecDepth 8000 in
set_option maxHeartbeats 1600000 in
theorem sdWrite_cc (H : Hp) (V : List Nat) (p q : Pt) (z : List Nat) (ws : List Wr) (hz : SzOkN z) (hq : q.im.map List.length = z) (hw : ∀ w ∈ ws, fitsS (zI z) w = 0) (hl : ws.length ≤ 1000) (hd : ∀ w ∈ ws, w.data.length ≤ 1000000000) : CC Tryz.prog 68 [.agg (sdC (sdW p q z [])), .sl .sh 3 (ws.map wrC)] H V (Pu (.agg (sdC (sdW p q z ws))) H V) := by
  refine CC.of_swp Tryz.func68 rfl (by kernel_rfl) (by rw [Tryz.ntmps68]; exact len_le _ _ rfl) fun hok hokH => ?_
  clear hok
  refine SWp.seq (Wp.s ?_)
  simp -implicitDefEqProofs [go_sem, args0]
  refine SWp.join (α := Unit) (fun _ => ([(2, .ptr H.length 0), (4, .ptr (H.length + 1) 0)], H ++ [some (sdC (sdW p q z ws)), some sdZ], V)) (fun _ => True) ?_ ?_
  · refine SWp.seq (Wp.s ?_)
    simp -implicitDefEqProofs [go_sem]
    refine SWp.block ?_
    refine SWp.loop (α := Nat) (fun i => ([(1, .sl .sh 3 (ws.map wrC)), (2, .ptr H.length 0), (4, .ptr (H.length + 1) 0), (5, ci i)], H ++ [some (sdC (sdW p q z (ws.take i))), some sdZ], V)) (fun i => i ≤ ws.length) (fun i => ws.length - i) 0 (Nat.zero_le _) (Sh.forget (by simp [go_sem]) (by simp [sdZ]) rfl) ?_
    intro i hi
    dsimp only
    refine SWp.seq (SWp.seq (Wp.s ?_))
    by_cases h : i < ws.length
    case neg =>
      have h' : ¬ (i : Int) < ws.length := by omega
      simp -implicitDefEqProofs [go_sem, h, h']
      refine Wp.s ?_
      simp -implicitDefEqProofs [go_sem]
      rw [List.take_of_length_le (by omega)]
      exact Sh.forget (by simp [go_sem]) rfl rfl
    have h' : (i : Int) < ws.length := by omega
    have hws : ∀ w ∈ ws.take i, fitsS (zI z) w = 0 := fun w hx => hw w (List.mem_of_mem_take hx)
    have hik := apA_sz hq hws
    have hwi := hw _ (List.getElem_mem h)
    have hwd := hd _ (List.getElem_mem h)
    have hok := fit_WOk hwi
    have hone := apR_1w hz hik hwi
    have htO := tkW_ok (ss := [0, 2]) (c := 3) (ws := ws.take i) hz sites02 (by decide) (by decide) fun w hx => fit_WOk (hws w hx)
    have hnext : sdW p q z (ws.take (i + 1)) = ⟨p, ⟨q.site, q.lin, q.dirty, ap1 (apA q.im (ws.take i)) ws[i]⟩, tMk (tkW z [0, 2] 3 (ws.take i)) ws[i].volume.toNat ws[i].start.toNat ws[i].data.length, true⟩ := by
      rw [List.take_succ_eq_append_getElem h, sdW, apA_snoc, tkW_snoc]
    have hcur : sdW p q z (ws.take i) = ⟨p, ⟨q.site, q.lin, q.dirty, apA q.im (ws.take i)⟩, tkW z [0, 2] 3 (ws.take i), true⟩ := rfl
    have hkl : (apA q.im (ws.take i)).length ≤ 8 := by
      have := congrArg List.length hik
      rw [List.length_map] at this
      have := hz.few
      omega
    rw [hcur]
    have htz : (tkW z [0, 2] 3 (ws.take i)).z = z := rfl
    generalize apA q.im (ws.take i) = k at hik hone hnext hkl
    generalize tkW z [0, 2] 3 (ws.take i) = t at htO hnext htz
    simp -implicitDefEqProofs [go_sem, sdC, h, h']
    refine Wp.s ?_
    simp -implicitDefEqProofs [go_sem]
    refine SWp.seq (SWp.block (SWp.seq (SWp.drawnT [] [] (.s 0 .pl <| .s 1 .pl <| .s 2 .pl <| .s 3 .pl <| .s 4 .pl <| .s 5 .pl <| .s 6 .pl <| .s 7 .pl <| .s 8 .pl <| .s 9 .pl <| .s 10 .pl <| .s 11 .pl <| .s 12 .pl <| .s 13 .pl <| .s 14 .pl <| .s 15 .pl <| .n) (by kernel_rfl) (by kernel_rfl) ?_)))
    simp -implicitDefEqProofs [go_sem, wrap_succ (show i ≤ 1000000000 by omega)]
    have hsl : List.drop i (List.take (i + 1) (ws.map wrC)) = [ws[i]].map wrC := by
      rw [List.take_succ_eq_append_getElem (by simpa using h), List.drop_append, List.drop_of_length_le (by rw [List.length_take]; exact Nat.min_le_left ..)]
      simp [Nat.min_eq_left (Nat.le_of_lt h)]
      all_goals omega
    rw [hsl]
    refine ⟨by omega, by omega, ?_⟩
    refine CC.mono (rApply_cc _ _ k [ws[i]] (by omega) (by simp) (fun w hx => by obtain rfl := List.mem_singleton.1 hx; exact hwd)) ?_
    rintro _ _ _ ⟨rfl, rfl, rfl⟩
    rw [hone, apV]
    simp -implicitDefEqProofs [go_sem]
    refine SWp.seq (SWp.drawnT [] [11] (.s 0 .pl <| .s 1 .pl <| .s 2 .pl <| .s 3 .pl <| .s 4 .pl <| .s 5 .pl <| .c 6 <| .s 7 .pl <| .s 8 .pl <| .s 9 .pl <| .s 10 .pl <| .s 11 .st <| .s 12 .pl <| .n) (by kernel_rfl) (by kernel_rfl) ?_)
    simp -implicitDefEqProofs [go_sem, h]
    refine ⟨.tup [.agg (trkC (tMk t ws[i].volume.toNat ws[i].start.toNat ws[i].data.length)), er 0], fun H V => tkWrite_cc H V t ws[i] ws[i].volume.toNat ws[i].start.toNat htO (by have := hok.v0; omega) (by have := hok.s0; omega) (by rw [htz]; exact hok.v1) hok.d0 (by subst htz; exact hok.s1 hok.v1), ?_⟩
    simp -implicitDefEqProofs [go_sem]
    refine SWp.drawnT [H.length + 2] [10, 12, 14] (.s 0 .pl <| .s 1 .ld <| .s 2 .pl <| .s 3 .pl <| .s 4 .pl <| .s 5 .pl <| .s 6 .pl <| .s 7 .pl <| .s 8 .pl <| .s 9 .pl <| .s 10 .st <| .s 11 .pl <| .s 12 .st <| .s 13 .pl <| .s 14 .st <| .n) (by kernel_rfl) (by kernel_rfl) ?_
    simp -implicitDefEqProofs [go_sem, trkC]
    refine ⟨Kp_one _ _ _ 2 rfl, Kp_one _ _ _ 2 rfl, ?_⟩
    refine Wp.s ?_
    simp -implicitDefEqProofs [go_sem]
    refine ⟨i + 1, by omega, by omega, ?_⟩
    rw [hnext]
    refine Sh.trim (L := [some (sdC ⟨p, ⟨q.site, q.lin, q.dirty, ap1 k ws[i]⟩, tMk t ws[i].volume.toNat ws[i].start.toNat ws[i].data.length, true⟩), some sdZ]) ?_ (by simp [go_sem, okE_wrs]) hokH (by simp [go_sem, okL_sdC, sdZ, okL, okV]) (by simp) (by simp [sdC]) (by simp)
    simp [go_sem, wrap_succ (show i ≤ 1000000000 by omega)]
  rintro _ -
  dsimp only
  refine SWp.seq (Wp.s ?_)
  simp -implicitDefEqProofs [go_sem, sdC, sdZ]
  refine Wp.s ?_
  simp -implicitDefEqProofs [go_sem]
  exact Fin.pu (.refl _) (by rw [okV]; exact of_eq_true (okL_sdC _ _ (sdW p q z ws))) hokH (by simp) (by simp)
end Go.Proofs.YtpedbpbmnchllaaGreatDoor
namespace Go.Proofs.YtpedbpbmnchllaaGreatDoor
open Go.Proofs
def rtZ (m : Nat) : List Nat := [1 + m, 3]
def rtI (m : Nat) : Img := imOf (zI (rtZ m))
theorem rtZ_ok {m : Nat} (h : m < 12) : SzOkN (rtZ m) := ⟨by simp [rtZ], by simp [rtZ], fun n hn => by
  simp [rtZ] at hn; omega⟩
theorem imOf_zI (z : List Nat) : (imOf (zI z)).map List.length = z := by
  rw [imOf, zI, List.map_map, List.map_map]
  conv => rhs; rw [← List.map_id z]
  refine List.map_congr_left fun n _ => ?_
  simp [zer_len]
theorem rtI_sz (m : Nat) : (rtI m).map List.length = rtZ m := imOf_zI _
theorem mxP_ex {z : List Nat} {d : List Bm} (hz : SzOkN z) (hd : DirtyOk z d) : ExOk z (mxP d) := by
  have hl := hd.len
  have e : ∀ v (h : v < (mxP d).length) (h2 : v < d.length), (mxP d)[v] = mx1 d[v] := fun v h h2 => by simp [mxP]
  refine ⟨by simp [mxP, hl], fun l hx => ?_, fun v h h2 x hx => ?_⟩
  · obtain ⟨b, hb, rfl⟩ := List.mem_map.1 hx
    obtain ⟨i, hi, rfl⟩ := List.getElem_of_mem hb
    exact mx1_len (hd.ok i hi (by omega)).1
  · rw [e v h (by omega)] at hx
    have := mx1_bd x hx
    rwa [(hd.ok v (by omega) h2).2] at this
def rtP (m : Nat) (a : List Wr) : Pt := ⟨0, linO 3, mW (cleanB (rtZ m)) a, apA (rtI m) a⟩
def rtR (m : Nat) (b : List Wr) : Pt := ⟨1, linC 3 5, mW (cleanB (rtZ m)) b, rtI m⟩
def rtQ (m : Nat) (b : List Wr) : Pt := ⟨1, linC 3 5, mW (cleanB (rtZ m)) b, apA (rtI m) b⟩
def rtS (m : Nat) (a b : List Wr) : Sds := ⟨rtP m a, rtQ m b, tnT (tkW (rtZ m) [0, 2] 3 b) 0 3 (mxP (rtP m a).dirty), true⟩
theorem fitL_mem {im : Img} {l : List Wr} {w : Wr} (h : w ∈ fitL im l) : w ∈ l ∧ fitsI im w = 0 := by
  obtain ⟨h1, h2⟩ := List.mem_filter.1 h
  exact ⟨List.mem_of_mem_take h1, by simpa using h2⟩
theorem fitL_len (im : Img) (l : List Wr) : (fitL im l).length ≤ 6 := fitK_len im l 6
theorem fit_rt {m : Nat} (hm : m < 12) {w : Wr} (h : fitsI (rtI m) w = 0) : fitsS (zI (rtZ m)) w = 0 := by
  have hz : imgSz (rtI m) = zI (rtZ m) := sz_imgSz (rtI_sz m)
  rw [fitsI, hz, if_neg (by simp [(rtZ_ok hm).sizes])] at h
  exact h
set_option maxRecDepth 8000 in
set_option maxHeartbeats 3200000 in
theorem returned_cc (H : Hp) (V : List Nat) (n : UInt8) (m : Nat) (x y : List Wr) (hm : n.toNat % 12 = m) (hx : x.length ≤ 1000000) (hy : y.length ≤ 1000000) (hxd : ∀ w ∈ x, w.data.length ≤ 1000000000) (hyd : ∀ w ∈ y, w.data.length ≤ 1000000000) : CC Tryz.prog 17 [.v (.int .u8 (n.toNat : Int)), .agg [.sl .sh 3 (x.map wrC), .sl .sh 3 (y.map wrC)]] H V (Pu (.agg (sdC (rtS m (fitL (rtI m) x) (fitL (rtI m) y)))) H V) := by
  refine CC.of_swp Tryz.func17 rfl (by kernel_rfl) (by rw [Tryz.ntmps17]; exact len_le _ _ rfl) fun hok hokH => ?_
  clear hok
  have hn := n.toNat_lt
  have hm12 : m < 12 := by omega
  have hz := rtZ_ok hm12
  have hsz : imgSz (rtI m) = zI (rtZ m) := sz_imgSz (rtI_sz m)
  have hA : ∀ w ∈ fitL (rtI m) x, fitsS (zI (rtZ m)) w = 0 := fun w hw => fit_rt hm12 (fitL_mem hw).2
  have hB : ∀ w ∈ fitL (rtI m) y, fitsS (zI (rtZ m)) w = 0 := fun w hw => fit_rt hm12 (fitL_mem hw).2
  have hAd : ∀ w ∈ fitL (rtI m) x, w.data.length ≤ 1000000000 := fun w hw => hxd w (fitL_mem hw).1
  have hBd : ∀ w ∈ fitL (rtI m) y, w.data.length ≤ 1000000000 := fun w hw => hyd w (fitL_mem hw).1
  have hAl := fitL_len (rtI m) x
  have hBl := fitL_len (rtI m) y
  have hIl : (rtI m).length = 2 := rfl
  have t1 : ((n.toNat : Int)).tmod 12 = (m : Int) := by rw [Int.tmod_eq_emod_of_nonneg (by omega)]; omega
  have w1 : IntKind.i64.wrap (n.toNat : Int) = n.toNat := IntWalk.i64_in _ ⟨by omega, by omega⟩
  have w2 : IntKind.i64.wrap (m : Int) = m := IntWalk.i64_in _ ⟨by omega, by omega⟩
  have w3 : IntKind.i64.wrap (1 + (m : Int)) = 1 + (m : Int) := IntWalk.i64_in _ ⟨by omega, by omega⟩
  refine SWp.seq (Wp.s ?_)
  simp -implicitDefEqProofs [go_sem, args0]
  refine SWp.seq (Wp.s ?_)
  simp -implicitDefEqProofs [go_sem, t1, w1, w2, w3]
  refine CC.le (.cons (.sh _ _ _) .nil) ?_
  rw [show [[CV.v (.int .i64 (1 + (m : Int)))], [.v (.int .i64 3)]] = (zI (rtZ m)).map ic by simp [rtZ, zI, ic]]
  refine CC.mono (rNew_cc _ _ (zI (rtZ m)) (by rw [zI_len]; exact Nat.le_trans hz.few (by decide))) ?_
  rintro _ _ _ ⟨rfl, rfl, rfl⟩
  rw [hz.sizes]
  simp -implicitDefEqProofs [go_sem]
  rw [show imOf (zI (rtZ m)) = rtI m from rfl]
  refine SWp.seq (Wp.s ?_)
  simp -implicitDefEqProofs [go_sem]
  refine CC.mono (rSizesOf_cc _ _ .sh (rtI m) (by omega)) ?_
  rintro _ _ _ ⟨rfl, rfl, rfl⟩
  rw [hsz]
  simp -implicitDefEqProofs [go_sem]
  refine SWp.seq (SWp.drawnT [] [] (.s 0 .pl <| .s 1 .pl <| .s 2 .pl <| .s 4 .pl <| .s 5 .pl <| .s 6 .pl <| .s 3 .pl <| .s 7 .pl <| .s 8 .pl <| .s 9 .pl <| .n) (by kernel_rfl) (by kernel_rfl) ?_)
  simp -implicitDefEqProofs [go_sem]
  refine CC.mono (fitting_cc _ _ (rtI m) x (by omega) hx hxd) ?_
  rintro _ _ _ ⟨rfl, rfl, rfl⟩
  simp -implicitDefEqProofs [go_sem]
  refine CC.mono (fitting_cc _ _ (rtI m) y (by omega) hy hyd) ?_
  rintro _ _ _ ⟨rfl, rfl, rfl⟩
  simp -implicitDefEqProofs [go_sem]
  generalize fitL (rtI m) x = a at hA hAd hAl ⊢
  generalize fitL (rtI m) y = b at hB hBd hBl ⊢
  have hap : apR (rtI m) a = (apA (rtI m) a, 0, 0) := by
    rw [apR, hsz, if_neg (by simp [hz.sizes]), apI_A _ _ _ fun w hw => by rw [hsz]; exact hA w hw]
  have hAo : ∀ w ∈ a, WOk (rtZ m) w := fun w hw => fit_WOk (hA w hw)
  have hBo : ∀ w ∈ b, WOk (rtZ m) w := fun w hw => fit_WOk (hB w hw)
  have hdO := mW_ok hz hAo
  have hdN := mW_ok hz hBo
  refine SWp.seq (Wp.s ?_)
  simp -implicitDefEqProofs [go_sem]
  refine CC.mono (rApply_cc _ _ (rtI m) a (by omega) (by omega) hAd) ?_
  rintro _ _ _ ⟨rfl, rfl, rfl⟩
  rw [hap, apV]
  simp -implicitDefEqProofs [go_sem]
  refine SWp.seq (Wp.s ?_)
  simp -implicitDefEqProofs [go_sem]
  refine SWp.seq (Wp.s ?_)
  simp -implicitDefEqProofs [go_sem]
  refine SWp.seq (Wp.s ?_)
  simp -implicitDefEqProofs [go_sem]
  refine CC.mono (clean43_cc _ _ (rtZ m) hz) ?_
  rintro _ _ _ ⟨rfl, rfl, rfl⟩
  simp -implicitDefEqProofs [go_sem]
  refine CC.mono (mark43_cc _ _ (cleanB (rtZ m)) a (rtZ m) hz (cleanB_ok hz) hAo (by omega)) ?_
  rintro _ _ _ ⟨rfl, rfl, rfl⟩
  simp -implicitDefEqProofs [go_sem]
  refine SWp.seq (Wp.s ?_)
  simp -implicitDefEqProofs [go_sem]
  refine CC.mono (clean43_cc _ _ (rtZ m) hz) ?_
  rintro _ _ _ ⟨rfl, rfl, rfl⟩
  simp -implicitDefEqProofs [go_sem]
  refine CC.mono (mark43_cc _ _ (cleanB (rtZ m)) b (rtZ m) hz (cleanB_ok hz) hBo (by omega)) ?_
  rintro _ _ _ ⟨rfl, rfl, rfl⟩
  simp -implicitDefEqProofs [go_sem]
  refine SWp.seq (Wp.s ?_)
  simp -implicitDefEqProofs [go_sem]
  refine CC.le (.cons (.refl _) (.cons (.sh _ _ _) (.cons (.refl _) .nil))) ?_
  refine CC.mono (tkNew_cc _ _ (rtZ m) [0, 2] 3 hz sites02 (by decide) (by decide)) ?_
  rintro _ _ _ ⟨rfl, rfl, rfl⟩
  rw [← tkW_nil]
  simp -implicitDefEqProofs [go_sem]
  refine SWp.seq (Wp.s ?_)
  simp -implicitDefEqProofs [go_sem, trkC]
  refine SWp.seq (Wp.s ?_)
  simp -implicitDefEqProofs [go_sem]
  refine CC.le (.cons (.agg (.cons (.refl _) (.cons (.sh _ _ _) (.cons (.refl _) (.cons (.refl _) (.cons (.refl _) (.cons (.sh _ _ _) (.cons (.refl _) (.cons (.refl _) (.cons (.refl _) (.cons (.refl _) (.cons (.refl _) .nil)))))))))))) (.cons (.refl _) .nil)) ?_
  refine CC.mono (sdWrite_cc _ _ (rtP m a) (rtR m b) (rtZ m) b hz (rtI_sz m) hB (by omega) hBd) ?_
  rintro _ _ _ ⟨rfl, rfl, rfl⟩
  rw [show sdW (rtP m a) (rtR m b) (rtZ m) b = ⟨rtP m a, rtQ m b, tkW (rtZ m) [0, 2] 3 b, true⟩ from rfl]
  have hpt : PtOk (rtP m a) := PtOk.of hz hdO (apA_sz (rtI_sz m) hA) (by decide) (linO_ok ⟨by decide, by decide⟩)
  have hT := tkW_ok (ss := [0, 2]) (c := 3) hz sites02 (by decide) (by decide) hBo
  have hX := mxP_ex hz hdO
  simp -implicitDefEqProofs [go_sem]
  refine SWp.seq (Wp.s ?_)
  simp -implicitDefEqProofs [go_sem, sdC]
  refine CC.mono (undo_cc _ _ (rtP m a) hpt 3 (by decide) rfl) ?_
  rintro _ _ _ ⟨rfl, rfl, rfl⟩
  simp -implicitDefEqProofs [go_sem]
  refine SWp.seq (Wp.s ?_)
  simp -implicitDefEqProofs [go_sem]
  refine CC.mono (turn_cc _ _ (tkW (rtZ m) [0, 2] 3 b) 0 3 (mxP (rtP m a).dirty) hT (by simp [tkW]) (by decide) (by decide) hX) ?_
  rintro _ _ _ ⟨rfl, rfl, rfl⟩
  simp -implicitDefEqProofs [go_sem]
  refine SWp.seq (Wp.s ?_)
  simp -implicitDefEqProofs [go_sem, trkC]
  refine SWp.seq (Wp.s ?_)
  simp -implicitDefEqProofs [go_sem]
  refine Wp.s ?_
  simp -implicitDefEqProofs [go_sem]
  exact Fin.pu (.refl _) (by rw [okV]; exact of_eq_true (okL_sdC _ _ (rtS m a b))) hokH (by simp) (by simp)
end Go.Proofs.YtpedbpbmnchllaaGreatDoor
namespace Go.Proofs.YtpedbpbmnchllaaGreatDoor
open Go.Proofs
structure RtF (m : Nat) (a b : List Wr) : Prop where
  m12 : m < 12
  a : ∀ w ∈ a, fitsS (zI (rtZ m)) w = 0
  b : ∀ w ∈ b, fitsS (zI (rtZ m)) w = 0
def rtT (m : Nat) (a b : List Wr) : Pt := ⟨1, linC 3 5, tnD (rtZ m) (mxP (rtP m a).dirty) (rtQ m b).dirty, apA (rtI m) b⟩
def rtW (m : Nat) (a b : List Wr) : Cyc := ⟨3, 6, 9, [], ctW (rtQ m b).im (mkd (rtP m a) (rtQ m b)) (rtQ m b).im.length⟩
theorem RtF.z {m : Nat} {a b : List Wr} (h : RtF m a b) : SzOkN (rtZ m) := rtZ_ok h.m12
theorem RtF.dirO {m : Nat} {a b : List Wr} (h : RtF m a b) : DirtyOk (rtZ m) (mW (cleanB (rtZ m)) a) := mW_ok h.z fun w hw => fit_WOk (h.a w hw)
theorem RtF.dirN {m : Nat} {a b : List Wr} (h : RtF m a b) : DirtyOk (rtZ m) (mW (cleanB (rtZ m)) b) := mW_ok h.z fun w hw => fit_WOk (h.b w hw)
theorem RtF.szO {m : Nat} {a b : List Wr} (h : RtF m a b) : (apA (rtI m) a).map List.length = rtZ m := apA_sz (rtI_sz m) h.a
theorem RtF.szN {m : Nat} {a b : List Wr} (h : RtF m a b) : (apA (rtI m) b).map List.length = rtZ m := apA_sz (rtI_sz m) h.b
theorem RtF.pt2 {m : Nat} {a b : List Wr} (h : RtF m a b) : Pt2 (rtP m a) (rtQ m b) :=
  ⟨PtOk.of h.z h.dirO h.szO (by decide) (linO_ok ⟨by decide, by decide⟩), PtOk.of h.z h.dirN h.szN (by decide) (linC_ok ⟨by decide, by decide, by decide⟩), h.szO.trans h.szN.symm⟩
theorem RtF.duo {m : Nat} {a b : List Wr} (h : RtF m a b) : Duo (rtP m a) (rtQ m b) 3 3 5 := ⟨h.pt2, rfl, rfl, by decide, by decide, by decide, by decide, by decide, rfl, rfl, by
  show (mW (cleanB (rtZ m)) a).length ≤ 8
  rw [h.dirO.len]; exact h.z.few⟩
theorem RtF.cov {m : Nat} {a b : List Wr} (h : RtF m a b) : CovP (rtP m a) (rtQ m b) := CovP.of (Cov.all h.z (rtI_sz m) h.a) (Cov.all h.z (rtI_sz m) h.b)
theorem RtF.ex {m : Nat} {a b : List Wr} (h : RtF m a b) : ExOk (rtZ m) (mxP (rtP m a).dirty) := mxP_ex h.z h.dirO
theorem RtF.tOk {m : Nat} {a b : List Wr} (h : RtF m a b) : PtOk (rtT m a b) := PtOk.of h.z (tnD_ok h.z h.ex h.dirN) h.szN (by decide) (linC_ok ⟨by decide, by decide, by decide⟩)
theorem RtF.tW {m : Nat} {a b : List Wr} (h : RtF m a b) : ctW (rtT m a b).im (mxP (rtT m a b).dirty) (rtT m a b).dirty.length = ctW (rtQ m b).im (mkd (rtP m a) (rtQ m b)) (rtQ m b).im.length := by
  have hO := h.dirO
  have e : mxP (rtT m a b).dirty = mkd (rtP m a) (rtQ m b) := by
    refine mxP_tn hO.len.symm (fun v hv => hO.getN v hv) fun v hv => ⟨((rtP m a).dirty.getD v ⟨1, 0⟩).w, ?_, rfl⟩
    have hv2 : v < (rtP m a).dirty.length := by rw [show (rtP m a).dirty.length = (rtZ m).length from hO.len]; exact hv
    rw [hO.getN v hv]
    have e1 : (rtP m a).dirty.getD v ⟨1, 0⟩ = (rtP m a).dirty[v] := by rw [List.getD_eq_getElem?_getD, List.getElem?_eq_getElem hv2]; rfl
    rw [show (mW (cleanB (rtZ m)) a) = (rtP m a).dirty from rfl, e1, mxP, List.getD_eq_getElem?_getD, List.getElem?_map, List.getElem?_eq_getElem hv2]
    rfl
  have l : (rtT m a b).dirty.length = (rtQ m b).im.length := by
    rw [show (rtT m a b).dirty.length = (rtZ m).length from tnD_len .., ← h.szN, List.length_map]; rfl
  rw [e, l]; rfl
theorem RtF.chk {m : Nat} {a b : List Wr} (h : RtF m a b) : chkC (rtW m a b) (imgSz (rtQ m b).im) = 0 := h.pt2.ct.chk h.pt2.hq.im (by decide) (by decide) (by decide) (by decide)
theorem RtF.sm {m : Nat} {a b : List Wr} (h : RtF m a b) : ∀ v ∈ (rtQ m b).im, v.length ≤ 63 := fun v hv => by
  have : v.length ∈ rtZ m := by rw [← h.szN]; exact List.mem_map.2 ⟨v, hv, rfl⟩
  exact (h.z.ok _ this).2
theorem RtF.smO {m : Nat} {a b : List Wr} (h : RtF m a b) : ∀ v ∈ (rtP m a).im, v.length ≤ 63 := fun v hv => by
  have : v.length ∈ rtZ m := by rw [← h.szO]; exact List.mem_map.2 ⟨v, hv, rfl⟩
  exact (h.z.ok _ this).2
theorem RtF.ws {m : Nat} {a b : List Wr} (h : RtF m a b) : ∀ w ∈ (rtW m a b).wrs, w.data.length ≤ 63 := h.pt2.ct.wrs h.sm
theorem RtF.ap {m : Nat} {a b : List Wr} (h : RtF m a b) : apC (rtP m a).im (rtW m a b) = ((rtQ m b).im, 0) := ct_apC h.pt2 h.cov (by decide) (by decide) (by decide) (by decide)
theorem RtF.ql {m : Nat} {a b : List Wr} (h : RtF m a b) : (rtQ m b).im.length = 2 := by
  have := congrArg List.length h.szN
  rw [List.length_map] at this
  exact this
theorem RtF.pl {m : Nat} {a b : List Wr} (h : RtF m a b) : (rtP m a).im.length = 2 := by
  have := congrArg List.length h.szO
  rw [List.length_map] at this
  exact this
theorem RtF.wl {m : Nat} {a b : List Wr} (h : RtF m a b) : (rtW m a b).wrs.length ≤ 2 * 63 := by
  have := ctW_len (im := (rtQ m b).im) (mkd_small h.pt2) (rtQ m b).im.length
  exact Nat.le_trans this (by rw [h.ql]; exact Nat.le_refl _)
theorem RtF.td {m : Nat} {a b : List Wr} (h : RtF m a b) : (rtT m a b).dirty.length ≤ 8 := by rw [show (rtT m a b).dirty.length = (rtZ m).length from tnD_len ..]; exact h.z.few
theorem RtF.trk {m : Nat} {a b : List Wr} (h : RtF m a b) : TrkOk (rtS m a b).t := tnT_ok (tkW_ok (ss := [0, 2]) (c := 3) h.z sites02 (by decide) (by decide) fun w hw => fit_WOk (h.b w hw)) (by decide) (by decide) h.ex
set_option maxRecDepth 8000 in
set_option maxHeartbeats 3200000 in
theorem finish_cc (H : Hp) (V : List Nat) (p : Prc) (o q : Pt) (hp : PrcOk p) (hs : 0 < p.st) (ho : PtOk o) (hq : PtOk q) (h1 : o.site = p.to) (h2 : q.site = p.fr) (he : o.im = q.im) (hv : ∀ v ∈ q.im, v.length ≤ 63) :
    CC Tryz.prog 59 [.agg (prcC p), .agg (ptC o), .agg (ptC q)] H V (Pu (.tup [.agg (prcC ⟨p.fr, p.to, p.st, p.ep, p.cy, true⟩), er 0]) H V) := by
  have hdn := hp.dn
  have hqf := hq.few
  refine CC.of_defer2 (pre := [_]) (g := 98) Tryz.func59 rfl (by kernel_rfl) (by rw [Tryz.ntmps59]; exact len_le _ _ rfl) retResc fun hok hokH => ?_
  clear hok
  refine Wp.s ?_
  simp -implicitDefEqProofs [go_sem, args0]
  refine SWp.seq (Wp.s ?_)
  simp -implicitDefEqProofs [go_sem]
  refine SWp.seq (Wp.s ?_)
  simp -implicitDefEqProofs [go_sem]
  refine CC.mono (formed_cc _ _ p hp) ?_
  rintro _ _ _ ⟨rfl, rfl⟩
  simp -implicitDefEqProofs [go_sem]
  refine SWp.join (α := Unit) (fun _ => ([(4, .ptr (H.length + 1) 0), (5, .ptr (H.length + 2) 0), (6, .ptr (H.length + 3) 0), (7, .ptr (H.length + 4) 0), (8, .ptr (H.length + 5) 0)], H ++ [some (prcC p), some (ptC o), some (ptC q), some [ci 0, ci 0, ci 0, ci 0, ci 0, ci 0, cb false, cb false], some [ci 0], some (prcC p), some (ptC o), some (ptC q)], V)) (fun _ => True) ?_ ?_
  · refine SWp.seq (Wp.s ?_)
    simp -implicitDefEqProofs [go_sem]
    refine SWp.block ?_
    refine SWp.loop (α := Nat) (fun i => ([(4, .ptr (H.length + 1) 0), (5, .ptr (H.length + 2) 0), (6, .ptr (H.length + 3) 0), (7, .ptr (H.length + 4) 0), (8, .ptr (H.length + 5) 0), (18, .sl .ti 4 [ptC o, ptC q]), (19, ci 2), (20, ci i)], H ++ (some (prcC p) :: some (ptC o) :: some (ptC q) :: some [ci 0, ci 0, ci 0, ci 0, ci 0, ci 0, cb false, cb false] :: some [ci 0] :: some (prcC p) :: (if i = 0 then [] else if i = 1 then [some (ptC o)] else [some (ptC o), some (ptC q)])), V)) (fun i => i ≤ 2) (fun i => 2 - i) 0 (Nat.zero_le _) (Sh.forget (by simp [go_sem]) rfl rfl) ?_
    intro i hi
    dsimp only
    rcases (show i = 2 ∨ i = 1 ∨ i = 0 by omega) with rfl | rfl | rfl
    · refine SWp.seq (Wp.s ?_)
      simp -implicitDefEqProofs [go_sem]
      refine SWp.seq (Wp.s ?_)
      simp -implicitDefEqProofs [go_sem]
      exact Sh.forget (by simp [go_sem]) (by simp) rfl
    · refine SWp.seq (Wp.s ?_)
      simp -implicitDefEqProofs [go_sem]
      refine SWp.seq (Wp.s ?_)
      simp -implicitDefEqProofs [go_sem]
      refine SWp.seq (SWp.block (SWp.seq (Wp.s ?_)))
      simp -implicitDefEqProofs [go_sem]
      refine Wp.s ?_
      simp -implicitDefEqProofs [go_sem]
      refine CC.mono (ptCheck_cc _ _ q hq) ?_
      rintro _ _ _ ⟨rfl, rfl, rfl⟩
      simp -implicitDefEqProofs [go_sem]
      refine CC.mono (fok_cc _ _) ?_
      rintro _ _ _ ⟨rfl, rfl⟩
      simp -implicitDefEqProofs [go_sem]
      refine Wp.s ?_
      simp -implicitDefEqProofs [go_sem]
      refine ⟨2, by omega, by omega, Sh.forget ?_ (by simp) rfl⟩
      simp [go_sem]
      rw [show IntKind.i64.wrap (2 : Int) = 2 from rfl]
      exact .refl _
    · refine SWp.seq (Wp.s ?_)
      simp -implicitDefEqProofs [go_sem]
      refine SWp.seq (Wp.s ?_)
      simp -implicitDefEqProofs [go_sem]
      refine SWp.seq (SWp.block (SWp.seq (Wp.s ?_)))
      simp -implicitDefEqProofs [go_sem]
      refine Wp.s ?_
      simp -implicitDefEqProofs [go_sem]
      refine CC.mono (ptCheck_cc _ _ o ho) ?_
      rintro _ _ _ ⟨rfl, rfl, rfl⟩
      simp -implicitDefEqProofs [go_sem]
      refine CC.mono (fok_cc _ _) ?_
      rintro _ _ _ ⟨rfl, rfl⟩
      simp -implicitDefEqProofs [go_sem]
      refine Wp.s ?_
      simp -implicitDefEqProofs [go_sem]
      refine ⟨1, by omega, by omega, Sh.forget ?_ (by simp) rfl⟩
      simp [go_sem]
      rw [show IntKind.i64.wrap (1 : Int) = 1 from rfl]
      exact .refl _
  rintro _ -
  dsimp only
  refine SWp.seq (Wp.s ?_)
  simp -implicitDefEqProofs [go_sem, h1, h2]
  refine CC.mono (demand_cc _ _ 1) ?_
  rintro _ _ _ ⟨rfl, rfl⟩
  simp -implicitDefEqProofs [go_sem]
  refine SWp.seq (Wp.s ?_)
  simp -implicitDefEqProofs [go_sem, hdn, hs]
  refine CC.mono (demand_cc _ _ 12) ?_
  rintro _ _ _ ⟨rfl, rfl⟩
  simp -implicitDefEqProofs [go_sem]
  refine SWp.seq (Wp.s ?_)
  simp -implicitDefEqProofs [go_sem]
  refine CC.mono (imSame_cc _ _ .sh .sh o.im q.im (by rw [he]; omega) (fun v hv' => Nat.le_trans (hv v (by rw [← he]; exact hv')) (by decide))) ?_
  rintro _ _ _ ⟨rfl, rfl, rfl⟩
  rw [decide_eq_true he]
  simp -implicitDefEqProofs [go_sem]
  refine CC.mono (demand_cc _ _ 22) ?_
  rintro _ _ _ ⟨rfl, rfl⟩
  simp -implicitDefEqProofs [go_sem]
  refine SWp.seq (Wp.s ?_)
  simp -implicitDefEqProofs [go_sem, prcC]
  refine SWp.seq (Wp.s ?_)
  simp -implicitDefEqProofs [go_sem]
  refine Wp.s ?_
  simp -implicitDefEqProofs [go_sem]
  refine CR.mono (finish1_cr _ _ _ _ (hget _ _ 4)) ?_
  rintro _ _ ⟨rfl, rfl⟩
  simp -implicitDefEqProofs [go_sem]
  exact Fin.pu (.refl _) (by simp [go_sem, okL, okV]) hokH (by simp) (by simp)
theorem rtMarked_cc (H : Hp) (V : List Nat) {m : Nat} {a b : List Wr} (h : RtF m a b) : CC Tryz.prog 18 [.agg (sdC (rtS m a b))] H V (Pu (.agg (ptC (rtT m a b))) H V) :=
  sdMarked_cc H V (rtS m a b) h.trk (show 0 < 2 by decide) rfl
theorem rtRound_cc (H : Hp) (V : List Nat) {m : Nat} {a b : List Wr} (h : RtF m a b) : CC Tryz.prog 11 [.agg (prcC ⟨1, 0, 0, 3, 3, false⟩), .agg (ptC (rtT m a b)), ci 6, ci 9] H V (Pu (.tup [.agg (prcC ⟨1, 0, 1, 3, 6, false⟩), .agg (cycC (rtW m a b)), er 0]) H V) := by
  have hTW := h.tW
  have hws : WrS (rtW m a b).wrs := fun w hw => Nat.le_trans (h.ws w hw) (by decide)
  refine CC.mono (round_cc _ _ ⟨1, 0, 0, 3, 3, false⟩ (rtT m a b) 3 5 6 9 ⟨by decide, by decide, by decide, by decide, by decide, by decide, by decide, by decide, by decide, by decide, by decide, rfl⟩ h.tOk h.td rfl rfl rfl (by decide) (by decide) (by rw [hTW]; exact h.chk) (by rw [hTW]; exact hws)) ?_
  rintro r H' V' hr
  rw [hTW] at hr
  exact hr
theorem rtCycle_cc (H : Hp) (V : List Nat) {m : Nat} {a b : List Wr} (h : RtF m a b) : CC Tryz.prog 8 [.agg (ptC (rtP m a)), .agg (ptC (rtQ m b)), ci 6, ci 9, .v (.slice none 0 0)] H V (Pu (.tup [.agg (cycC (rtW m a b)), er 0]) H V) := by
  refine CC.le (.cons (.refl _) (.cons (.refl _) (.cons (.refl _) (.cons (.refl _) (.cons (.nil 1 (by decide)) .nil))))) ?_
  exact rcycle_cc _ _ (rtP m a) (rtQ m b) 3 3 5 6 9 h.duo (by decide) (by decide) h.chk fun w hw => Nat.le_trans (h.ws w hw) (by decide)
end Go.Proofs.YtpedbpbmnchllaaGreatDoor
namespace Go.Proofs.YtpedbpbmnchllaaGreatDoor
open Go.Proofs
def bSec (b : UInt8) : Sec := ⟨[b, 0, 0, 0, 0, 0, 0, 0], rfl⟩
def bWr (s : Int) (b : UInt8) : Wr := ⟨0, s, [bSec b]⟩
theorem awk1_cc (H : Hp) (V : List Nat) (s : Int) (b : UInt8) : CC Tryz.prog 58 [ci s, .v (.int .u8 (b.toNat : Int))] H V (Pu (.sl .sh 3 ([bWr s b].map wrC)) H V) := by
  refine CC.of_swp Tryz.func58 rfl (by kernel_rfl) (by rw [Tryz.ntmps58]; exact len_le _ _ rfl) fun hok hokH => ?_
  clear hok
  refine SWp.seq (Wp.s ?_)
  simp -implicitDefEqProofs [go_sem, args0]
  refine SWp.seq (Wp.s ?_)
  simp -implicitDefEqProofs [go_sem]
  refine Wp.s ?_
  simp -implicitDefEqProofs [go_sem]
  exact Fin.pu (.sle _ _ (.cons (.cons (.refl _) (.cons (.refl _) (.cons (.sh _ _ _) .nil))) .nil)) (by simp [go_sem, okE, okL, okV, wrC, okE_secs, okTk]) hokH (by simp) (by simp)
theorem awkF : RtF 4 [bWr 0 1] [bWr 2 2] := ⟨by decide, fun w hw => by
  obtain rfl : w = _ := by simpa using hw
  decide, fun w hw => by
  obtain rfl : w = _ := by simpa using hw
  decide⟩
theorem awk_a : fitL (rtI 4) [bWr 0 1] = [bWr 0 1] := by kernel_rfl
theorem awk_b : fitL (rtI 4) [bWr 2 2] = [bWr 2 2] := by kernel_rfl
theorem awk_m : mkd (rtP 4 [bWr 0 1]) (rtQ 4 [bWr 2 2]) = [[(0, 1), (2, 1)], []] := by kernel_rfl
theorem awk_s : secN (rtW 4 [bWr 0 1] [bWr 2 2]).wrs = 2 := by kernel_rfl
set_option maxRecDepth 8000 in
set_option maxHeartbeats 3200000 in
theorem awk_cc (H : Hp) (V : List Nat)  : CC Tryz.prog 16 [] H V (Pu (cb true) H V) := by
  refine CC.of_swp Tryz.func16 rfl (by kernel_rfl) (by rw [Tryz.ntmps16]; exact len_le _ _ rfl) fun hok hokH => ?_
  clear hok
  obtain ⟨a, ha⟩ : ∃ a, a = [bWr 0 1] := ⟨_, rfl⟩
  obtain ⟨b, hb⟩ : ∃ b, b = [bWr 2 2] := ⟨_, rfl⟩
  have F := awkF
  have ea := awk_a
  have eb := awk_b
  have em := awk_m
  have es := awk_s
  have hB1 : ∀ w ∈ [bWr 0 1], w.data.length ≤ 1000000000 := fun w hw => by
    obtain rfl : w = _ := by simpa using hw
    decide
  have hB2 : ∀ w ∈ [bWr 2 2], w.data.length ≤ 1000000000 := fun w hw => by
    obtain rfl : w = _ := by simpa using hw
    decide
  have hl1 : [bWr 0 1].length ≤ 1000000 := by decide
  have hl2 : [bWr 2 2].length ≤ 1000000 := by decide
  rw [← ha] at ea hB1 hl1
  rw [← hb] at eb hB2 hl2
  rw [← ha, ← hb] at F em es
  refine SWp.seq (Wp.s ?_)
  simp -implicitDefEqProofs [go_sem, args0]
  refine SWp.seq (Wp.s ?_)
  simp -implicitDefEqProofs [go_sem]
  refine SWp.seq (Wp.s ?_)
  simp -implicitDefEqProofs [go_sem]
  refine CC.mono (awk1_cc _ _ 0 1) ?_
  rintro _ _ _ ⟨rfl, rfl, rfl⟩
  rw [← ha]
  simp -implicitDefEqProofs [go_sem]
  refine CC.mono (awk1_cc _ _ 2 2) ?_
  rintro _ _ _ ⟨rfl, rfl, rfl⟩
  rw [← hb]
  simp -implicitDefEqProofs [go_sem]
  clear ha hb
  refine CC.mono (returned_cc _ _ 4 4 a b rfl hl1 hl2 hB1 hB2) ?_
  rintro _ _ _ ⟨rfl, rfl, rfl⟩
  rw [ea, eb]
  have hP := F.pt2
  have hD := F.duo
  have hT := F.tOk
  have hTW := F.tW
  have hchk := F.chk
  have hws := F.ws
  have hap := F.ap
  have hql := F.ql
  have hpl := F.pl
  have hwl := F.wl
  have hWS : WrS (rtW 4 a b).wrs := fun w hw => Nat.le_trans (hws w hw) (by decide)
  have hS : rtS 4 a b = ⟨rtP 4 a, rtQ 4 b, (rtS 4 a b).t, true⟩ := rfl
  have htrk := F.trk
  have htd : ∀ (h : 0 < (rtS 4 a b).t.peers.length), (rtS 4 a b).t.peers[0].dirty = tnD (rtZ 4) (mxP (rtP 4 a).dirty) (rtQ 4 b).dirty := fun _ => rfl
  simp -implicitDefEqProofs [go_sem]
  refine SWp.seq (Wp.s ?_)
  simp -implicitDefEqProofs [go_sem, sdC]
  refine CC.mono (begin_cc _ _ (rtP 4 a) (rtQ 4 b) 3 3 5 hD) ?_
  rintro _ _ _ ⟨rfl, rfl, rfl⟩
  rw [em]
  simp -implicitDefEqProofs [go_sem]
  refine SWp.seq (SWp.drawnT [] [9, 10] (.s 0 .pl <| .s 1 .pl <| .c 2 <| .c 3 <| .s 4 .pl <| .s 5 .pl <| .s 6 .pl <| .s 7 .pl <| .s 8 .pl <| .s 9 .st <| .s 10 .st <| .s 11 .pl <| .n) (by kernel_rfl) (by kernel_rfl) ?_)
  simp -implicitDefEqProofs [go_sem]
  refine ⟨.agg (ptC (rtT 4 a b)), fun H V => rtMarked_cc H V F, ?_⟩
  simp -implicitDefEqProofs [go_sem]
  refine ⟨.tup [.agg (prcC ⟨1, 0, 1, 3, 6, false⟩), .agg (cycC (rtW 4 a b)), er 0], fun H V => rtRound_cc H V F, ?_⟩
  simp -implicitDefEqProofs [go_sem]
  refine SWp.seq (Wp.s ?_)
  simp -implicitDefEqProofs [go_sem]
  refine CC.mono (cyApply_cc _ _ (rtP 4 a).im (rtW 4 a b) (by omega) (by omega) hWS (Nat.zero_le _)) ?_
  rintro _ _ _ ⟨rfl, rfl, rfl⟩
  rw [hap, apcV]
  simp -implicitDefEqProofs [go_sem]
  refine SWp.seq (Wp.s ?_)
  simp -implicitDefEqProofs [go_sem]
  refine SWp.seq (Wp.s ?_)
  simp -implicitDefEqProofs [go_sem]
  have hO2 : PtOk ⟨0, linO 3, (rtP 4 a).dirty, (rtQ 4 b).im⟩ := PtOk.of F.z F.dirO F.szN (by decide) (linO_ok ⟨by decide, by decide⟩)
  refine SWp.seq (Wp.s ?_)
  simp -implicitDefEqProofs [go_sem, prcC]
  refine CC.mono (finish_cc _ _ ⟨1, 0, 1, 3, 6, false⟩ ⟨0, linO 3, (rtP 4 a).dirty, (rtQ 4 b).im⟩ (rtQ 4 b) ⟨by decide, by decide, by decide, by decide, by decide, by decide, by decide, by decide, by decide, by decide, by decide, rfl⟩ (by decide) hO2 hP.hq rfl rfl rfl F.sm) ?_
  rintro _ _ _ ⟨rfl, rfl, rfl⟩
  simp -implicitDefEqProofs [go_sem]
  have hr : (rtS 4 a b).right = true := rfl
  refine SWp.seq (Wp.s ?_)
  simp -implicitDefEqProofs [go_sem, hr, prcC]
  refine CC.mono (sectors22_cc _ _ (rtW 4 a b).wrs (by omega) (fun w hw => Nat.le_trans (hws w hw) (by decide))) ?_
  rintro _ _ _ ⟨rfl, rfl, rfl⟩
  rw [es]
  simp -implicitDefEqProofs [go_sem]
  refine CC.le (.cons (.refl _) (.cons (.sle _ _ (.cons (.cons (.sh _ _ _) .nil) (.cons (.cons (.nil 2 (by decide)) .nil) .nil))) .nil)) ?_
  refine CC.mono (sameX47_cc _ _ .sh .sh [[(0, 1), (2, 1)], []] (by decide) (fun e he => by
    rcases List.mem_cons.1 he with rfl | he
    · decide
    · obtain rfl := List.mem_singleton.1 he; decide)) ?_
  rintro _ _ _ ⟨rfl, rfl, rfl⟩
  simp -implicitDefEqProofs [go_sem]
  refine Wp.s ?_
  simp -implicitDefEqProofs [go_sem]
  exact Fin.bool rfl hokH (by simp) (by simp)
end Go.Proofs.YtpedbpbmnchllaaGreatDoor
namespace Go.Proofs.YtpedbpbmnchllaaGreatDoor
open Go.Proofs
set_option maxRecDepth 8000 in
set_option maxHeartbeats 3200000 in
theorem Agrees_law (H : Hp) (V : List Nat) (n : UInt8) (x y : List Wr) : CC Tryz.prog 4 [.v (.int .u8 (n.toNat : Int)), .agg [.sl .sh 3 (x.map wrC), .sl .sh 3 (y.map wrC)]] H V (Pu (cb true) H V) := by
  refine CC.of_swp Tryz.func4 rfl (by kernel_rfl) (by rw [Tryz.ntmps4]; exact len_le _ _ rfl) fun hok hokH => ?_
  clear hok
  refine SWp.seq (Wp.s ?_)
  simp -implicitDefEqProofs [go_sem, args0]
  refine SWp.seq (SWp.seq (Wp.s ?_))
  simp -implicitDefEqProofs [go_sem]
  rw [show [[CV.sl .sh 3 (x.map wrC)], [.sl .sh 3 (y.map wrC)]] = [x, y].map wlE from rfl]
  refine CC.mono (short_cc _ _ [x, y] (by simp)) ?_
  rintro _ _ _ ⟨rfl, rfl, rfl⟩
  rcases hF : [x, y].all shortL with - | -
  · simp -implicitDefEqProofs [go_sem]
    refine Wp.s ?_
    simp -implicitDefEqProofs [go_sem]
    refine CC.mono (awk_cc _ _) ?_
    rintro _ _ _ ⟨rfl, rfl, rfl⟩
    simp -implicitDefEqProofs [go_sem]
    exact Fin.bool rfl hokH (by simp) (by simp)
  rw [List.all_eq_true] at hF
  obtain ⟨hx, hxd⟩ := shortL_1 (hF x (by simp))
  obtain ⟨hy, hyd⟩ := shortL_1 (hF y (by simp))
  clear hF
  simp -implicitDefEqProofs [go_sem]
  refine Wp.s ?_
  simp -implicitDefEqProofs [go_sem]
  obtain ⟨m, hm⟩ : ∃ m, n.toNat % 12 = m := ⟨_, rfl⟩
  have F : RtF m (fitL (rtI m) x) (fitL (rtI m) y) := ⟨by omega, fun w hw => fit_rt (by omega) (fitL_mem hw).2, fun w hw => fit_rt (by omega) (fitL_mem hw).2⟩
  refine SWp.seq (Wp.s ?_)
  simp -implicitDefEqProofs [go_sem]
  refine CC.mono (returned_cc _ _ n m x y hm (by omega) (by omega) (fun w hw => by have := hxd w hw; omega) (fun w hw => by have := hyd w hw; omega)) ?_
  rintro _ _ _ ⟨rfl, rfl, rfl⟩
  generalize fitL (rtI m) x = a at F ⊢
  generalize fitL (rtI m) y = b at F ⊢
  have hP := F.pt2
  have hD := F.duo
  have hws := F.ws
  have hap := F.ap
  have hql := F.ql
  have hpl := F.pl
  have hwl := F.wl
  have hWS : WrS (rtW m a b).wrs := fun w hw => Nat.le_trans (hws w hw) (by decide)
  have hr : (rtS m a b).right = true := rfl
  have hsec := ct_sec hP F.cov
  have hml := mkd_len (rtP m a) (rtQ m b)
  have hms := mkd_small hP
  have hdl := hD.dl
  simp -implicitDefEqProofs [go_sem]
  refine SWp.seq (Wp.s ?_)
  simp -implicitDefEqProofs [go_sem, sdC]
  refine CC.mono (begin_cc _ _ (rtP m a) (rtQ m b) 3 3 5 hD) ?_
  rintro _ _ _ ⟨rfl, rfl, rfl⟩
  simp -implicitDefEqProofs [go_sem]
  refine SWp.join (α := Nat × List CV × List CV) (fun z => ([(5, .ptr (H.length + 1) 0), (7, .sl .sh 1 ((mkd (rtP m a) (rtQ m b)).map mxsE)), (8, er 0), (10, .ptr z.1 0), (11, er 0)], H ++ [some [.sl .sh 3 (x.map wrC), .sl .sh 3 (y.map wrC)], some (sdC (rtS m a b)), some (prcC ⟨1, 0, 0, 3, 3, false⟩), some z.2.1, some z.2.2], V)) (fun z => (z.1 = H.length + 3 ∧ z.2.1 = cycC (rtW m a b)) ∨ (z.1 = H.length + 4 ∧ z.2.2 = cycC (rtW m a b))) ?_ ?_
  · refine SWp.drawnT [] [10, 11] (.s 0 .pl <| .s 1 .pl <| .c 2 <| .c 3 <| .s 4 .pl <| .s 5 .pl <| .s 6 .pl <| .s 7 .pl <| .f 8 .pl (.s 9 .pl <| .s 10 .st <| .s 11 .st <| .s 12 .pl <| .n) 9 .pl (.s 8 .pl <| .s 10 .st <| .s 11 .st <| .s 12 .pl <| .n)) (by kernel_rfl) (by kernel_rfl) ?_
    simp -implicitDefEqProofs [go_sem]
    refine ⟨.agg (ptC (rtT m a b)), fun H V => rtMarked_cc H V F, ?_⟩
    simp -implicitDefEqProofs [go_sem]
    refine ⟨.tup [.agg (prcC ⟨1, 0, 1, 3, 6, false⟩), .agg (cycC (rtW m a b)), er 0], fun H V => rtRound_cc H V F, ?_⟩
    simp -implicitDefEqProofs [go_sem]
    exact ⟨⟨H.length + 4, prcC ⟨1, 0, 1, 3, 6, false⟩, cycC (rtW m a b), .inr ⟨rfl, rfl⟩, Sh.forget (by simp [go_sem]) rfl rfl⟩, ⟨H.length + 3, cycC (rtW m a b), prcC ⟨1, 0, 1, 3, 6, false⟩, .inl ⟨rfl, rfl⟩, Sh.forget (by simp [go_sem]) rfl rfl⟩⟩
  rintro ⟨t, u, v⟩ hz
  dsimp only at hz ⊢
  have hX : ∀ (A B C : Option (List CV)) (L : Hp), (H ++ (A :: B :: C :: some u :: some v :: L))[t]? = some (some (cycC (rtW m a b))) := fun A B C L => by
    rcases hz with ⟨rfl, rfl⟩ | ⟨rfl, rfl⟩
    · exact hget _ _ 3
    · exact hget _ _ 4
  clear hz
  refine SWp.seq (Wp.s ?_)
  simp -implicitDefEqProofs [go_sem, sdC]
  refine CC.mono (rtCycle_cc _ _ F) ?_
  rintro _ _ _ ⟨rfl, rfl, rfl⟩
  simp -implicitDefEqProofs [go_sem]
  refine SWp.seq (Wp.s ?_)
  simp -implicitDefEqProofs [go_sem]
  refine CC.mono (rExtents_cc _ _ (rtP m a) (rtQ m b) hP) ?_
  rintro _ _ _ ⟨rfl, rfl, rfl⟩
  simp -implicitDefEqProofs [go_sem]
  refine SWp.seq (Wp.s ?_)
  simp -implicitDefEqProofs [go_sem]
  refine CC.mono (cyApply_cc _ _ (rtP m a).im (rtW m a b) (by omega) (by omega) hWS (Nat.zero_le _)) ?_
  rintro _ _ _ ⟨rfl, rfl, rfl⟩
  rw [hap, apcV]
  simp -implicitDefEqProofs [go_sem]
  refine SWp.seq (Wp.s ?_)
  simp -implicitDefEqProofs [go_sem]
  refine CC.mono (least_cc _ _ (rtP m a).im (rtQ m b).im hP.hp.im hP.sz F.smO) ?_
  rintro _ _ _ ⟨rfl, rfl, rfl⟩
  simp -implicitDefEqProofs [go_sem]
  refine SWp.seq (SWp.seq (Wp.s ?_))
  simp -implicitDefEqProofs [go_sem, hr]
  refine Wp.s ?_
  simp -implicitDefEqProofs [go_sem]
  refine SWp.seq (Wp.s ?_)
  simp -implicitDefEqProofs [go_sem]
  refine CC.mono (awk_cc _ _) ?_
  rintro _ _ _ ⟨rfl, rfl, rfl⟩
  simp -implicitDefEqProofs [go_sem, hbx_of (hX _ _ _ _)]
  refine CC.mono (same22_cc _ _ (rtW m a b).wrs (rtW m a b).wrs (by omega) hWS) ?_
  rintro _ _ _ ⟨rfl, rfl, rfl⟩
  simp -implicitDefEqProofs [go_sem, hbx_of (hX _ _ _ _)]
  refine CC.mono (sameX47_cc _ _ .sh .sh (mkd (rtP m a) (rtQ m b)) (by omega) (fun e he => Nat.le_trans (hms e he) (by decide))) ?_
  rintro _ _ _ ⟨rfl, rfl, rfl⟩
  simp -implicitDefEqProofs [go_sem]
  refine CC.mono (SameImg_cc _ _ .sh .sh (rtQ m b).im (rtQ m b).im (by omega) (fun v hv => Nat.le_trans (F.sm v hv) (by decide))) ?_
  rintro _ _ _ ⟨rfl, rfl, rfl⟩
  simp -implicitDefEqProofs [go_sem, hbx_of (hX _ _ _ _)]
  refine CC.le (.cons (.sh _ _ _) .nil) ?_
  refine CC.mono (transf_cc _ _ (rtW m a b) (by omega) (fun w hw => Nat.le_trans (hws w hw) (by decide))) ?_
  rintro _ _ _ ⟨rfl, rfl, rfl⟩
  have hge : ((dfI (rtP m a).im (rtQ m b).im (rtP m a).im.length : Nat) : Int) ≤ (secN (rtW m a b).wrs : Nat) := by
    have : dfI (rtP m a).im (rtQ m b).im (rtP m a).im.length ≤ secN (rtW m a b).wrs := hsec
    omega
  simp -implicitDefEqProofs [go_sem, hge]
  refine Wp.s ?_
  simp -implicitDefEqProofs [go_sem]
  exact Fin.bool rfl hokH (by simp) (by simp)
end Go.Proofs.YtpedbpbmnchllaaGreatDoor
