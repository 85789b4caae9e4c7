import Derived.Test.YtgoofldhelffdaaGreatDoorB3
import Derived.ChangeKeysEq
import Derived.WalkSmall
set_option linter.unusedSimpArgs false
set_option linter.unusedVariables false
set_option linter.unusedSectionVars false
namespace Go.Proofs.YtgoofldhelffdaaGreatDoor
open Go.Proofs
theorem new1_cc (H : Hp) (V : List Nat) (n : Int) (h0 : 0 ≤ n) (h1 : n ≤ 1000000) : CC Tryz.prog 34 [ci n] H V (Pu (secsV (zer n.toNat)) H V) := by
  refine CC.of_swp Tryz.func34 rfl (by kernel_rfl) (by rw [Tryz.ntmps34]; exact len_le _ _ rfl) fun hok hokH => ?_
  clear hok
  have hz : (List.replicate n.toNat [CV.v (.int .u8 0), CV.v (.int .u8 0), CV.v (.int .u8 0), CV.v (.int .u8 0), CV.v (.int .u8 0), CV.v (.int .u8 0), CV.v (.int .u8 0), CV.v (.int .u8 0)]).flatten = secsF (zer n.toNat) := zeros_secs n.toNat
  refine SWp.seq (Wp.s ?_)
  simp -implicitDefEqProofs [go_sem, args0]
  refine Wp.s ?_
  simp -implicitDefEqProofs [go_sem]
  refine ⟨h0, by omega, ?_⟩
  rw [hz]
  exact Fin.froz (b := H.length) (cs := secsF (zer n.toNat)) ⟨rfl, rfl, rfl⟩ (.refl _) (by simp) (xs := (zer n.toNat).map secC) (by have := chunks_secs (zer n.toNat); rw [zer_len] at this; rw [List.drop_zero, this]) (by simp; omega) (by omega) (by simp [go_sem]) hokH (by simp) (by simp)
theorem mapNew_cc (H : Hp) (V : List Nat) (tk : Tk) (l : List Int) (hl : l.length ≤ 1000000) (hn : ∀ n ∈ l, 0 ≤ n ∧ n ≤ 1000000) : CC Tryz.prog 33 [.sl tk 1 (l.map ic), .fn 34 []] H V (Fr 1 ((imOf l).map imE) H V) := by
  refine CC.of_swp Tryz.func33 rfl (by kernel_rfl) (by rw [Tryz.ntmps33]; exact len_le _ _ rfl) fun hok hokH => ?_
  clear hok
  refine SWp.seq (Wp.s ?_)
  simp -implicitDefEqProofs [go_sem, args0]
  refine SWp.seq (Wp.s ?_)
  simp -implicitDefEqProofs [go_sem]
  refine ⟨by omega, ?_⟩
  refine SWp.join (α := Unit) (fun _ => ([(5, .sl (.own V.length l.length) 1 ((imOf l).map imE))], H, V ++ [l.length])) (fun _ => True) ?_ ?_
  · refine SWp.seq (Wp.s ?_)
    simp -implicitDefEqProofs [go_sem]
    refine SWp.block ?_
    refine SWp.loop (α := Nat) (fun i => ([(1, .fn 34 []), (5, .sl (.own V.length i) 1 ((imOf (l.take i)).map imE)), (11, .sl tk 1 (l.map ic)), (12, ci l.length), (13, ci i)], H, V ++ [i])) (fun i => i ≤ l.length) (fun i => l.length - i) 0 (Nat.zero_le _) (Sh.forget (by simp [go_sem, imOf]) rfl rfl) ?_
    intro i hi
    dsimp only
    refine Wp.s ?_
    simp -implicitDefEqProofs [go_sem]
    refine ⟨fun h => ⟨h, ?_⟩, fun h => Sh.forget (by simp [go_sem]; rw [List.take_of_length_le h]; exact .of_eq (by rw [show i = l.length by omega])) rfl (by rw [show i = l.length by omega])⟩
    obtain ⟨n1, n2⟩ := hn l[i] (List.getElem_mem h)
    refine CC.mono (new1_cc _ _ l[i] n1 n2) ?_
    rintro _ _ _ ⟨rfl, rfl, rfl⟩
    simp -implicitDefEqProofs [go_sem]
    refine ⟨by omega, i + 1, by omega, by omega, Sh.forget ?_ rfl rfl⟩
    have : (imOf (l.take (i + 1))).map imE = (imOf (l.take i)).map imE ++ [imE (zer l[i].toNat)] := by
      rw [List.take_succ_eq_append_getElem h, imOf, List.map_append, List.map_append]; rfl
    rw [this]
    simp [go_sem, wrap_succ (show i ≤ 1000000000 by omega)]
    exact .refl _
  · rintro _ -
    dsimp only
    refine Wp.s ?_
    simp -implicitDefEqProofs [go_sem]
    exact Fin.fr (by simp [go_sem]) hokH (by simp)
theorem New_cc (H : Hp) (V : List Nat) (tk : Tk) (l : List Int) (hl : l.length ≤ 9223372036854775807) : CC Tryz.prog 16 [.sl tk 1 (l.map ic)] H V (Pu (.tup [imV (if sizesE l ≠ 0 then [] else imOf l), er (sizesE l)]) H V) := by
  refine CC.of_swp Tryz.func16 rfl (by kernel_rfl) (by rw [Tryz.ntmps16]; exact len_le _ _ rfl) fun hok hokH => ?_
  clear hok
  refine SWp.seq (Wp.s ?_)
  simp -implicitDefEqProofs [go_sem, args0]
  refine SWp.seq (Wp.s ?_)
  simp -implicitDefEqProofs [go_sem]
  refine CC.mono (checkSizes_cc _ _ tk l hl) ?_
  rintro _ _ _ ⟨rfl, rfl, rfl⟩
  by_cases he : sizesE l = 0
  · simp -implicitDefEqProofs [go_sem, he]
    refine Wp.s ?_
    simp -implicitDefEqProofs [go_sem]
    obtain ⟨s1, s2, s3⟩ := sizesE_0 he
    refine CC.mono (mapNew_cc _ _ tk l (by omega) (fun n hn => by have := s3 n hn; omega)) ?_
    rintro _ _ _ ⟨v, rfl, rfl, rfl⟩
    simp -implicitDefEqProofs [go_sem]
    exact Fin.tup2 (.sh _ _ _) (.refl _) (by simp [go_sem]) (by simp [go_sem]) hokH (by simp) (by simp)
  · simp -implicitDefEqProofs [go_sem, he]
    exact Fin.tup2 (.nil 1 (by decide)) (.refl _) (by simp [go_sem]) (by simp [go_sem]) hokH (by simp) (by simp)
theorem sizes1_cc (H : Hp) (V : List Nat) (v : List Sec) : CC Tryz.prog 70 [secsV v] H V (Pu (ci v.length) H V) := by
  refine CC.of_swp Tryz.func70 rfl (by kernel_rfl) (by rw [Tryz.ntmps70]; exact len_le _ _ rfl) fun hok hokH => ?_
  clear hok
  refine SWp.seq (Wp.s ?_)
  simp -implicitDefEqProofs [go_sem, args0]
  refine Wp.s ?_
  simp -implicitDefEqProofs [go_sem]
  exact Fin.int rfl hokH (by simp) (by simp)
theorem mapSz_cc (H : Hp) (V : List Nat) (tk : Tk) (l : Img) (hl : l.length ≤ 1000000000) : CC Tryz.prog 69 [.sl tk 1 (l.map imE), .fn 70 []] H V (Fr 1 ((imgSz l).map ic) H V) := by
  refine CC.of_swp Tryz.func69 rfl (by kernel_rfl) (by rw [Tryz.ntmps69]; exact len_le _ _ rfl) fun hok hokH => ?_
  clear hok
  refine SWp.seq (Wp.s ?_)
  simp -implicitDefEqProofs [go_sem, args0]
  refine SWp.seq (Wp.s ?_)
  simp -implicitDefEqProofs [go_sem]
  refine ⟨by omega, ?_⟩
  refine SWp.join (α := Unit) (fun _ => ([(5, .sl (.own V.length l.length) 1 ((imgSz l).map ic))], H, V ++ [l.length])) (fun _ => True) ?_ ?_
  · refine SWp.seq (Wp.s ?_)
    simp -implicitDefEqProofs [go_sem]
    refine SWp.block ?_
    refine SWp.loop (α := Nat) (fun i => ([(1, .fn 70 []), (5, .sl (.own V.length i) 1 ((imgSz (l.take i)).map ic)), (11, .sl tk 1 (l.map imE)), (12, ci l.length), (13, ci i)], H, V ++ [i])) (fun i => i ≤ l.length) (fun i => l.length - i) 0 (Nat.zero_le _) (Sh.forget (by simp [go_sem, imgSz]) rfl rfl) ?_
    intro i hi
    dsimp only
    refine Wp.s ?_
    simp -implicitDefEqProofs [go_sem]
    refine ⟨fun h => ⟨h, ?_⟩, fun h => Sh.forget (by simp [go_sem]; rw [List.take_of_length_le h]; exact .of_eq (by rw [show i = l.length by omega])) rfl (by rw [show i = l.length by omega])⟩
    refine CC.mono (sizes1_cc _ _ l[i]) ?_
    rintro _ _ _ ⟨rfl, rfl, rfl⟩
    simp -implicitDefEqProofs [go_sem]
    refine ⟨by omega, i + 1, by omega, by omega, Sh.forget ?_ rfl rfl⟩
    have : (imgSz (l.take (i + 1))).map ic = (imgSz (l.take i)).map ic ++ [[ci l[i].length]] := by
      rw [List.take_succ_eq_append_getElem h, imgSz, List.map_append, List.map_append]; rfl
    rw [this]
    simp [go_sem, wrap_succ (show i ≤ 1000000000 by omega)]
  · rintro _ -
    dsimp only
    refine Wp.s ?_
    simp -implicitDefEqProofs [go_sem]
    exact Fin.fr (by simp [go_sem, okE_ints]) hokH (by simp)
theorem sizes_cc (H : Hp) (V : List Nat) (tk : Tk) (l : Img) (hl : l.length ≤ 1000000000) : CC Tryz.prog 44 [.sl tk 1 (l.map imE)] H V (Fr 1 ((imgSz l).map ic) H V) := by
  refine CC.of_swp Tryz.func44 rfl (by kernel_rfl) (by rw [Tryz.ntmps44]; exact len_le _ _ rfl) fun hok hokH => ?_
  clear hok
  refine SWp.seq (Wp.s ?_)
  simp -implicitDefEqProofs [go_sem, args0]
  refine Wp.s ?_
  simp -implicitDefEqProofs [go_sem]
  refine CC.mono (mapSz_cc _ _ tk l hl) ?_
  rintro _ _ _ ⟨v, rfl, rfl, rfl⟩
  simp -implicitDefEqProofs [go_sem]
  exact Fin.fr (by simp [go_sem, okE_ints]) hokH (by simp)
theorem iCheck_cc (H : Hp) (V : List Nat) (tk : Tk) (l : Img) (hl : l.length ≤ 1000000000) : CC Tryz.prog 26 [.sl tk 1 (l.map imE)] H V (Pu (er (sizesE (imgSz l))) H V) := by
  refine CC.of_swp Tryz.func26 rfl (by kernel_rfl) (by rw [Tryz.ntmps26]; exact len_le _ _ rfl) fun hok hokH => ?_
  clear hok
  refine SWp.seq (Wp.s ?_)
  simp -implicitDefEqProofs [go_sem, args0]
  refine Wp.s ?_
  simp -implicitDefEqProofs [go_sem]
  refine CC.mono (sizes_cc _ _ tk l hl) ?_
  rintro _ _ _ ⟨v, rfl, rfl, rfl⟩
  simp -implicitDefEqProofs [go_sem]
  refine CC.mono (checkSizes_cc _ _ _ (imgSz l) (by simp; omega)) ?_
  rintro _ _ _ ⟨rfl, rfl, rfl⟩
  simp -implicitDefEqProofs [go_sem]
  exact Fin.er rfl hokH (by simp) (by simp)
end Go.Proofs.YtgoofldhelffdaaGreatDoor
namespace Go.Proofs.YtgoofldhelffdaaGreatDoor
open Go.Proofs
theorem imgSz_getD (l : Img) (n : Nat) (h : n < l.length) : (imgSz l).getD n 0 = ((l[n]).length : Int) := by
  rw [List.getD_eq_getElem?_getD, imgSz, List.getElem?_map, List.getElem?_eq_getElem h]; rfl
theorem fits_cc (H : Hp) (V : List Nat) (tk : Tk) (l : Img) (w : Wr) (hl : l.length ≤ 1000000000) (hs : ∀ v ∈ l, v.length ≤ 1000000000) (hw : w.data.length ≤ 1000000000) : CC Tryz.prog 28 [.sl tk 1 (l.map imE), .agg (wrC w)] H V (Pu (er (fitsS (imgSz l) w)) H V) := by
  refine CC.of_swp Tryz.func28 rfl (by kernel_rfl) (by rw [Tryz.ntmps28]; exact len_le _ _ rfl) fun hok hokH => ?_
  clear hok
  refine SWp.seq (Wp.s ?_)
  simp -implicitDefEqProofs [go_sem, args0]
  refine SWp.seq (SWp.block (SWp.seq (Wp.s ?_)))
  by_cases h1 : w.volume < 0
  · simp -implicitDefEqProofs [go_sem, h1]
    refine Wp.s ?_
    simp -implicitDefEqProofs [go_sem]
    exact Fin.er (by rw [fitsS, if_pos (.inl h1)]) hokH (by simp) (by simp)
  by_cases h2 : (l.length : Int) ≤ w.volume
  · simp -implicitDefEqProofs [go_sem, h1, h2]
    refine Wp.s ?_
    simp -implicitDefEqProofs [go_sem]
    exact Fin.er (by rw [fitsS, if_pos (.inr (by simpa using h2))]) hokH (by simp) (by simp)
  simp -implicitDefEqProofs [go_sem, h1, h2]
  refine Wp.s ?_
  obtain ⟨n, hn⟩ := Int.eq_ofNat_of_zero_le (Int.not_lt.1 h1)
  have hnl : n < l.length := by omega
  have hvl := hs l[n] (List.getElem_mem hnl)
  by_cases h3 : w.data.length = 0
  · simp -implicitDefEqProofs [go_sem, h1, h2, h3]
    exact Fin.er (by rw [fitsS, if_neg (by simp; omega), if_pos h3]) hokH (by simp) (by simp)
  simp -implicitDefEqProofs [go_sem, h1, h2, h3]
  refine SWp.drawnT [] [] (.s 0 .pl <| .s 1 .pl <| .s 2 .pl <| .s 3 .pl <| .s 4 .pl <| .s 5 .pl <| .s 6 .pl <| .s 7 .pl <| .s 8 .pl <| .s 9 .pl <| .s 10 .pl <| .s 11 .pl <| .s 12 .pl <| .s 13 .pl <| .s 14 .pl <| .s 15 .pl <| .s 16 .pl <| .s 17 .pl <| .s 18 .pl <| .n) (by kernel_rfl) (by kernel_rfl) ?_
  have hg : (imgSz l).getD w.volume.toNat 0 = (l[n].length : Int) := by rw [hn]; exact imgSz_getD l n hnl
  have hwr : IntKind.i64.wrap ((l[n].length : Int) - (w.data.length : Int)) = (l[n].length : Int) - (w.data.length : Int) := IntWalk.i64_in _ ⟨by omega, by omega⟩
  have hfit : fitsS (imgSz l) w = if w.start < 0 ∨ (l[n].length : Int) - (w.data.length : Int) < w.start then 2 else 0 := by
    rw [fitsS, if_neg (by simp; omega), if_neg h3, hg]
  rw [hfit]
  by_cases h4 : w.start < 0
  · simp -implicitDefEqProofs [go_sem, h4]
    exact Fin.er rfl hokH (by simp) (by simp)
  · simp -implicitDefEqProofs [go_sem, h4, hn, hnl, hwr]
    refine ⟨fun h5 => Fin.er (by rw [if_pos h5]) hokH (by simp) (by simp), fun h5 => ?_⟩
    refine Wp.s ?_
    simp -implicitDefEqProofs [go_sem]
    exact Fin.er (by rw [if_neg (by omega)]) hokH (by simp) (by simp)
def fitsI (l : Img) (w : Wr) : Nat := if sizesE (imgSz l) ≠ 0 then sizesE (imgSz l) else fitsS (imgSz l) w
theorem Fits_cc (H : Hp) (V : List Nat) (tk : Tk) (l : Img) (w : Wr) (hl : l.length ≤ 1000000000) (hs : ∀ v ∈ l, v.length ≤ 1000000000) (hw : w.data.length ≤ 1000000000) : CC Tryz.prog 57 [.sl tk 1 (l.map imE), .agg (wrC w)] H V (Pu (er (fitsI l w)) H V) := by
  refine CC.of_swp Tryz.func57 rfl (by kernel_rfl) (by rw [Tryz.ntmps57]; exact len_le _ _ rfl) fun hok hokH => ?_
  clear hok
  refine SWp.seq (Wp.s ?_)
  simp -implicitDefEqProofs [go_sem, args0]
  refine SWp.seq (Wp.s ?_)
  simp -implicitDefEqProofs [go_sem]
  refine CC.mono (iCheck_cc _ _ _ l hl) ?_
  rintro _ _ _ ⟨rfl, rfl, rfl⟩
  by_cases he : sizesE (imgSz l) = 0
  · simp -implicitDefEqProofs [go_sem, he]
    refine Wp.s ?_
    simp -implicitDefEqProofs [go_sem]
    refine CC.mono (fits_cc _ _ _ l w hl hs hw) ?_
    rintro _ _ _ ⟨rfl, rfl, rfl⟩
    simp -implicitDefEqProofs [go_sem]
    exact Fin.er (by rw [fitsI, if_neg (by simp [he])]) hokH (by simp) (by simp)
  · simp -implicitDefEqProofs [go_sem, he]
    exact Fin.er (by rw [fitsI, if_pos he]) hokH (by simp) (by simp)
end Go.Proofs.YtgoofldhelffdaaGreatDoor
namespace Go.Proofs.YtgoofldhelffdaaGreatDoor
open Go.Proofs
end Go.Proofs.YtgoofldhelffdaaGreatDoor
namespace Go.Proofs.YtgoofldhelffdaaGreatDoor
open Go.Proofs
theorem eq_of_take {α : Type} {x y : List α} (hl : x.length = y.length) {i : Nat} (hi : x.length ≤ i) (h : x.take i = y.take i) : x = y := by
  rwa [List.take_of_length_le hi, List.take_of_length_le (by omega)] at h
theorem take_eq_succ {α : Type} {x y : List α} {i : Nat} (h1 : i < x.length) (h2 : i < y.length) (h : x.take i = y.take i) (he : x[i] = y[i]) : x.take (i + 1) = y.take (i + 1) := by
  rw [List.take_succ_eq_append_getElem h1, List.take_succ_eq_append_getElem h2, h, he]
theorem ne_at {α : Type} {x y : List α} {i : Nat} (h1 : i < x.length) (h2 : i < y.length) (he : x[i] ≠ y[i]) : x ≠ y := fun e => he (by subst e; rfl)
end Go.Proofs.YtgoofldhelffdaaGreatDoor
namespace Go.Proofs.YtgoofldhelffdaaGreatDoor
open Go.Proofs
theorem flatSec : FlatEq Tryz.prog 66 (List.replicate 8 .u8) := by
  obtain ⟨i, hi⟩ := Option.isSome_iff_exists.1 (show (Tryz.prog.info? 5).isSome = true by kernel_rfl)
  exact flatEq_array Tryz.underlying66 hi Tryz.underlying5 (by kernel_rfl) (by kernel_rfl)
theorem fits_secW (s : Sec) : fits (List.replicate 8 .u8) (secC s) := by
  have := fits_rep .u8 (s.val.map fun b => (b.toNat : Int))
  rw [List.length_map, s.len, List.map_map] at this
  exact this
theorem secC_inj {a b : Sec} (h : secC a = secC b) : a = b := by
  obtain ⟨x, hx⟩ := a
  obtain ⟨y, hy⟩ := b
  simp only [secC] at h
  have hm : ∀ (u v : List UInt8), (u.map fun b => CV.v (.int .u8 (b.toNat : Int))) = (v.map fun b => CV.v (.int .u8 (b.toNat : Int))) → u = v := by
    intro u
    induction u with
    | nil => intro v hv; cases v; rfl; simp at hv
    | cons c u ih =>
      intro v hv
      cases v with
      | nil => simp at hv
      | cons d v =>
        simp only [List.map_cons, List.cons.injEq, CV.v.injEq, Value.int.injEq, true_and, Int.natCast_inj] at hv
        obtain ⟨h1, h2⟩ := hv
        rw [UInt8.toNat_inj.1 h1, ih v h2]
  obtain rfl := hm x y h
  rfl
theorem SameSecs_cc (H : Hp) (V : List Nat) (t1 t2 : Tk) (x y : List Sec) (hl : x.length ≤ 1000000000) : CC Tryz.prog 47 [.sl t1 8 (x.map secC), .sl t2 8 (y.map secC)] H V (Pu (.v (.bool (decide (x = y)))) H V) := by
  refine CC.of_swp Tryz.func47 rfl (by kernel_rfl) (by rw [Tryz.ntmps47]; exact len_le _ _ rfl) fun hok hokH => ?_
  clear hok
  refine SWp.seq (Wp.s ?_)
  simp -implicitDefEqProofs [go_sem, args0]
  refine SWp.seq (SWp.seq (Wp.s ?_))
  by_cases hlen : x.length = y.length
  case neg =>
    have hlen' : ¬ (x.length : Int) = (y.length : Int) := by omega
    simp -implicitDefEqProofs [go_sem, hlen']
    refine Wp.s ?_
    simp -implicitDefEqProofs [go_sem, hlen, hlen']
    exact Fin.bool (by simp [show x ≠ y from fun e => hlen (by rw [e])]) hokH (by simp) (by simp)
  simp -implicitDefEqProofs [go_sem, hlen]
  refine Wp.s ?_
  simp -implicitDefEqProofs [go_sem, hlen]
  refine SWp.join (α := Unit) (fun _ => ([], H, V)) (fun _ => x = y) ?_ ?_
  · refine SWp.seq (Wp.s ?_)
    simp -implicitDefEqProofs [go_sem]
    refine SWp.block ?_
    refine SWp.loop (α := Nat) (fun i => ([(0, .sl t1 8 (x.map secC)), (1, .sl t2 8 (y.map secC)), (5, ci i)], H, V)) (fun i => i ≤ x.length ∧ x.take i = y.take i) (fun i => x.length - i) 0 ⟨Nat.zero_le _, rfl⟩ (Sh.forget (by simp [go_sem]) rfl rfl) ?_
    rintro i ⟨hi, hp⟩
    dsimp only
    refine SWp.seq (SWp.seq (Wp.s ?_))
    simp -implicitDefEqProofs [go_sem]
    refine Wp.s ?_
    simp -implicitDefEqProofs [go_sem]
    refine ⟨fun h => ?_, fun h => ⟨eq_of_take hlen h hp, Sh.forget (by simp [go_sem]) rfl rfl⟩⟩
    have h2 : i < y.length := by omega
    refine SWp.seq (SWp.block (SWp.seq (SWp.drawnT [] [] (.s 0 .pl <| .s 1 .pl <| .s 2 .pl <| .s 3 .pl <| .s 4 .pl <| .s 5 .pl <| .s 6 .pl <| .s 7 .pl <| .s 8 .pl <| .n) (by kernel_rfl) (by kernel_rfl) ?_)))
    simp -implicitDefEqProofs [go_sem, h, h2]
    refine ⟨_, flatSec, fits_secW _, fits_secW _, fun he => ?_, fun he => ?_⟩
    · refine Wp.s ?_
      simp -implicitDefEqProofs [go_sem]
      exact Fin.bool (by simp [ne_at h h2 (fun e => he (by rw [e]))]) hokH (by simp) (by simp)
    · refine Wp.s ?_
      simp -implicitDefEqProofs [go_sem]
      refine Wp.s ?_
      simp -implicitDefEqProofs [go_sem]
      refine ⟨i + 1, ⟨by omega, take_eq_succ h h2 hp (secC_inj he)⟩, by omega, Sh.forget ?_ rfl rfl⟩
      simp [go_sem, wrap_succ (show i ≤ 1000000000 by omega)]
  · rintro _ he
    dsimp only
    refine Wp.s ?_
    simp -implicitDefEqProofs [go_sem]
    exact Fin.bool (by simp [he]) hokH (by simp) (by simp)
end Go.Proofs.YtgoofldhelffdaaGreatDoor
namespace Go.Proofs.YtgoofldhelffdaaGreatDoor
open Go.Proofs
theorem wr_ext {a b : Wr} (h1 : a.volume = b.volume) (h2 : a.start = b.start) (h3 : a.data = b.data) : a = b := by
  obtain ⟨p, q, r⟩ := a
  obtain ⟨p', q', r'⟩ := b
  simp_all
set_option maxRecDepth 20000 in
theorem SameWrs_cc (H : Hp) (V : List Nat) (t1 t2 : Tk) (x y : List Wr) (hl : x.length ≤ 1000000000) (hw : WrS x) : CC Tryz.prog 29 [.sl t1 3 (x.map wrC), .sl t2 3 (y.map wrC)] H V (Pu (.v (.bool (decide (x = y)))) H V) := by
  refine CC.of_swp Tryz.func29 rfl (by kernel_rfl) (by rw [Tryz.ntmps29]; exact len_le _ _ rfl) fun hok hokH => ?_
  clear hok
  refine SWp.seq (Wp.s ?_)
  simp -implicitDefEqProofs [go_sem, args0]
  refine SWp.seq (SWp.seq (Wp.s ?_))
  by_cases hlen : x.length = y.length
  case neg =>
    have hlen' : ¬ (x.length : Int) = (y.length : Int) := by omega
    simp -implicitDefEqProofs [go_sem, hlen']
    refine Wp.s ?_
    simp -implicitDefEqProofs [go_sem, hlen, hlen']
    exact Fin.bool (by simp [show x ≠ y from fun e => hlen (by rw [e])]) hokH (by simp) (by simp)
  simp -implicitDefEqProofs [go_sem, hlen]
  refine Wp.s ?_
  simp -implicitDefEqProofs [go_sem, hlen]
  refine SWp.join (α := Unit) (fun _ => ([], H, V)) (fun _ => x = y) ?_ ?_
  · refine SWp.seq (Wp.s ?_)
    simp -implicitDefEqProofs [go_sem]
    refine SWp.block ?_
    refine SWp.loop (α := Nat) (fun i => ([(0, .sl t1 3 (x.map wrC)), (1, .sl t2 3 (y.map wrC)), (5, ci i)], H, V)) (fun i => i ≤ x.length ∧ x.take i = y.take i) (fun i => x.length - i) 0 ⟨Nat.zero_le _, rfl⟩ (Sh.forget (by simp [go_sem]) rfl rfl) ?_
    rintro i ⟨hi, hp⟩
    dsimp only
    refine SWp.seq (SWp.seq (Wp.s ?_))
    simp -implicitDefEqProofs [go_sem]
    refine Wp.s ?_
    simp -implicitDefEqProofs [go_sem]
    refine ⟨fun h => ?_, fun h => ⟨eq_of_take hlen h hp, Sh.forget (by simp [go_sem]) rfl rfl⟩⟩
    have h2 : i < y.length := by omega
    have hwx := hw _ (List.getElem_mem h)
    refine SWp.seq (SWp.block (SWp.seq (SWp.drawnT [] [] (.s 0 .pl <| .s 1 .pl <| .s 2 .pl <| .s 3 .pl <| .s 4 .pl <| .s 5 .pl <| .s 6 .pl <| .s 7 .pl <| .s 8 .pl <| .s 9 .pl <| .s 10 .pl <| .s 11 .pl <| .s 12 .pl <| .s 13 .pl <| .s 14 .pl <| .s 15 .pl <| .s 16 .pl <| .s 17 .pl <| .s 18 .pl <| .s 19 .pl <| .s 20 .pl <| .s 21 .pl <| .s 22 .pl <| .s 23 .pl <| .s 24 .pl <| .s 25 .pl <| .s 26 .pl <| .s 27 .pl <| .s 28 .pl <| .s 29 .pl <| .s 30 .pl <| .s 31 .pl <| .s 32 .pl <| .s 33 .pl <| .s 34 .pl <| .s 35 .pl <| .s 36 .pl <| .s 37 .pl <| .n) (by kernel_rfl) (by kernel_rfl) ?_)))
    by_cases e1 : x[i].volume = y[i].volume
    case neg =>
      simp -implicitDefEqProofs [go_sem, h, h2, e1]
      refine Wp.s ?_
      simp -implicitDefEqProofs [go_sem]
      exact Fin.bool (by simp [ne_at h h2 (fun e => e1 (by rw [e]))]) hokH (by simp) (by simp)
    by_cases e2 : x[i].start = y[i].start
    case neg =>
      simp -implicitDefEqProofs [go_sem, h, h2, e1, e2]
      refine Wp.s ?_
      simp -implicitDefEqProofs [go_sem]
      exact Fin.bool (by simp [ne_at h h2 (fun e => e2 (by rw [e]))]) hokH (by simp) (by simp)
    simp -implicitDefEqProofs [go_sem, h, h2, e1, e2]
    refine CC.mono (SameSecs_cc _ _ _ _ x[i].data y[i].data (by omega)) ?_
    rintro _ _ _ ⟨rfl, rfl, rfl⟩
    by_cases e3 : x[i].data = y[i].data
    · simp -implicitDefEqProofs [go_sem, h, h2, e1, e2, e3]
      refine Wp.s ?_
      simp -implicitDefEqProofs [go_sem]
      refine Wp.s ?_
      simp -implicitDefEqProofs [go_sem]
      refine ⟨i + 1, ⟨by omega, take_eq_succ h h2 hp (wr_ext e1 e2 e3)⟩, by omega, Sh.forget ?_ rfl rfl⟩
      simp [go_sem, wrap_succ (show i ≤ 1000000000 by omega)]
    · simp -implicitDefEqProofs [go_sem, h, h2, e1, e2, e3]
      refine Wp.s ?_
      simp -implicitDefEqProofs [go_sem]
      exact Fin.bool (by simp [ne_at h h2 (fun e => e3 (by rw [e]))]) hokH (by simp) (by simp)
  · rintro _ he
    dsimp only
    refine Wp.s ?_
    simp -implicitDefEqProofs [go_sem]
    exact Fin.bool (by simp [he]) hokH (by simp) (by simp)
end Go.Proofs.YtgoofldhelffdaaGreatDoor
namespace Go.Proofs.YtgoofldhelffdaaGreatDoor
open Go.Proofs
end Go.Proofs.YtgoofldhelffdaaGreatDoor
namespace Go.Proofs.YtgoofldhelffdaaGreatDoor
open Go.Proofs
def bxs : Nat → Img → List (List CV)
  | _, [] => []
  | n, v :: l => [.bsl n 0 v.length 8] :: bxs (n + 1) l
@[go_sem, simp] theorem bxs_len : ∀ (n : Nat) (l : Img), (bxs n l).length = l.length
  | _, [] => rfl
  | n, v :: l => by rw [bxs, List.length_cons, List.length_cons, bxs_len (n + 1) l]
@[go_sem, simp] theorem bxs_get : ∀ (n : Nat) (l : Img) (i : Nat) (h : i < (bxs n l).length), (bxs n l)[i] = [.bsl (n + i) 0 (l[i]'(by simpa using h)).length 8]
  | n, v :: l, 0, h => rfl
  | n, v :: l, i + 1, h => by
    have hi : i < (bxs (n + 1) l).length := by rw [bxs_len]; have := h; rw [bxs_len, List.length_cons] at this; omega
    have := bxs_get (n + 1) l i hi
    show (bxs (n + 1) l)[i]'hi = _
    rw [this, show n + 1 + i = n + (i + 1) by omega]
    rfl
  | n, [], i, h => absurd h (Nat.not_lt_zero _)
theorem bxs_snoc : ∀ (n : Nat) (l : Img) (v : List Sec), bxs n (l ++ [v]) = bxs n l ++ [[.bsl (n + l.length) 0 v.length 8]]
  | n, [], v => rfl
  | n, u :: l, v => by
    rw [List.cons_append, bxs, bxs, bxs_snoc (n + 1) l v, List.cons_append, List.length_cons, show n + 1 + l.length = n + (l.length + 1) by omega]
theorem bxs_eq : ∀ (n : Nat) {l k : Img}, l.map List.length = k.map List.length → bxs n l = bxs n k
  | _, [], [], _ => rfl
  | n, u :: l, v :: k, h => by
    rw [List.map_cons, List.map_cons, List.cons.injEq] at h
    rw [bxs, bxs, h.1, bxs_eq (n + 1) h.2]
  | _, [], _ :: _, h => by cases h
  | _, _ :: _, [], h => by cases h
def imH (l : Img) : Hp := l.map fun v => some (secsF v)
@[go_sem, simp] theorem imH_len (l : Img) : (imH l).length = l.length := List.length_map ..
theorem okE_bxs (jb jv : Nat) : ∀ (n : Nat) (l : Img), n + l.length ≤ jb → okE jb jv (bxs n l)
  | _, [], _ => trivial
  | n, v :: l, h => by
    rw [List.length_cons] at h
    rw [bxs, okE]
    exact ⟨⟨by rw [okV]; omega, trivial⟩, okE_bxs jb jv (n + 1) l (by omega)⟩
theorem cloneSecB_cc (H : Hp) (V : List Nat) (tk : Tk) (l : List Sec) (h0 : l ≠ []) (hx : l.length ≤ 1000000000) : CC Tryz.prog 46 [.sl tk 8 (l.map secC)] H V (fun r H' V' => r = .bsl H.length 0 l.length 8 ∧ H' = H ++ [some (secsF l)] ∧ V = V') := by
  refine CC.of_swp Tryz.func46 rfl (by kernel_rfl) (by rw [Tryz.ntmps46]; exact len_le _ _ rfl) fun hok hokH => ?_
  clear hok
  have hne : l.map secC ≠ [] := by simpa using h0
  refine SWp.seq (Wp.s ?_)
  simp -implicitDefEqProofs [go_sem, args0]
  refine SWp.seq (SWp.seq (Wp.s ?_))
  simp -implicitDefEqProofs [go_sem, h0]
  refine Wp.s ?_
  simp -implicitDefEqProofs [go_sem, h0]
  refine SWp.seq (SWp.opx (pre := [_, _]) (post := [_]) rfl (by intro c e; cases e) ?_)
  simp -implicitDefEqProofs [go_sem]
  refine ⟨_, _, _, appbox (sz := 8) (tk := tk) (ys := l.map secC) slTy67 slTy67 rfl rfl hne (by rw [List.length_map]; omega), ?_⟩
  simp -implicitDefEqProofs [go_sem]
  refine Wp.s ?_
  simp -implicitDefEqProofs [go_sem]
  rw [show (List.map secC l).flatten = secsF l from rfl]
  refine Fin.cut (H.length + 1) V.length ⟨rfl, rfl, rfl⟩ (Nat.le_succ _) (Nat.le_refl _) (List.take_of_length_le (by simp)) (List.take_of_length_le (Nat.le_refl _)) (.bsa _ _ _) (by simp [go_sem]) ?_
  intro b cs hb
  rw [List.getElem?_append] at hb
  split at hb
  · exact okL_mono (Nat.le_succ _) (Nat.le_refl _) (hokH b cs hb)
  · exact okH_get (i := H.length + 1) (j := V.length) (L := [some (secsF l)]) (by simp [go_sem]) _ _ hb
theorem mapCl_cc (H : Hp) (V : List Nat) (tk : Tk) (l : Img) (hl : l.length ≤ 1000000) (hn : ∀ v ∈ l, v ≠ [] ∧ v.length ≤ 1000000) : CC Tryz.prog 45 [.sl tk 1 (l.map imE), .fn 46 []] H V (fun r H' V' => r = .sl (.own V.length l.length) 1 (bxs H.length l) ∧ H' = H ++ imH l ∧ V' = V ++ [l.length]) := by
  refine CC.of_swp Tryz.func45 rfl (by kernel_rfl) (by rw [Tryz.ntmps45]; exact len_le _ _ rfl) fun hok hokH => ?_
  clear hok
  refine SWp.seq (Wp.s ?_)
  simp -implicitDefEqProofs [go_sem, args0]
  refine SWp.seq (Wp.s ?_)
  simp -implicitDefEqProofs [go_sem]
  refine ⟨by omega, ?_⟩
  refine SWp.join (α := Unit) (fun _ => ([(5, .sl (.own V.length l.length) 1 (bxs H.length l))], H ++ imH l, V ++ [l.length])) (fun _ => True) ?_ ?_
  · refine SWp.seq (Wp.s ?_)
    simp -implicitDefEqProofs [go_sem]
    refine SWp.block ?_
    refine SWp.loop (α := Nat) (fun i => ([(1, .fn 46 []), (5, .sl (.own V.length i) 1 (bxs H.length (l.take i))), (11, .sl tk 1 (l.map imE)), (12, ci l.length), (13, ci i)], H ++ imH (l.take i), V ++ [i])) (fun i => i ≤ l.length) (fun i => l.length - i) 0 (Nat.zero_le _) (Sh.forget (by simp [go_sem, bxs]) (by simp [imH]) rfl) ?_
    intro i hi
    dsimp only
    refine Wp.s ?_
    simp -implicitDefEqProofs [go_sem]
    refine ⟨fun h => ⟨h, ?_⟩, fun h => Sh.forget (by simp [go_sem]; rw [List.take_of_length_le h]; exact .of_eq (by rw [show i = l.length by omega])) (by rw [List.take_of_length_le h]) (by rw [show i = l.length by omega])⟩
    obtain ⟨n1, n2⟩ := hn l[i] (List.getElem_mem h)
    refine CC.mono (cloneSecB_cc _ _ .sh l[i] n1 (by omega)) ?_
    rintro _ _ _ ⟨rfl, rfl, rfl⟩
    simp -implicitDefEqProofs [go_sem]
    refine ⟨by omega, i + 1, by omega, by omega, Sh.forget ?_ ?_ rfl⟩
    · rw [List.take_succ_eq_append_getElem h, bxs_snoc, List.length_take, Nat.min_eq_left (by omega)]
      simp [go_sem, wrap_succ (show i ≤ 1000000000 by omega), Nat.min_eq_left hi]
    · rw [List.take_succ_eq_append_getElem h, imH, imH, List.map_append]
      rfl
  · rintro _ -
    dsimp only
    refine Wp.s ?_
    simp -implicitDefEqProofs [go_sem]
    refine Fin.cut (H.length + l.length) (V.length + 1) ⟨rfl, rfl, rfl⟩ (by omega) (by omega) (List.take_of_length_le (by simp)) (List.take_of_length_le (by simp)) (.refl _) ?_ ?_
    · rw [okV]
      exact ⟨Nat.lt_succ_self _, okE_bxs _ _ _ _ (Nat.le_refl _)⟩
    intro b cs hb
    rw [List.getElem?_append] at hb
    split at hb
    · exact okL_mono (by omega) (Nat.le_succ _) (hokH b cs hb)
    · obtain ⟨v, -, hv⟩ := List.mem_map.1 (List.mem_of_getElem? hb)
      obtain rfl := Option.some.inj hv
      rw [okL_secsF]; trivial
theorem imCopied_cc (H : Hp) (V : List Nat) (tk : Tk) (l : Img) (hl : l.length ≤ 1000000) (hn : ∀ v ∈ l, v ≠ [] ∧ v.length ≤ 1000000) : CC Tryz.prog 27 [.sl tk 1 (l.map imE)] H V (fun r H' V' => r = .sl (.own V.length l.length) 1 (bxs H.length l) ∧ H' = H ++ imH l ∧ V' = V ++ [l.length]) := by
  refine CC.of_swp Tryz.func27 rfl (by kernel_rfl) (by rw [Tryz.ntmps27]; exact len_le _ _ rfl) fun hok hokH => ?_
  clear hok
  refine SWp.seq (Wp.s ?_)
  simp -implicitDefEqProofs [go_sem, args0]
  refine SWp.seq (Wp.s ?_)
  simp -implicitDefEqProofs [go_sem]
  refine CC.mono (mapCl_cc _ _ tk l hl hn) ?_
  rintro _ _ _ ⟨rfl, rfl, rfl⟩
  simp -implicitDefEqProofs [go_sem]
  refine Wp.s ?_
  simp -implicitDefEqProofs [go_sem]
  refine Fin.cut (H.length + l.length) (V.length + 1) ⟨rfl, rfl, rfl⟩ (by omega) (by omega) (List.take_of_length_le (by simp)) (List.take_of_length_le (by simp)) (.refl _) ?_ ?_
  · rw [okV]
    exact ⟨Nat.lt_succ_self _, okE_bxs _ _ _ _ (Nat.le_refl _)⟩
  intro b cs hb
  rw [List.getElem?_append] at hb
  split at hb
  · exact okL_mono (by omega) (Nat.le_succ _) (hokH b cs hb)
  · obtain ⟨v, -, hv⟩ := List.mem_map.1 (List.mem_of_getElem? hb)
    obtain rfl := Option.some.inj hv
    rw [okL_secsF]; trivial
theorem fitsB_cc (H : Hp) (V : List Nat) (tk : Tk) (b : Nat) (l : Img) (w : Wr) (hl : l.length ≤ 1000000000) (hs : ∀ v ∈ l, v.length ≤ 1000000000) (hw : w.data.length ≤ 1000000000) (hb : b + l.length ≤ H.length) : CC Tryz.prog 28 [.sl tk 1 (bxs b l), .agg (wrC w)] H V (Pu (er (fitsS (imgSz l) w)) H V) := by
  refine CC.of_swp Tryz.func28 rfl (by kernel_rfl) (by rw [Tryz.ntmps28]; exact len_le _ _ rfl) fun hok hokH => ?_
  clear hok
  refine SWp.seq (Wp.s ?_)
  simp -implicitDefEqProofs [go_sem, args0]
  refine SWp.seq (SWp.block (SWp.seq (Wp.s ?_)))
  by_cases h1 : w.volume < 0
  · simp -implicitDefEqProofs [go_sem, h1]
    refine Wp.s ?_
    simp -implicitDefEqProofs [go_sem]
    exact Fin.er (by rw [fitsS, if_pos (.inl h1)]) hokH (by simp) (by simp)
  by_cases h2 : (l.length : Int) ≤ w.volume
  · simp -implicitDefEqProofs [go_sem, h1, h2]
    refine Wp.s ?_
    simp -implicitDefEqProofs [go_sem]
    exact Fin.er (by rw [fitsS, if_pos (.inr (by simpa using h2))]) hokH (by simp) (by simp)
  simp -implicitDefEqProofs [go_sem, h1, h2]
  refine Wp.s ?_
  obtain ⟨n, hn⟩ := Int.eq_ofNat_of_zero_le (Int.not_lt.1 h1)
  have hnl : n < l.length := by omega
  have hvl := hs l[n] (List.getElem_mem hnl)
  by_cases h3 : w.data.length = 0
  · simp -implicitDefEqProofs [go_sem, h1, h2, h3]
    exact Fin.er (by rw [fitsS, if_neg (by simp; omega), if_pos h3]) hokH (by simp) (by simp)
  simp -implicitDefEqProofs [go_sem, h1, h2, h3]
  refine SWp.drawnT [] [] (.s 0 .pl <| .s 1 .pl <| .s 2 .pl <| .s 3 .pl <| .s 4 .pl <| .s 5 .pl <| .s 6 .pl <| .s 7 .pl <| .s 8 .pl <| .s 9 .pl <| .s 10 .pl <| .s 11 .pl <| .s 12 .pl <| .s 13 .pl <| .s 14 .pl <| .s 15 .pl <| .s 16 .pl <| .s 17 .pl <| .s 18 .pl <| .n) (by kernel_rfl) (by kernel_rfl) ?_
  have hg : (imgSz l).getD w.volume.toNat 0 = (l[n].length : Int) := by rw [hn]; exact imgSz_getD l n hnl
  have hwr : IntKind.i64.wrap ((l[n].length : Int) - (w.data.length : Int)) = (l[n].length : Int) - (w.data.length : Int) := IntWalk.i64_in _ ⟨by omega, by omega⟩
  have hfit : fitsS (imgSz l) w = if w.start < 0 ∨ (l[n].length : Int) - (w.data.length : Int) < w.start then 2 else 0 := by
    rw [fitsS, if_neg (by simp; omega), if_neg h3, hg]
  rw [hfit]
  by_cases h4 : w.start < 0
  · simp -implicitDefEqProofs [go_sem, h4]
    exact Fin.er rfl hokH (by simp) (by simp)
  · simp -implicitDefEqProofs [go_sem, h4, hn, hnl, hwr]
    refine ⟨fun h5 => Fin.er (by rw [if_pos h5]) hokH (by simp) (by simp), fun h5 => ?_⟩
    refine Wp.s ?_
    simp -implicitDefEqProofs [go_sem]
    exact Fin.er (by rw [if_neg (by omega)]) hokH (by simp) (by simp)
def putV (v : List Sec) (p : Nat) (d : List Sec) : List Sec := v.take p ++ d ++ v.drop (p + d.length)
def ap1 (l : Img) (w : Wr) : Img := l.set w.volume.toNat (putV (l.getD w.volume.toNat []) w.start.toNat w.data)
def apI : Img → List Wr → Nat → Img × Nat × Nat
  | l, [], _ => (l, 0, 0)
  | l, w :: ws, i => if fitsS (imgSz l) w ≠ 0 then ([], i, fitsS (imgSz l) w) else apI (ap1 l w) ws (i + 1)
theorem putV_len {v : List Sec} {p : Nat} {d : List Sec} (h : p + d.length ≤ v.length) : (putV v p d).length = v.length := by
  rw [putV, List.length_append, List.length_append, List.length_take, List.length_drop]; omega
end Go.Proofs.YtgoofldhelffdaaGreatDoor
namespace Go.Proofs.YtgoofldhelffdaaGreatDoor
open Go.Proofs
def apR (l : Img) (ws : List Wr) : Img × Nat × Nat := if sizesE (imgSz l) ≠ 0 then ([], 0, sizesE (imgSz l)) else apI l ws 0
def apV (x : Img × Nat × Nat) : CV := .tup [imV x.1, ci x.2.1, er x.2.2]
theorem okV_apV (i j : Nat) (x : Img × Nat × Nat) : okV i j (apV x) := by
  rw [apV, okV, okL, okL, okL, okL]
  simp [go_sem, okL, okV]
theorem imH_get (H : Hp) (k : Img) (j : Nat) (h : j < k.length) : (H ++ imH k)[H.length + j]? = some (some (secsF k[j])) := by
  rw [hget, imH, List.getElem?_map, List.getElem?_eq_getElem h]; rfl
theorem sizes_pos {l : Img} (h : sizesE (imgSz l) = 0) : l.length ≤ 8 ∧ ∀ v ∈ l, v ≠ [] ∧ v.length ≤ 4096 := by
  obtain ⟨s1, s2, s3⟩ := sizesE_0 h
  rw [imgSz, List.length_map] at s2
  refine ⟨by omega, fun v hv => ?_⟩
  have := s3 (v.length : Int) (List.mem_map.2 ⟨v, hv, rfl⟩)
  refine ⟨fun e => ?_, by omega⟩
  rw [e] at this; simp at this
theorem fitsI_0 {k : Img} {w : Wr} (h : fitsS (imgSz k) w = 0) : ∃ n : Nat, w.volume = (n : Int) ∧ ∃ hn : n < k.length, w.data.length ≠ 0 ∧ ∃ p : Nat, w.start = (p : Int) ∧ p + w.data.length ≤ k[n].length := by
  unfold fitsS at h
  rw [imgSz, List.length_map] at h
  split at h
  · cases h
  · rename_i h1
    split at h
    · cases h
    · rename_i h2
      split at h
      · cases h
      · rename_i h3
        obtain ⟨n, hn⟩ := Int.eq_ofNat_of_zero_le (show 0 ≤ w.volume by omega)
        obtain ⟨p, hp⟩ := Int.eq_ofNat_of_zero_le (show 0 ≤ w.start by omega)
        have hnk : n < k.length := by omega
        have hg := imgSz_getD k n hnk
        rw [imgSz] at hg
        rw [hn, Int.toNat_natCast, hg] at h3
        exact ⟨n, hn, hnk, h2, p, hp, by omega⟩
theorem ap1_len (k : Img) (w : Wr) : (ap1 k w).length = k.length := List.length_set ..
theorem ap1_sz {k : Img} {w : Wr} (h : fitsS (imgSz k) w = 0) : (ap1 k w).map List.length = k.map List.length := by
  obtain ⟨n, hvn, hnk, hd0, p, hpn, hpl⟩ := fitsI_0 h
  rw [ap1, hvn, hpn, Int.toNat_natCast, Int.toNat_natCast, List.getD_eq_getElem?_getD, List.getElem?_eq_getElem hnk, Option.getD_some, List.map_set, putV_len hpl]
  apply List.ext_getElem
  · simp
  · intro i h1 h2
    by_cases e : n = i
    · subst e; simp
    · simp [List.getElem_set_ne e]
theorem okE_bxs' (b : Nat) (k : Img) (jb jv : Nat) (h : b + k.length ≤ jb) : okE jb jv (bxs b k) := okE_bxs jb jv b k h
theorem okH_imH (i j : Nat) : ∀ l : Img, okH i j (imH l)
  | [] => trivial
  | v :: l => ⟨by rw [okL_secsF]; trivial, okH_imH i j l⟩
theorem imH_set (H : Hp) (k : Img) (n : Nat) (v : List Sec) : (H ++ imH k).set (H.length + n) (some (secsF v)) = H ++ imH (k.set n v) := by
  rw [List.set_append_right _ _ (by omega), Nat.add_sub_cancel_left, imH, imH, List.map_set]
theorem FyL.rflI (b : Nat) (cs : List CV) : ∀ l : List CV, FyL b cs l l
  | [] => .nil
  | c :: l => .cons (.refl c) (FyL.rflI b cs l)
theorem FyE.rflI (b : Nat) (cs : List CV) : ∀ l : List (List CV), FyE b cs l l
  | [] => .nil
  | c :: l => .cons (FyL.rflI b cs c) (FyE.rflI b cs l)
theorem FyE.appI {bx : Nat} {cs : List CV} {a b : List (List CV)} {c d : List (List CV)} : FyE bx cs a b → FyE bx cs c d → FyE bx cs (a ++ c) (b ++ d)
  | .nil, h => h
  | .cons h t, g => .cons h (FyE.appI t g)
theorem gst_bxs {n nb nv b : Nat} {V : List Nat} {cs : List CV} : ∀ (l d : Img) (H : Hp) (tk : Tk), (∀ j (h : j < l.length), H[b + d.length + j]? = some (some (secsF l[j]))) →
    ∃ H' : Hp, H'.take b = H.take b ∧ Gst n nb nv [(0, .tup (.sl tk 1 (d.map imE ++ bxs (b + d.length) l) :: cs))] H V [(0, .tup (.sl .sh 1 ((d ++ l).map imE) :: cs))] H' V
  | [], d, H, tk, h => ⟨H, rfl, Gst.forget fun p hp => by
      obtain rfl : p = _ := by simpa using hp
      simp only [tget, if_pos, bxs, List.append_nil]
      exact .tup (.cons (.sh _ _ _) (LeL.refl cs))⟩
  | v :: l, d, H, tk, h => by
    have h0 : H[b + d.length]? = some (some (secsF v)) := h 0 (by simp)
    obtain ⟨H', h1, h2⟩ := gst_bxs (n := n) (nb := nb) (nv := nv) (b := b) (V := V) (cs := cs) l (d ++ [v]) (H.set (b + d.length) none) .sh (fun j hj => by
      rw [List.length_append, List.length_singleton, List.getElem?_set_ne (by omega)]
      have := h (j + 1) (by simpa using hj)
      rw [show b + (d.length + 1) + j = b + d.length + (j + 1) by omega, this]
      rfl)
    refine ⟨H', by rw [h1, List.take_set_of_le (by omega)], Gst.trans (T' := [(0, .tup (.sl .sh 1 (d.map imE ++ (imE v :: bxs (b + d.length + 1) l)) :: cs))]) (Gst.freezeY h0 fun p hp => ?_) ?_⟩
    · obtain rfl : p = _ := by simpa using hp
      simp only [tget, if_pos, bxs]
      have := Fy.bsl (b := b + d.length) (cs := secsF v) 0 v.length 8 (by rw [secsF_len]; omega)
      rw [List.drop_zero, chunks_secs] at this
      exact .tup (.cons (.sl _ _ (FyE.appI (FyE.rflI _ _ _) (.cons (.cons this .nil) (FyE.rflI _ _ _)))) (FyL.rflI _ _ _))
    · have e1 : d.map imE ++ (imE v :: bxs (b + d.length + 1) l) = (d ++ [v]).map imE ++ bxs (b + (d ++ [v]).length) l := by simp [Nat.add_assoc]
      rw [e1]
      rw [List.append_assoc] at h2
      exact h2
theorem fin_bxs {H : Hp} {V V' : List Nat} {tk : Tk} {k : Img} {a b : Nat} (hokH : ∀ (b : Nat) cs, H[b]? = some (some cs) → okL H.length V.length cs) (hV : V'.take V.length = V) :
    Fin H.length V.length (Pu (apV (k, a, b)) H V) (.tup [.sl tk 1 (bxs H.length k), ci a, er b]) (H ++ imH k) V' := by
  obtain ⟨H', h1, h2⟩ := gst_bxs (n := 1) (nb := H.length) (nv := V.length) (b := H.length) (V := V') (cs := [ci a, er b]) k [] (H ++ imH k) tk (fun j hj => imH_get H k j hj)
  refine ⟨_, H, V, Gst.trans h2 ?_, ⟨rfl, rfl, rfl⟩⟩
  rw [List.take_left] at h1
  have := Gst.cut (n := 1) (nb := H.length) (nv := V.length) (T := [(0, apV (k, a, b))]) (H := H') (V := V') H.length V.length (Nat.le_refl _) (Nat.le_refl _) (fun p hp => by simp at hp; subst hp; exact okV_apV _ _ _) (by rw [h1]; exact hokH)
  rwa [h1, hV] at this
set_option maxRecDepth 8000 in
theorem imApply_cc (H : Hp) (V : List Nat) (tk : Tk) (l : Img) (ws : List Wr) (hl : l.length ≤ 1000000000) (hn : ws.length ≤ 1000000000) (hw : ∀ w ∈ ws, w.data.length ≤ 1000000000) : CC Tryz.prog 9 [.sl tk 1 (l.map imE), .sl .sh 3 (ws.map wrC)] H V (Pu (apV (apR l ws)) H V) := by
  refine CC.of_swp Tryz.func9 rfl (by kernel_rfl) (by rw [Tryz.ntmps9]; exact len_le _ _ rfl) fun hok hokH => ?_
  clear hok
  have bad : ∀ (i e : Nat) (H' : Hp) (V' : List Nat), apR l ws = ([], i, e) → H'.take H.length = H → V'.take V.length = V → Fin H.length V.length (Pu (apV (apR l ws)) H V) (.tup [.v (.slice none 0 0), ci i, er e]) H' V' := fun i e H' V' h1 h2 h3 => by
    rw [h1]
    exact Fin.pu (.tup (.cons (.nil 1 (by decide)) (.cons (.refl _) (.cons (.refl _) .nil)))) (okV_apV _ _ _) hokH h2 h3
  refine SWp.seq (Wp.s ?_)
  simp -implicitDefEqProofs [go_sem, args0]
  refine SWp.seq (SWp.seq (Wp.s ?_))
  simp -implicitDefEqProofs [go_sem]
  refine CC.mono (iCheck_cc _ _ tk l hl) ?_
  rintro _ _ _ ⟨rfl, rfl, rfl⟩
  simp -implicitDefEqProofs [go_sem]
  refine SWp.seq (Wp.s ?_)
  by_cases h0 : sizesE (imgSz l) = 0
  case neg =>
    simp -implicitDefEqProofs [go_sem, h0]
    refine Wp.s ?_
    simp -implicitDefEqProofs [go_sem]
    exact bad 0 _ _ _ (by rw [apR, if_pos h0]) (by simp) (by simp)
  have e0 : apR l ws = apI l ws 0 := by rw [apR, if_neg (by simp [h0])]
  simp -implicitDefEqProofs [go_sem, h0]
  refine Wp.s ?_
  simp -implicitDefEqProofs [go_sem]
  obtain ⟨hl8, hvs⟩ := sizes_pos h0
  refine SWp.seq (Wp.s ?_)
  simp -implicitDefEqProofs [go_sem]
  refine CC.mono (imCopied_cc _ _ tk l (by omega) (fun v hv => ⟨(hvs v hv).1, by have := (hvs v hv).2; omega⟩)) ?_
  rintro _ _ _ ⟨rfl, rfl, rfl⟩
  simp -implicitDefEqProofs [go_sem]
  refine SWp.join (α := Img) (fun k => ([(8, .sl (.own V.length l.length) 1 (bxs H.length l))], H ++ imH k, V ++ [l.length])) (fun k => k.map List.length = l.map List.length ∧ apI l ws 0 = (k, 0, 0)) ?_ ?_
  · refine SWp.seq (Wp.s ?_)
    simp -implicitDefEqProofs [go_sem]
    refine SWp.block ?_
    refine SWp.loop (α := Nat × Img) (fun x => ([(8, .sl (.own V.length l.length) 1 (bxs H.length l)), (19, .sl .sh 3 (ws.map wrC)), (20, ci ws.length), (21, ci x.1)], H ++ imH x.2, V ++ [l.length])) (fun x => x.1 ≤ ws.length ∧ x.2.map List.length = l.map List.length ∧ apI l ws 0 = apI x.2 (ws.drop x.1) x.1) (fun x => ws.length - x.1) (0, l) ⟨Nat.zero_le _, rfl, rfl⟩ (Sh.forget (by simp [go_sem]) rfl rfl) ?_
    rintro ⟨i, k⟩ ⟨hi, hk, hap⟩
    dsimp only at hi hk hap ⊢
    refine SWp.seq (Wp.s ?_)
    simp -implicitDefEqProofs [go_sem]
    refine SWp.seq (Wp.s ?_)
    simp -implicitDefEqProofs [go_sem]
    have hkl : k.length = l.length := by have := congrArg List.length hk; simpa using this
    refine ⟨fun h => ?_, fun h => ?_⟩
    case refine_2 =>
      rw [List.drop_of_length_le h] at hap
      exact ⟨k, ⟨hk, hap⟩, Sh.forget (by simp [go_sem]) rfl rfl⟩
    rw [List.drop_eq_getElem_cons h] at hap
    have hbxe := bxs_eq H.length hk
    have hkn : ∀ v ∈ k, v.length ≤ 4096 := fun v hv => by
      have : v.length ∈ k.map List.length := List.mem_map.2 ⟨v, hv, rfl⟩
      rw [hk] at this
      obtain ⟨u, hu, he⟩ := List.mem_map.1 this
      have := (hvs u hu).2; omega
    have hdw := hw _ (List.getElem_mem h)
    obtain ⟨G, hG⟩ : ∃ G, G = H ++ imH k := ⟨_, rfl⟩
    have hGl : G.length = H.length + l.length := by rw [hG]; simp [hkl]
    have hGH : G.take H.length = H := by rw [hG]; simp
    rw [← hG]
    rw [← hbxe]
    refine SWp.seq (SWp.block (SWp.seq (Wp.s ?_)))
    simp -implicitDefEqProofs [go_sem, h]
    refine SWp.seq (SWp.seq (Wp.s ?_))
    simp -implicitDefEqProofs [go_sem]
    refine CC.mono (fitsB_cc _ _ _ H.length k ws[i] (by omega) (fun v hv => by have := hkn v hv; omega) hdw (by simp [hGl, hkl])) ?_
    rintro _ _ _ ⟨rfl, rfl, rfl⟩
    simp -implicitDefEqProofs [go_sem]
    refine SWp.seq (Wp.s ?_)
    by_cases hf : fitsS (imgSz k) ws[i] = 0
    case neg =>
      simp -implicitDefEqProofs [go_sem, hf]
      refine Wp.s ?_
      simp -implicitDefEqProofs [go_sem]
      refine bad i _ _ _ (by rw [e0, hap, apI, if_pos hf]) ?_ (by simp)
      rw [List.take_append_of_le_length (by omega)]; exact hGH
    rw [apI, if_neg (by simp [hf])] at hap
    simp -implicitDefEqProofs [go_sem, hf]
    refine Wp.s ?_
    simp -implicitDefEqProofs [go_sem]
    obtain ⟨n, hvn, hnk, hd0, p, hpn, hpl⟩ := fitsI_0 hf
    have hGn : G[H.length + n]? = some (some (secsF k[n])) := by rw [hG]; exact imH_get H k n hnk
    have hkl4 := hkn _ (List.getElem_mem hnk)
    refine SWp.drawnT [G.length] [10] (.s 0 .pl <| .s 1 .pl <| .s 2 .ld <| .s 3 .pl <| .s 4 .ld <| .s 5 .pl <| .s 6 .ld <| .s 7 .pl <| .s 8 .pl <| .s 9 .pl <| .s 10 .st <| .n) (by kernel_rfl) (by kernel_rfl) ?_
    have hX : ∀ (z : List CV) (K : List CV → Prop), hbx (G ++ [some z]) (H.length + n) K = K (secsF k[n]) := fun z K => hbx_of (by rw [List.getElem?_append_left (by omega)]; exact hGn) K
    simp -implicitDefEqProofs [go_sem, hvn, hpn, hnk, hX]
    refine ⟨by omega, by omega, secsF_all _, by omega, Kp.keep fun b hb => ?_, Wp.s ?_⟩
    · obtain rfl : b = G.length := by simpa using hb
      rw [List.getElem?_set_ne (by omega)]
    simp -implicitDefEqProofs [go_sem, wrap_succ (show i ≤ 1000000000 by omega)]
    refine ⟨i + 1, ap1 k ws[i], ⟨by omega, (ap1_sz hf).trans hk, hap⟩, by omega, ?_⟩
    refine Sh.trim (L := imH (ap1 k ws[i])) (by simp [go_sem]) (by simp [go_sem, okE_bxs' H.length k, ap1_len]) hokH (okH_imH _ _ _) (by simp) ?_ (by simp)
    rw [imH_len, ap1_len, hkl, List.set_append_left _ _ (by omega), List.take_append_of_le_length (by simp; omega), List.take_of_length_le (by simp; omega), hG]
    rw [show List.take (p * 8) (secsF k[n]) ++ ((List.map secC ws[i].data).flatten ++ List.drop (p * 8 + ws[i].data.length * 8) (secsF k[n])) = secsF (putV k[n] p ws[i].data) from by
      rw [← Nat.add_mul, secsF_take, secsF_drop, putV, secsF_app, secsF_app, List.append_assoc]; rfl]
    rw [imH_set, ap1, hvn, hpn, Int.toNat_natCast, Int.toNat_natCast, List.getD_eq_getElem?_getD, List.getElem?_eq_getElem hnk, Option.getD_some]
  rintro k ⟨hk, hap⟩
  dsimp only
  have hkl : k.length = l.length := by have := congrArg List.length hk; simpa using this
  rw [← bxs_eq H.length hk]
  refine Wp.s ?_
  simp -implicitDefEqProofs [go_sem]
  rw [e0, hap]
  exact fin_bxs hokH (by simp)
end Go.Proofs.YtgoofldhelffdaaGreatDoor
namespace Go.Proofs.YtgoofldhelffdaaGreatDoor
open Go.Proofs
structure Bm where
  n : Nat
  w : Nat
@[go_sem] theorem gcv_0 : gcv 0 = .eptr (gtabC dbT) 0 := rfl
@[go_sem, simp] theorem gtabC_len (l : List Nat) : (gtabC l).length = l.length := List.length_map ..
@[go_sem, simp] theorem gtabC_get (l : List Nat) (i : Nat) (h : i < (gtabC l).length) : (gtabC l)[i] = .v (.int .u8 ((l[i]'(by simpa using h) : Nat) : Int)) := by simp [gtabC]
def bmC (b : Bm) : List CV := [ci b.n, .sl .sh 1 [[wv b.w]]]
@[go_sem, simp] theorem bmC_len (b : Bm) : (bmC b).length = 2 := rfl
@[go_sem, simp] theorem bmC_all (b : Bm) : allOne (bmC b) = true := rfl
@[go_sem, simp] theorem bmC_0 (b : Bm) (h : 0 < (bmC b).length) : (bmC b)[0] = ci b.n := rfl
@[go_sem, simp] theorem bmC_1 (b : Bm) (h : 1 < (bmC b).length) : (bmC b)[1] = .sl .sh 1 [[wv b.w]] := rfl
@[go_sem, simp] theorem bmC_take (b : Bm) : (bmC b).take 2 = bmC b := rfl
@[go_sem, simp] theorem bmC_drop (b : Bm) : (bmC b).drop 2 = [] := rfl
@[go_sem] theorem okL_bmC (jb jv : Nat) (b : Bm) : okL jb jv (bmC b) = True := by simp [bmC, go_sem, okL, okV, okE, okTk, wv]
@[go_sem] theorem wv_one (n : Nat) : (wv n).one = true := rfl
@[go_sem] theorem wv_cells (n : Nat) : (wv n).cells = [wv n] := rfl
theorem wv_eq (n : Nat) : wv n = .v (.int .u64 (n : Int)) := rfl
structure BmOk (b : Bm) : Prop where
  lo : 1 ≤ b.n
  hi : b.n ≤ 63
  lt : b.w < 2 ^ b.n
theorem BmOk.lt64 {b : Bm} (h : BmOk b) : b.w < 18446744073709551616 := pow_lt64 h.lt (by have := h.hi; omega)
theorem words_cc (H : Hp) (V : List Nat) (n : Nat) (h1 : 1 ≤ n) (h2 : n ≤ 63) : CC Tryz.prog 48 [ci n] H V (Pu (ci 1) H V) := by
  refine CC.of_swp Tryz.func48 rfl (by kernel_rfl) (by rw [Tryz.ntmps48]; exact len_le _ _ rfl) fun hok hokH => ?_
  clear hok
  have w1 : IntKind.i64.wrap ((n : Int) + 64) = (n : Int) + 64 := IntWalk.i64_in _ ⟨by omega, by omega⟩
  have w2 : IntKind.i64.wrap ((n : Int) + 64 - 1) = (n : Int) + 63 := by rw [IntWalk.i64_in _ ⟨by omega, by omega⟩]; omega
  have t1 : ((n : Int) + 63).tdiv 64 = 1 := by rw [Int.tdiv_eq_ediv_of_nonneg (by omega)]; omega
  have w3 : IntKind.i64.wrap (1 : Int) = 1 := rfl
  refine SWp.seq (Wp.s ?_)
  simp -implicitDefEqProofs [go_sem, args0]
  refine SWp.seq (Wp.s ?_)
  simp -implicitDefEqProofs [go_sem, w1, w2, t1, w3]
  refine Wp.s ?_
  simp -implicitDefEqProofs [go_sem]
  exact Fin.int rfl hokH (by simp) (by simp)
theorem bmNew_cc (H : Hp) (V : List Nat) (n : Nat) (h1 : 1 ≤ n) (h2 : n ≤ 63) : CC Tryz.prog 72 [ci n] H V (Pu (.tup [.agg (bmC ⟨n, 0⟩), er 0]) H V) := by
  refine CC.of_swp Tryz.func72 rfl (by kernel_rfl) (by rw [Tryz.ntmps72]; exact len_le _ _ rfl) fun hok hokH => ?_
  clear hok
  refine SWp.seq (Wp.s ?_)
  simp -implicitDefEqProofs [go_sem, args0]
  refine SWp.seq (SWp.seq (Wp.s ?_))
  simp -implicitDefEqProofs [go_sem, show ¬ (n : Int) < 0 by omega, show ¬ (4096 : Int) < n by omega]
  refine Wp.s ?_
  simp -implicitDefEqProofs [go_sem]
  refine SWp.seq (Wp.s ?_)
  simp -implicitDefEqProofs [go_sem]
  refine CC.mono (words_cc _ _ n h1 h2) ?_
  rintro _ _ _ ⟨rfl, rfl, rfl⟩
  simp -implicitDefEqProofs [go_sem]
  refine Wp.s ?_
  simp -implicitDefEqProofs [go_sem]
  refine Fin.frozY (b := H.length + 1) (cs := [wv 0]) (r1 := .tup [.agg [ci n, .bsl (H.length + 1) 0 1 1], er 0]) (r2 := .tup [.agg (bmC ⟨n, 0⟩), er 0]) ⟨rfl, rfl, rfl⟩ ?_ (hget _ _ 1) ?_ (by omega) (by simp [go_sem]) hokH (by simp) (by simp)
  · exact .refl _
  · exact .tup (.cons (.agg (.cons (.refl _) (.cons (.bsl 0 1 1 (by simp)) .nil))) (.cons (.refl _) .nil))
theorem bmCheck_cc (H : Hp) (V : List Nat) (b : Bm) (hb : BmOk b) : CC Tryz.prog 31 [.agg (bmC b)] H V (Pu (er 0) H V) := by
  refine CC.of_swp Tryz.func31 rfl (by kernel_rfl) (by rw [Tryz.ntmps31]; exact len_le _ _ rfl) fun hok hokH => ?_
  clear hok
  have b1 := hb.lo
  have b2 := hb.hi
  refine SWp.seq (Wp.s ?_)
  simp -implicitDefEqProofs [go_sem, args0]
  refine SWp.seq (SWp.seq (SWp.drawnT [] [] (.s 0 .pl <| .s 1 .pl <| .s 2 .pl <| .s 3 .pl <| .s 4 .pl <| .s 5 .pl <| .s 6 .pl <| .s 7 .pl <| .s 8 .pl <| .s 9 .pl <| .s 10 .pl <| .s 11 .pl <| .s 12 .pl <| .s 13 .pl <| .s 14 .pl <| .s 15 .pl <| .s 16 .pl <| .n) (by kernel_rfl) (by kernel_rfl) ?_))
  simp -implicitDefEqProofs [go_sem, show ¬ (b.n : Int) < 0 by omega, show ¬ (4096 : Int) < b.n by omega]
  refine CC.mono (words_cc _ _ b.n b1 b2) ?_
  rintro _ _ _ ⟨rfl, rfl, rfl⟩
  simp -implicitDefEqProofs [go_sem]
  refine Wp.s ?_
  simp -implicitDefEqProofs [go_sem]
  have t1 : ((b.n : Int)).tmod 64 = b.n := by rw [Int.tmod_eq_emod_of_nonneg (by omega)]; omega
  have s1 : shr .u64 (b.w : Int) (b.n : Int) = 0 := by rw [shr64 _ _ (by omega), Nat.shiftRight_eq_zero _ _ hb.lt]; rfl
  have w0 : IntKind.i64.wrap (0 : Int) = 0 := rfl
  refine SWp.seq (Wp.s ?_)
  simp -implicitDefEqProofs [go_sem, t1, show (0 : Int) < (b.n : Int) by omega, show 0 < b.n by omega, wv_eq, s1, w0]
  refine Wp.s ?_
  simp -implicitDefEqProofs [go_sem]
  exact Fin.er rfl hokH (by simp) (by simp)
theorem bmFits_cc (H : Hp) (V : List Nat) (s c n : Nat) (h : s + c ≤ n) (hn : n ≤ 63) : CC Tryz.prog 93 [.agg [ci s, ci c], ci n] H V (Pu (cb true) H V) := by
  refine CC.of_swp Tryz.func93 rfl (by kernel_rfl) (by rw [Tryz.ntmps93]; exact len_le _ _ rfl) fun hok hokH => ?_
  clear hok
  refine SWp.seq (Wp.s ?_)
  simp -implicitDefEqProofs [go_sem, args0]
  have w1 : IntKind.i64.wrap ((n : Int) - s) = (n : Int) - s := IntWalk.i64_in _ ⟨by omega, by omega⟩
  refine SWp.seq (Wp.s ?_)
  simp -implicitDefEqProofs [go_sem, show (0 : Int) ≤ s by omega, show (0 : Int) ≤ c by omega, show (s : Int) ≤ n by omega, show s ≤ n by omega, w1, show (c : Int) ≤ (n : Int) - s by omega]
  refine Wp.s ?_
  simp -implicitDefEqProofs [go_sem]
  exact Fin.bool rfl hokH (by simp) (by simp)
theorem mask_cc (H : Hp) (V : List Nat) (f t : Nat) (hf : f ≤ 64) (ht : t ≤ 64) : CC Tryz.prog 79 [ci 0, ci f, ci t] H V (Pu (wv (maskN f t)) H V) := by
  refine CC.of_swp Tryz.func79 rfl (by kernel_rfl) (by rw [Tryz.ntmps79]; exact len_le _ _ rfl) fun hok hokH => ?_
  clear hok
  have w1 : IntKind.i64.wrap (0 : Int) = 0 := rfl
  have w2 : IntKind.i64.wrap ((f : Int)) = f := IntWalk.i64_in _ ⟨by omega, by omega⟩
  have w3 : IntKind.i64.wrap ((t : Int)) = t := IntWalk.i64_in _ ⟨by omega, by omega⟩
  have m1 : max (f : Int) 0 = f := by omega
  have m2 : min (t : Int) 64 = t := by omega
  refine SWp.seq (Wp.s ?_)
  simp -implicitDefEqProofs [go_sem, args0]
  refine SWp.seq (Wp.s ?_)
  simp -implicitDefEqProofs [go_sem, w1, w2, w3, m1, m2]
  refine SWp.seq (SWp.seq (Wp.s ?_))
  by_cases h : t ≤ f
  · simp -implicitDefEqProofs [go_sem, show (t : Int) ≤ f by omega]
    refine Wp.s ?_
    simp -implicitDefEqProofs [go_sem, h]
    exact Fin.int (by rw [maskN, show t - f = 0 by omega]; simp) hokH (by simp) (by simp)
  · have h' : ¬ (t : Int) ≤ f := by omega
    have w4 : IntKind.i64.wrap ((t : Int) - f) = ((t - f : Nat) : Int) := by rw [IntWalk.i64_in _ ⟨by omega, by omega⟩]; omega
    have w5 : IntKind.i64.wrap (64 - ((t - f : Nat) : Int)) = ((64 - (t - f) : Nat) : Int) := by rw [IntWalk.i64_in _ ⟨by omega, by omega⟩]; omega
    have s1 : shr .u64 18446744073709551615 ((64 - (t - f) : Nat) : Int) = ((2 ^ (t - f) - 1 : Nat) : Int) := by
      have := shr64 18446744073709551615 (64 - (t - f)) (by omega)
      rw [shrAll (by omega)] at this
      exact this
    have s2 : shl .u64 ((2 ^ (t - f) - 1 : Nat) : Int) (f : Int) = ((maskN f t : Nat) : Int) := by
      have := maskN_lt f t
      rw [shl64 _ _ (by omega) (pow_lt64 (k := max f t) (maskN_lt f t) (by omega))]
      rfl
    simp -implicitDefEqProofs [go_sem, h, h']
    refine Wp.s ?_
    simp -implicitDefEqProofs [go_sem]
    refine SWp.seq (Wp.s ?_)
    simp -implicitDefEqProofs [go_sem, w4, w5, s1, s2]
    refine Wp.s ?_
    simp -implicitDefEqProofs [go_sem]
    exact Fin.int rfl hokH (by simp) (by simp)
theorem tz_cc (H : Hp) (V : List Nat) (k m : Nat) (h : (2 * m + 1) * 2 ^ k < 18446744073709551616) : CC Tryz.prog 80 [wv ((2 * m + 1) * 2 ^ k)] H V (Pu (ci k) H V) := by
  refine CC.of_swp Tryz.func80 rfl (by kernel_rfl) (by rw [Tryz.ntmps80]; exact len_le _ _ rfl) fun hok hokH => ?_
  clear hok
  have hk : k < 64 := low_lt (n := 64) h
  have hp : 0 < (2 * m + 1) * 2 ^ k := Nat.mul_pos (by omega) (Nat.two_pow_pos _)
  have hn := low_neg h
  have hbr := bruijn k hk
  generalize (2 * m + 1) * 2 ^ k = x at h hp hn ⊢
  generalize 2 ^ k = q at hbr hn
  refine SWp.seq (Wp.s ?_)
  simp -implicitDefEqProofs [go_sem, args0]
  refine SWp.seq (SWp.seq (Wp.s ?_))
  simp -implicitDefEqProofs [go_sem, wv_eq, show ¬ (x : Int) = 0 by omega, show ¬ x = 0 by omega]
  refine Wp.s ?_
  simp -implicitDefEqProofs [go_sem]
  have w1 : IntKind.u64.wrap (-(x : Int)) = ((18446744073709551616 - x : Nat) : Int) := by rw [IntKind.wrap_u64]; omega
  have w2 : bitop .and .u64 (x : Int) ((18446744073709551616 - x : Nat) : Int) = (q : Int) := by rw [and64 h (by omega), hn]
  have w3 : IntKind.u64.wrap ((q : Int) * 285870213051353865) = (((q * 285870213051353865) % 18446744073709551616 : Nat) : Int) := by rw [IntKind.wrap_u64]; omega
  generalize q * 285870213051353865 % 18446744073709551616 = y at hbr w3
  have s1 : shr .u64 (y : Int) 58 = ((y / 288230376151711744 : Nat) : Int) := by rw [show (58 : Int) = ((58 : Nat) : Int) from rfl, shr64 _ _ (by omega), Nat.shiftRight_eq_div_pow]
  obtain ⟨hlt, hge⟩ := List.getElem?_eq_some_iff.1 hbr
  generalize y / 288230376151711744 = z at hlt hge s1
  clear hbr
  have w4 : IntKind.i64.wrap ((k : Int)) = k := IntWalk.i64_in _ ⟨by omega, by omega⟩
  have hlt' : z < 64 := hlt
  refine SWp.seq (Wp.s ?_)
  simp -implicitDefEqProofs [go_sem, w1, w2, w3, s1, hge, w4]
  refine ⟨by omega, hlt, ?_⟩
  refine Wp.s ?_
  simp -implicitDefEqProofs [go_sem]
  exact Fin.int rfl hokH (by simp) (by simp)
theorem orF_cc (H : Hp) (V : List Nat) (a b : Nat) (ha : a < 18446744073709551616) (hb : b < 18446744073709551616) : CC Tryz.prog 67 [wv a, wv b] H V (Pu (wv (a ||| b)) H V) := by
  refine CC.of_swp Tryz.func67 rfl (by kernel_rfl) (by rw [Tryz.ntmps67]; exact len_le _ _ rfl) fun hok hokH => ?_
  clear hok
  refine SWp.seq (Wp.s ?_)
  simp -implicitDefEqProofs [go_sem, args0]
  refine SWp.seq (Wp.s ?_)
  simp -implicitDefEqProofs [go_sem, wv_eq, or64 ha hb]
  refine Wp.s ?_
  simp -implicitDefEqProofs [go_sem]
  exact Fin.int rfl hokH (by simp) (by simp)
theorem setF_cc (H : Hp) (V : List Nat) (a b : Nat) (ha : a < 18446744073709551616) (hb : b < 18446744073709551616) : CC Tryz.prog 87 [wv a, wv b] H V (Pu (wv (a ||| b)) H V) := by
  refine CC.of_swp Tryz.func87 rfl (by kernel_rfl) (by rw [Tryz.ntmps87]; exact len_le _ _ rfl) fun hok hokH => ?_
  clear hok
  refine SWp.seq (Wp.s ?_)
  simp -implicitDefEqProofs [go_sem, args0]
  refine SWp.seq (Wp.s ?_)
  simp -implicitDefEqProofs [go_sem, wv_eq, or64 ha hb]
  refine Wp.s ?_
  simp -implicitDefEqProofs [go_sem]
  exact Fin.int rfl hokH (by simp) (by simp)
theorem cloneW_cc (H : Hp) (V : List Nat) (x : Nat) : CC Tryz.prog 92 [.sl .sh 1 [[wv x]]] H V (fun r H' V' => r = .bsl H.length 0 1 1 ∧ H' = H ++ [some [wv x]] ∧ V = V') := by
  refine CC.of_swp Tryz.func92 rfl (by kernel_rfl) (by rw [Tryz.ntmps92]; exact len_le _ _ rfl) fun hok hokH => ?_
  clear hok
  refine SWp.seq (Wp.s ?_)
  simp -implicitDefEqProofs [go_sem, args0]
  refine SWp.seq (SWp.seq (Wp.s ?_))
  simp -implicitDefEqProofs [go_sem]
  refine Wp.s ?_
  simp -implicitDefEqProofs [go_sem]
  refine SWp.seq (SWp.opx (pre := [_, _]) (post := [_]) rfl (by intro c e; cases e) ?_)
  simp -implicitDefEqProofs [go_sem]
  refine ⟨_, _, _, appbox (sz := 1) (tk := .sh) (ys := [[wv x]]) slTy55 slTy55 rfl rfl (by simp) (by simp), ?_⟩
  simp -implicitDefEqProofs [go_sem]
  refine Wp.s ?_
  simp -implicitDefEqProofs [go_sem]
  refine Fin.cut (H.length + 1) V.length ⟨rfl, rfl, rfl⟩ (Nat.le_succ _) (Nat.le_refl _) (List.take_of_length_le (by simp)) (List.take_of_length_le (Nat.le_refl _)) (.bsa _ _ _) (by simp [go_sem]) ?_
  intro b cs hb
  rw [List.getElem?_append] at hb
  split at hb
  · exact okL_mono (Nat.le_succ _) (Nat.le_refl _) (hokH b cs hb)
  · exact okH_get (i := H.length + 1) (j := V.length) (L := [some [wv x]]) (by simp [go_sem, wv]) _ _ hb
def setB (b : Bm) (s c : Nat) : Bm := ⟨b.n, b.w ||| maskN s (s + c)⟩
theorem setB_ok {b : Bm} {s c : Nat} (hb : BmOk b) (h : s + c ≤ b.n) : BmOk (setB b s c) :=
  ⟨hb.lo, hb.hi, Nat.or_lt_two_pow hb.lt (Nat.lt_of_lt_of_le (maskN_lt s (s + c)) (Nat.pow_le_pow_right (by decide) (Nat.max_le.2 ⟨Nat.le_trans (Nat.le_add_right s c) h, h⟩)))⟩
theorem bmApply_cc (H : Hp) (V : List Nat) (b : Bm) (s c : Nat) (hb : BmOk b) (h : s + c ≤ b.n) : CC Tryz.prog 88 [.agg [.fn 87 []], .agg (bmC b), .agg [ci s, ci c]] H V (Pu (.tup [.agg (bmC (setB b s c)), er 0]) H V) := by
  refine CC.of_swp Tryz.func88 rfl (by kernel_rfl) (by rw [Tryz.ntmps88]; exact len_le _ _ rfl) fun hok hokH => ?_
  clear hok
  have b1 := hb.lo
  have b2 := hb.hi
  refine SWp.seq (Wp.s ?_)
  simp -implicitDefEqProofs [go_sem, args0]
  refine SWp.seq (Wp.s ?_)
  simp -implicitDefEqProofs [go_sem]
  refine CC.mono (bmCheck_cc _ _ b hb) ?_
  rintro _ _ _ ⟨rfl, rfl, rfl⟩
  simp -implicitDefEqProofs [go_sem]
  refine SWp.seq (SWp.seq (Wp.s ?_))
  simp -implicitDefEqProofs [go_sem]
  refine CC.mono (bmFits_cc _ _ s c b.n h b2) ?_
  rintro _ _ _ ⟨rfl, rfl, rfl⟩
  simp -implicitDefEqProofs [go_sem]
  refine Wp.s ?_
  simp -implicitDefEqProofs [go_sem]
  refine SWp.seq (Wp.s ?_)
  simp -implicitDefEqProofs [go_sem]
  refine CC.mono (cloneW_cc _ _ b.w) ?_
  rintro _ _ _ ⟨rfl, rfl, rfl⟩
  simp -implicitDefEqProofs [go_sem]
  have hm := maskN_lt s (s + c)
  have hm' : maskN s (s + c) < 18446744073709551616 := pow_lt64 hm (by omega)
  refine SWp.join (α := Unit) (fun _ => ([(4, .ptr (H.length + 1) 0), (6, .ptr (H.length + 3) 0), (9, .bsl (H.length + 4) 0 1 1)], H ++ [some [.fn 87 []], some (bmC b), some [ci s, ci c], some [ci 0, .v (.slice none 0 0)], some [wv (b.w ||| maskN s (s + c))]], V)) (fun _ => True) ?_ ?_
  · refine SWp.seq (Wp.s ?_)
    simp -implicitDefEqProofs [go_sem]
    refine SWp.block ?_
    refine SWp.loop (α := Nat) (fun i => ([(3, .ptr H.length 0), (4, .ptr (H.length + 1) 0), (5, .ptr (H.length + 2) 0), (6, .ptr (H.length + 3) 0), (9, .bsl (H.length + 4) 0 1 1), (27, ci 1), (28, ci i)], H ++ [some [.fn 87 []], some (bmC b), some [ci s, ci c], some [ci 0, .v (.slice none 0 0)], some [wv (if i = 0 then b.w else b.w ||| maskN s (s + c))]], V)) (fun i => i ≤ 1) (fun i => 1 - i) 0 (Nat.zero_le _) (Sh.forget (by simp [go_sem]) rfl rfl) ?_
    intro i hi
    dsimp only
    rcases (show i = 1 ∨ i = 0 by omega) with rfl | rfl
    · refine SWp.seq (Wp.s ?_)
      simp -implicitDefEqProofs [go_sem]
      refine SWp.seq (Wp.s ?_)
      simp -implicitDefEqProofs [go_sem]
      exact Sh.forget (by simp [go_sem]) rfl rfl
    · refine SWp.seq (Wp.s ?_)
      simp -implicitDefEqProofs [go_sem]
      refine SWp.seq (Wp.s ?_)
      simp -implicitDefEqProofs [go_sem]
      refine SWp.seq (SWp.block (SWp.seq (Wp.s ?_)))
      simp -implicitDefEqProofs [go_sem]
      have w1 : IntKind.i64.wrap ((s : Int) + c) = ((s + c : Nat) : Int) := by rw [IntWalk.i64_in _ ⟨by omega, by omega⟩]; omega
      refine (SWp.drawnT [] [19] (.s 0 .pl <| .s 1 .pl <| .s 2 .pl <| .s 3 .pl <| .s 4 .pl <| .s 5 .pl <| .s 6 .pl <| .s 7 .pl <| .s 8 .pl <| .s 9 .pl <| .s 10 .pl <| .s 11 .pl <| .s 12 .pl <| .s 13 .pl <| .s 14 .pl <| .s 15 .pl <| .s 16 .pl <| .s 17 .pl <| .s 18 .pl <| .s 19 .st <| .n) (by kernel_rfl) (by kernel_rfl) ?_)
      simp -implicitDefEqProofs [go_sem, w1]
      refine CC.mono (mask_cc _ _ s (s + c) (by omega) (by omega)) ?_
      rintro _ _ _ ⟨rfl, rfl, rfl⟩
      simp -implicitDefEqProofs [go_sem]
      refine CC.mono (setF_cc _ _ b.w (maskN s (s + c)) hb.lt64 hm') ?_
      rintro _ _ _ ⟨rfl, rfl, rfl⟩
      simp -implicitDefEqProofs [go_sem]
      refine Wp.s ?_
      simp -implicitDefEqProofs [go_sem]
      refine ⟨1, by omega, by omega, Sh.forget ?_ rfl rfl⟩
      simp [go_sem]
      rw [show IntKind.i64.wrap (1 : Int) = 1 from rfl]
      exact .refl _
  · rintro _ -
    dsimp only
    refine SWp.seq (Wp.s ?_)
    simp -implicitDefEqProofs [go_sem]
    refine Wp.s ?_
    simp -implicitDefEqProofs [go_sem]
    refine Fin.frozY (b := H.length + 4) (cs := [wv (b.w ||| maskN s (s + c))]) (r1 := .tup [.agg [ci b.n, .bsl (H.length + 4) 0 1 1], er 0]) (r2 := .tup [.agg (bmC (setB b s c)), er 0]) ⟨rfl, rfl, rfl⟩ (.refl _) (hget _ _ 4) (.tup (.cons (.agg (.cons (.refl _) (.cons (.bsl 0 1 1 (by simp)) .nil))) (.cons (.refl _) .nil))) (by omega) (by simp [go_sem]) hokH (by simp) (by simp)
theorem bmSet_cc (H : Hp) (V : List Nat) (b : Bm) (s c : Nat) (hb : BmOk b) (h : s + c ≤ b.n) : CC Tryz.prog 77 [.agg (bmC b), .agg [ci s, ci c]] H V (Pu (.tup [.agg (bmC (setB b s c)), er 0]) H V) := by
  refine CC.of_swp Tryz.func77 rfl (by kernel_rfl) (by rw [Tryz.ntmps77]; exact len_le _ _ rfl) fun hok hokH => ?_
  clear hok
  refine SWp.seq (Wp.s ?_)
  simp -implicitDefEqProofs [go_sem, args0]
  refine SWp.seq (Wp.s ?_)
  simp -implicitDefEqProofs [go_sem]
  refine CC.mono (bmApply_cc _ _ b s c hb h) ?_
  rintro _ _ _ ⟨rfl, rfl, rfl⟩
  simp -implicitDefEqProofs [go_sem]
  refine Wp.s ?_
  simp -implicitDefEqProofs [go_sem]
  exact Fin.pu (.refl _) (by simp [go_sem]) hokH (by simp) (by simp)
def orB (a b : Bm) : Bm := ⟨a.n, a.w ||| b.w⟩
theorem orB_ok {a b : Bm} (ha : BmOk a) (hb : BmOk b) (h : a.n = b.n) : BmOk (orB a b) := ⟨ha.lo, ha.hi, Nat.or_lt_two_pow ha.lt (by show b.w < 2 ^ a.n; rw [h]; exact hb.lt)⟩
theorem bmBoth_cc (H : Hp) (V : List Nat) (a b : Bm) (ha : BmOk a) (hb : BmOk b) (h : a.n = b.n) : CC Tryz.prog 66 [.agg (bmC a), .agg (bmC b), .fn 67 []] H V (Pu (.tup [.agg (bmC (orB a b)), er 0]) H V) := by
  refine CC.of_swp Tryz.func66 rfl (by kernel_rfl) (by rw [Tryz.ntmps66]; exact len_le _ _ rfl) fun hok hokH => ?_
  clear hok
  refine SWp.seq (Wp.s ?_)
  simp -implicitDefEqProofs [go_sem, args0]
  refine SWp.seq (Wp.s ?_)
  simp -implicitDefEqProofs [go_sem]
  refine CC.mono (bmCheck_cc _ _ a ha) ?_
  rintro _ _ _ ⟨rfl, rfl, rfl⟩
  simp -implicitDefEqProofs [go_sem]
  refine SWp.seq (SWp.seq (Wp.s ?_))
  simp -implicitDefEqProofs [go_sem]
  refine CC.mono (bmCheck_cc _ _ b hb) ?_
  rintro _ _ _ ⟨rfl, rfl, rfl⟩
  simp -implicitDefEqProofs [go_sem]
  refine SWp.seq (Wp.s ?_)
  simp -implicitDefEqProofs [go_sem]
  refine Wp.s ?_
  simp -implicitDefEqProofs [go_sem]
  refine SWp.seq (SWp.seq (Wp.s ?_))
  simp -implicitDefEqProofs [go_sem, show (a.n : Int) = b.n by omega, h]
  refine Wp.s ?_
  simp -implicitDefEqProofs [go_sem]
  refine SWp.seq (Wp.s ?_)
  simp -implicitDefEqProofs [go_sem]
  refine SWp.join (α := Unit) (fun _ => ([(3, .ptr H.length 0), (6, .ptr (H.length + 2) 0), (10, .bsl (H.length + 3) 0 1 1)], H ++ [some (bmC a), some (bmC b), some [ci 0, .v (.slice none 0 0)], some [wv (a.w ||| b.w)]], V)) (fun _ => True) ?_ ?_
  · refine SWp.seq (Wp.s ?_)
    simp -implicitDefEqProofs [go_sem]
    refine SWp.block ?_
    refine SWp.loop (α := Nat) (fun i => ([(2, .fn 67 []), (3, .ptr H.length 0), (4, .ptr (H.length + 1) 0), (6, .ptr (H.length + 2) 0), (10, .bsl (H.length + 3) 0 1 1), (35, ci 1), (36, ci i)], H ++ [some (bmC a), some (bmC b), some [ci 0, .v (.slice none 0 0)], some [wv (if i = 0 then 0 else a.w ||| b.w)]], V)) (fun i => i ≤ 1) (fun i => 1 - i) 0 (Nat.zero_le _) (Sh.forget (by simp [go_sem]) (by simp [wv]) rfl) ?_
    intro i hi
    dsimp only
    rcases (show i = 1 ∨ i = 0 by omega) with rfl | rfl
    · refine SWp.seq (Wp.s ?_)
      simp -implicitDefEqProofs [go_sem]
      refine SWp.seq (Wp.s ?_)
      simp -implicitDefEqProofs [go_sem]
      exact Sh.forget (by simp [go_sem]) rfl rfl
    · refine SWp.seq (Wp.s ?_)
      simp -implicitDefEqProofs [go_sem]
      refine SWp.seq (Wp.s ?_)
      simp -implicitDefEqProofs [go_sem]
      refine SWp.seq (SWp.block (SWp.seq (Wp.s ?_)))
      simp -implicitDefEqProofs [go_sem]
      refine (SWp.drawnT [] [15] (.s 0 .pl <| .s 1 .pl <| .s 2 .pl <| .s 3 .pl <| .s 4 .pl <| .s 5 .pl <| .s 6 .pl <| .s 7 .pl <| .s 8 .pl <| .s 9 .pl <| .s 10 .pl <| .s 11 .pl <| .s 12 .pl <| .s 13 .pl <| .s 14 .pl <| .s 15 .st <| .n) (by kernel_rfl) (by kernel_rfl) ?_)
      simp -implicitDefEqProofs [go_sem]
      refine CC.mono (orF_cc _ _ a.w b.w ha.lt64 hb.lt64) ?_
      rintro _ _ _ ⟨rfl, rfl, rfl⟩
      simp -implicitDefEqProofs [go_sem]
      refine Wp.s ?_
      simp -implicitDefEqProofs [go_sem]
      refine ⟨1, by omega, by omega, Sh.forget ?_ rfl rfl⟩
      simp [go_sem]
      rw [show IntKind.i64.wrap (1 : Int) = 1 from rfl]
      exact .refl _
  · rintro _ -
    dsimp only
    refine SWp.seq (Wp.s ?_)
    simp -implicitDefEqProofs [go_sem]
    refine Wp.s ?_
    simp -implicitDefEqProofs [go_sem]
    refine Fin.frozY (b := H.length + 3) (cs := [wv (a.w ||| b.w)]) (r1 := .tup [.agg [ci a.n, .bsl (H.length + 3) 0 1 1], er 0]) (r2 := .tup [.agg (bmC (orB a b)), er 0]) ⟨rfl, rfl, rfl⟩ (.refl _) (hget _ _ 3) (.tup (.cons (.agg (.cons (.refl _) (.cons (.bsl 0 1 1 (by simp)) .nil))) (.cons (.refl _) .nil))) (by omega) (by simp [go_sem]) hokH (by simp) (by simp)
theorem bmOr_cc (H : Hp) (V : List Nat) (a b : Bm) (ha : BmOk a) (hb : BmOk b) (h : a.n = b.n) : CC Tryz.prog 42 [.agg (bmC a), .agg (bmC b)] H V (Pu (.tup [.agg (bmC (orB a b)), er 0]) H V) := by
  refine CC.of_swp Tryz.func42 rfl (by kernel_rfl) (by rw [Tryz.ntmps42]; exact len_le _ _ rfl) fun hok hokH => ?_
  clear hok
  refine SWp.seq (Wp.s ?_)
  simp -implicitDefEqProofs [go_sem, args0]
  refine SWp.seq (Wp.s ?_)
  simp -implicitDefEqProofs [go_sem]
  refine CC.mono (bmBoth_cc _ _ a b ha hb h) ?_
  rintro _ _ _ ⟨rfl, rfl, rfl⟩
  simp -implicitDefEqProofs [go_sem]
  refine Wp.s ?_
  simp -implicitDefEqProofs [go_sem]
  exact Fin.pu (.refl _) (by simp [go_sem]) hokH (by simp) (by simp)
theorem get_bit (w i : Nat) : decide (((w >>> i &&& 1 : Nat) : Int) = 1) = w.testBit i := by
  rw [Nat.testBit, Nat.and_comm 1, Nat.and_one_is_mod]
  rcases Nat.mod_two_eq_zero_or_one (w >>> i) with h | h <;> rw [h] <;> rfl
theorem bmGet_cc (H : Hp) (V : List Nat) (b : Bm) (i : Nat) (hb : BmOk b) (h : i < b.n) : CC Tryz.prog 15 [.agg (bmC b), ci i] H V (Pu (cb (b.w.testBit i)) H V) := by
  refine CC.of_swp Tryz.func15 rfl (by kernel_rfl) (by rw [Tryz.ntmps15]; exact len_le _ _ rfl) fun hok hokH => ?_
  clear hok
  have b2 := hb.hi
  refine SWp.seq (Wp.s ?_)
  simp -implicitDefEqProofs [go_sem, args0]
  have t1 : ((i : Int)).tmod 64 = i := by rw [Int.tmod_eq_emod_of_nonneg (by omega)]; omega
  have t2 : ((i : Int)).tdiv 64 = 0 := by rw [Int.tdiv_eq_ediv_of_nonneg (by omega)]; omega
  have w0 : IntKind.i64.wrap (0 : Int) = 0 := rfl
  have s1 : shr .u64 (b.w : Int) (i : Int) = ((b.w >>> i : Nat) : Int) := shr64 _ _ (by omega)
  have s2 : bitop .and .u64 ((b.w >>> i : Nat) : Int) 1 = ((b.w >>> i &&& 1 : Nat) : Int) := and64 (Nat.lt_of_le_of_lt (Nat.shiftRight_le _ _) hb.lt64) (by decide)
  have gb := get_bit b.w i
  generalize b.w >>> i = z at s1 s2 gb
  generalize z &&& 1 = y at s2 gb
  refine SWp.seq (Wp.s ?_)
  simp -implicitDefEqProofs [go_sem]
  refine CC.mono (bmCheck_cc _ _ b hb) ?_
  rintro _ _ _ ⟨rfl, rfl, rfl⟩
  simp -implicitDefEqProofs [go_sem, t1, t2, w0, wv_eq, s1, s2, show (i : Int) < b.n by omega, h]
  refine Wp.s ?_
  simp -implicitDefEqProofs [go_sem]
  exact Fin.bool (by rw [← gb]) hokH (by simp) (by simp)
end Go.Proofs.YtgoofldhelffdaaGreatDoor
namespace Go.Proofs.YtgoofldhelffdaaGreatDoor
open Go.Proofs
end Go.Proofs.YtgoofldhelffdaaGreatDoor
namespace Go.Proofs.YtgoofldhelffdaaGreatDoor
open Go.Proofs
end Go.Proofs.YtgoofldhelffdaaGreatDoor
namespace Go.Proofs.YtgoofldhelffdaaGreatDoor
open Go.Proofs
end Go.Proofs.YtgoofldhelffdaaGreatDoor
namespace Go.Proofs.YtgoofldhelffdaaGreatDoor
open Go.Proofs
end Go.Proofs.YtgoofldhelffdaaGreatDoor
namespace Go.Proofs.YtgoofldhelffdaaGreatDoor
open Go.Proofs
end Go.Proofs.YtgoofldhelffdaaGreatDoor
namespace Go.Proofs.YtgoofldhelffdaaGreatDoor
open Go.Proofs
end Go.Proofs.YtgoofldhelffdaaGreatDoor
namespace Go.Proofs.YtgoofldhelffdaaGreatDoor
open Go.Proofs
end Go.Proofs.YtgoofldhelffdaaGreatDoor
namespace Go.Proofs.YtgoofldhelffdaaGreatDoor
open Go.Proofs
end Go.Proofs.YtgoofldhelffdaaGreatDoor
namespace Go.Proofs.YtgoofldhelffdaaGreatDoor
open Go.Proofs
def mx (a b : List UInt8) (k : Nat) : List UInt8 := a.take k ++ List.replicate (4 - k) 0 ++ (b.take k ++ List.replicate (4 - k) 0)
def dst (p : List UInt8) (k : Nat) : List UInt8 := UInt8.ofNat p.length :: (p.take k ++ List.replicate (31 - k) 0)
end Go.Proofs.YtgoofldhelffdaaGreatDoor
namespace Go.Proofs.YtgoofldhelffdaaGreatDoor
open Go.Proofs
def zs (l : List UInt8) : Bool := l.all (· == 0)
end Go.Proofs.YtgoofldhelffdaaGreatDoor
namespace Go.Proofs.YtgoofldhelffdaaGreatDoor
open Go.Proofs
end Go.Proofs.YtgoofldhelffdaaGreatDoor
namespace Go.Proofs.YtgoofldhelffdaaGreatDoor
open Go.Proofs
end Go.Proofs.YtgoofldhelffdaaGreatDoor
namespace Go.Proofs.YtgoofldhelffdaaGreatDoor
open Go.Proofs
theorem okL_app {i j : Nat} : ∀ {a b : List CV}, okL i j a → okL i j b → okL i j (a ++ b)
  | [], b, _, h => h
  | x :: a, b, h, g => by rw [okL] at h; rw [List.cons_append, okL]; exact ⟨h.1, okL_app h.2 g⟩
end Go.Proofs.YtgoofldhelffdaaGreatDoor
namespace Go.Proofs.YtgoofldhelffdaaGreatDoor
open Go.Proofs
end Go.Proofs.YtgoofldhelffdaaGreatDoor
namespace Go.Proofs.YtgoofldhelffdaaGreatDoor
open Go.Proofs
end Go.Proofs.YtgoofldhelffdaaGreatDoor
namespace Go.Proofs.YtgoofldhelffdaaGreatDoor
open Go.Proofs
section
variable {n nb nv : Nat} {T T' : Tm} {H : Hp} {V : List Nat}
end
end Go.Proofs.YtgoofldhelffdaaGreatDoor
namespace Go.Proofs.YtgoofldhelffdaaGreatDoor
open Go.Proofs
end Go.Proofs.YtgoofldhelffdaaGreatDoor
namespace Go.Proofs.YtgoofldhelffdaaGreatDoor
open Go.Proofs
@[go_sem] theorem azTy3 : azTy Tryz.prog 3 = true := by kernel_rfl
end Go.Proofs.YtgoofldhelffdaaGreatDoor
namespace Go.Proofs.YtgoofldhelffdaaGreatDoor
open Go.Proofs
def uns (s l : List Nat) : Nat := (l.filter fun x => !s.contains x).length
theorem uns_le (s : List Nat) (i : Nat) : ∀ l : List Nat, uns (s ++ [i]) l ≤ uns s l
  | [] => Nat.le_refl _
  | x :: l => by
    have ih := uns_le s i l
    unfold uns at *
    rw [List.filter_cons, List.filter_cons]
    by_cases h : x ∈ s
    · have h1 : (!(s ++ [i]).contains x) = false := by simp [h]
      have h2 : (!s.contains x) = false := by simp [h]
      rw [h1, h2]; exact ih
    · have h2 : (!s.contains x) = true := by simp [h]
      rw [h2]
      split
      · rw [if_pos rfl, List.length_cons, List.length_cons]; omega
      · rw [if_pos rfl, List.length_cons]; omega
theorem uns_lt (s : List Nat) (i : Nat) (hs : i ∉ s) : ∀ l : List Nat, i ∈ l → uns (s ++ [i]) l < uns s l
  | x :: l, hi => by
    by_cases hx : x = i
    · subst hx
      have := uns_le s x l
      unfold uns at *
      rw [List.filter_cons, List.filter_cons]
      have h1 : (!(s ++ [x]).contains x) = false := by simp
      have h2 : (!s.contains x) = true := by simp [hs]
      rw [h1, h2, if_neg (by decide), if_pos rfl, List.length_cons]; omega
    · have ih := uns_lt s i hs l (by rcases List.mem_cons.1 hi with h | h; exact absurd h.symm hx; exact h)
      unfold uns at *
      rw [List.filter_cons, List.filter_cons]
      by_cases h : x ∈ s
      · have h1 : (!(s ++ [i]).contains x) = false := by simp [h]
        have h2 : (!s.contains x) = false := by simp [h]
        rw [h1, h2]; exact ih
      · have h1 : (!(s ++ [i]).contains x) = true := by simp [h, hx]
        have h2 : (!s.contains x) = true := by simp [h]
        rw [h1, h2, if_pos rfl, if_pos rfl, List.length_cons, List.length_cons]; omega
theorem set_W3 (H W : Hp) (a0 a1 a2 : Option (List CV)) (j : Nat) (y : Option (List CV)) : (H ++ (a0 :: a1 :: a2 :: W)).set (H.length + (j + 3)) y = H ++ (a0 :: a1 :: a2 :: W.set j y) := by
  rw [List.set_append_right _ _ (by omega), Nat.add_sub_cancel_left]; rfl
end Go.Proofs.YtgoofldhelffdaaGreatDoor
namespace Go.Proofs.YtgoofldhelffdaaGreatDoor
open Go.Proofs
theorem elements_cc (H : Hp) (V : List Nat) (b : Bm) (f : Nat) : CC Tryz.prog 68 [.agg (bmC b), ci f] H V (fun r H' V' => r = .fn 78 [.ptr H.length 0, .ptr (H.length + 1) 0] ∧ H' = H ++ [some (bmC b), some [ci f]] ∧ V = V') := by
  refine CC.of_swp Tryz.func68 rfl (by kernel_rfl) (by rw [Tryz.ntmps68]; exact len_le _ _ rfl) fun hok hokH => ?_
  refine SWp.seq (Wp.s ?_)
  simp -implicitDefEqProofs [go_sem, args0]
  refine Wp.s ?_
  simp -implicitDefEqProofs [go_sem]
  refine Fin.cut (H.length + 2) V.length ⟨rfl, rfl, rfl⟩ (by omega) (Nat.le_refl _) (List.take_of_length_le (by simp)) (List.take_of_length_le (Nat.le_refl _)) (.refl _) (by simp [go_sem]) ?_
  intro b' cs hb
  rw [List.getElem?_append] at hb
  split at hb
  · exact okL_mono (by omega) (Nat.le_refl _) (hokH b' cs hb)
  · exact okH_get (i := H.length + 2) (j := V.length) (L := [some (bmC b), some [ci f]]) (by simp [go_sem]) _ _ hb
theorem and_mask {n w : Nat} (h : w < 2 ^ n) : w &&& maskN 0 n = w := by
  rw [maskN, Nat.sub_zero, Nat.pow_zero, Nat.mul_one, Nat.and_two_pow_sub_one_eq_mod, Nat.mod_eq_of_lt h]
theorem elsN_drop {k : Nat} {r : List Nat} (i : Nat) (l : List Nat) (h : k :: r = l.drop i) : ∃ hi : i < l.length, l[i] = k ∧ r = l.drop (i + 1) := by
  have hi : i < l.length := by
    rcases Nat.lt_or_ge i l.length with h1 | h1
    · exact h1
    · rw [List.drop_eq_nil_of_le h1] at h; cases h
  rw [List.drop_eq_getElem_cons hi, List.cons.injEq] at h
  exact ⟨hi, h.1.symm, h.2⟩
theorem elsN_mem {n w i : Nat} : i ∈ elsN n w ↔ i < n ∧ w.testBit i = true := by
  rw [elsN, List.mem_filter, List.mem_range]
theorem elsN_len (n w : Nat) : (elsN n w).length ≤ n := by
  have := List.length_filter_le (fun i => w.testBit i) (List.range n)
  rwa [List.length_range] at this
theorem elements1_cc (H : Hp) (V : List Nat) (L b1 b2 : Nat) (b : Bm) (hb : BmOk b) (I : Nat → Hp → List Nat → Prop) (h0 : I 0 H V)
    (hI : ∀ i H V, I i H V → H[b1]? = some (some (bmC b)) ∧ H[b2]? = some (some [ci 0]))
    (hy : ∀ i (hi : i < (elsN b.n b.w).length), ∀ H V, I i H V → YC Tryz.prog L [ci ((elsN b.n b.w)[i] : Nat)] H V (fun r H' V' => r = .v (.bool true) ∧ I (i + 1) H' V')) :
    CC Tryz.prog 78 [.yl L, .ptr b1 0, .ptr b2 0] H V (fun _ H' V' => I (elsN b.n b.w).length H' V') := by
  have b2' := hb.hi
  refine CC.of_swp Tryz.func78 rfl (by kernel_rfl) (by rw [Tryz.ntmps78]; exact len_le _ _ rfl) fun hok hokH => ?_
  clear hok
  obtain ⟨g1, g2⟩ := hI _ _ _ h0
  refine SWp.seq (SWp.seq (Wp.s ?_))
  simp -implicitDefEqProofs [go_sem, args0, hbx_of g1]
  refine CC.mono (bmCheck_cc _ _ b hb) ?_
  rintro _ _ _ ⟨rfl, rfl, rfl⟩
  simp -implicitDefEqProofs [go_sem]
  refine Wp.s ?_
  simp -implicitDefEqProofs [go_sem]
  refine SWp.seq (Wp.s ?_)
  simp -implicitDefEqProofs [go_sem, hbx_of g1]
  refine SWp.block ?_
  refine SWp.loop (α := Nat × Hp × List Nat) (fun x => ([(0, .yl L), (1, .ptr b1 0), (2, .ptr b2 0), (10, .sl .sh 1 [[wv b.w]]), (11, ci 1), (12, ci x.1)], x.2.1, x.2.2)) (fun x => x.1 ≤ 1 ∧ I (if x.1 = 0 then 0 else (elsN b.n b.w).length) x.2.1 x.2.2) (fun x => 1 - x.1) (0, H, V) ⟨by omega, h0⟩ (Sh.forget (by simp [go_sem]) rfl rfl) ?_
  rintro ⟨i, H1, V1⟩ ⟨hi, hi1⟩
  dsimp only at hi hi1 ⊢
  rcases (show i = 1 ∨ i = 0 by omega) with rfl | rfl
  · refine SWp.seq (Wp.s ?_)
    simp -implicitDefEqProofs [go_sem]
    refine SWp.seq (Wp.s ?_)
    simp -implicitDefEqProofs [go_sem]
    exact Fin.self hi1
  · rw [if_pos rfl] at hi1
    obtain ⟨g1, g2⟩ := hI _ _ _ hi1
    refine SWp.seq (Wp.s ?_)
    simp -implicitDefEqProofs [go_sem]
    refine SWp.seq (Wp.s ?_)
    simp -implicitDefEqProofs [go_sem]
    refine SWp.seq (SWp.block (SWp.seq (Wp.s ?_)))
    simp -implicitDefEqProofs [go_sem]
    refine SWp.seq (Wp.s ?_)
    simp -implicitDefEqProofs [go_sem, hbx_of g1, hbx_of g2]
    refine CC.mono (mask_cc _ _ 0 b.n (by omega) (by omega)) ?_
    rintro _ _ _ ⟨rfl, rfl, rfl⟩
    have a1 := and64 hb.lt64 (pow_lt64 (k := b.n) (by have := maskN_lt 0 b.n; rwa [Nat.max_eq_right (by omega)] at this) (by omega))
    rw [and_mask hb.lt] at a1
    simp -implicitDefEqProofs [go_sem, a1, wv_eq]
    refine SWp.block ?_
    refine SWp.loop (α := Nat × Nat × Hp × List Nat) (fun x => ([(0, .yl L), (1, .ptr b1 0), (2, .ptr b2 0), (4, ci 0), (5, wv x.2.1), (10, .sl .sh 1 [[wv b.w]]), (11, ci 1), (12, ci 0)], x.2.2.1, x.2.2.2)) (fun x => x.1 ≤ (elsN b.n b.w).length ∧ x.2.1 < 2 ^ b.n ∧ elsN b.n x.2.1 = (elsN b.n b.w).drop x.1 ∧ I x.1 x.2.2.1 x.2.2.2) (fun x => (elsN b.n b.w).length - x.1) (0, b.w, H1, V1) ⟨Nat.zero_le _, hb.lt, rfl, hi1⟩ (Sh.forget (by simp [go_sem, wv]) rfl rfl) ?_
    rintro ⟨j, u, H2, V2⟩ ⟨hj, hu, he, hi2⟩
    dsimp only at hj hu he hi2 ⊢
    rcases Nat.eq_zero_or_pos u with rfl | hup
    · rw [elsN_zero] at he
      have hjl : j = (elsN b.n b.w).length := by
        rcases Nat.lt_or_ge j (elsN b.n b.w).length with h1 | h1
        · rw [List.drop_eq_getElem_cons h1] at he; cases he
        · omega
      subst hjl
      refine SWp.seq (SWp.seq (Wp.s ?_))
      simp -implicitDefEqProofs [go_sem, wv_eq]
      refine Wp.s ?_
      simp -implicitDefEqProofs [go_sem]
      refine Wp.s ?_
      simp -implicitDefEqProofs [go_sem]
      refine ⟨1, H2, V2, ⟨by omega, hi2⟩, by omega, Sh.forget ?_ rfl rfl⟩
      simp [go_sem]
      rw [show IntKind.i64.wrap (1 : Int) = 1 from rfl]
      exact .refl _
    · obtain ⟨k, m, rfl⟩ := low_form u hup
      have hk : k < b.n := low_lt hu
      rw [elsN_low hk] at he
      obtain ⟨hjl, hg, hd⟩ := elsN_drop j _ he
      have hu64 := pow_lt64 (k := b.n) hu (by omega)
      have hclr : (2 * m) * 2 ^ k < 2 ^ b.n := Nat.lt_trans (clr_le k m) hu
      have hu0 : (0 : Int) < (((2 * m + 1) * 2 ^ k : Nat) : Int) := by omega
      have a2 : bitop .and .u64 (((2 * m + 1) * 2 ^ k : Nat) : Int) (((2 * m + 1) * 2 ^ k - 1 : Nat) : Int) = ((2 * m * 2 ^ k : Nat) : Int) := by rw [and64 hu64 (by omega), low_clr]
      have w2 : IntKind.u64.wrap ((((2 * m + 1) * 2 ^ k : Nat) : Int) - 1) = (((2 * m + 1) * 2 ^ k - 1 : Nat) : Int) := by rw [IntKind.wrap_u64]; omega
      have htz := tz_cc H2 V2 k m hu64
      generalize (2 * m + 1) * 2 ^ k = y at hu hup hu64 hu0 a2 w2 htz ⊢
      generalize 2 * m * 2 ^ k = z at hd hclr a2
      have y0 : ¬ (y : Int) = 0 := by omega
      have y0' : ¬ y = 0 := by omega
      refine SWp.seq (SWp.seq (Wp.s ?_))
      simp -implicitDefEqProofs [go_sem, wv_eq, y0, y0']
      refine Wp.s ?_
      simp -implicitDefEqProofs [go_sem]
      refine SWp.block (SWp.seq (SWp.seq (Wp.s ?_)))
      simp -implicitDefEqProofs [go_sem]
      refine CC.mono htz ?_
      rintro _ _ _ ⟨rfl, rfl, rfl⟩
      have w0 : IntKind.i64.wrap (0 : Int) = 0 := rfl
      have w3 : IntKind.i64.wrap ((k : Int)) = k := IntWalk.i64_in _ ⟨by omega, by omega⟩
      simp -implicitDefEqProofs [go_sem, w0, w3]
      have hy1 := hy j hjl H2 V2 hi2
      rw [hg] at hy1
      refine YC.mono hy1 ?_
      rintro _ H3 V3 ⟨rfl, hi3⟩
      simp -implicitDefEqProofs [go_sem]
      refine Wp.s ?_
      simp -implicitDefEqProofs [go_sem]
      refine Wp.s ?_
      simp -implicitDefEqProofs [go_sem, w2, a2]
      refine ⟨j + 1, z, H3, V3, ⟨hjl, hclr, hd, hi3⟩, by omega, Sh.forget ?_ rfl rfl⟩
      simp [go_sem]
theorem snoc_ind {α : Type} {P : List α → Prop} (h0 : P []) (h1 : ∀ l a, P l → P (l ++ [a])) (l : List α) : P l := by
  have : ∀ m : List α, P m.reverse := by
    intro m
    induction m with
    | nil => exact h0
    | cons a m ih => rw [List.reverse_cons]; exact h1 _ _ ih
  have := this l.reverse
  rwa [List.reverse_reverse] at this
def exC (e : Nat × Nat) : List CV := [ci e.1, ci e.2]
def exF (l : List (Nat × Nat)) : List CV := l.flatMap exC
@[go_sem, simp] theorem exC_len (e : Nat × Nat) : (exC e).length = 2 := rfl
@[go_sem, simp] theorem exC_all (e : Nat × Nat) : allOne (exC e) = true := rfl
theorem exF_snoc (l : List (Nat × Nat)) (e : Nat × Nat) : exF (l ++ [e]) = exF l ++ exC e := by simp [exF]
@[go_sem, simp] theorem exF_len : ∀ (l : List (Nat × Nat)), (exF l).length = l.length * 2
  | [] => rfl
  | e :: l => by rw [exF, List.flatMap_cons, List.length_append, ← exF, exF_len l, exC_len, List.length_cons]; omega
theorem chunks_exF : ∀ (l : List (Nat × Nat)), chunks 2 l.length (exF l) = l.map exC
  | [] => rfl
  | e :: l => by
    rw [exF, List.flatMap_cons, ← exF, List.length_cons, chunks, List.map_cons]
    rw [show (exC e ++ exF l).take 2 = exC e from rfl, show (exC e ++ exF l).drop 2 = exF l from rfl, chunks_exF l]
def exStep (l : List (Nat × Nat)) (x : Nat) : List (Nat × Nat) :=
  match l.getLast? with
  | some e => if e.1 + e.2 = x then l.dropLast ++ [(e.1, e.2 + 1)] else l ++ [(x, 1)]
  | none => [(x, 1)]
theorem exStep_nil (x : Nat) : exStep [] x = [(x, 1)] := rfl
theorem exStep_snoc (l : List (Nat × Nat)) (e : Nat × Nat) (x : Nat) : exStep (l ++ [e]) x = if e.1 + e.2 = x then l ++ [(e.1, e.2 + 1)] else l ++ [e] ++ [(x, 1)] := by
  simp [exStep]
def runsN (xs : List Nat) : List (Nat × Nat) := xs.foldl exStep []
theorem runsN_snoc (xs : List Nat) (x : Nat) : runsN (xs ++ [x]) = exStep (runsN xs) x := by simp [runsN]
theorem exStep_len (l : List (Nat × Nat)) (x : Nat) : (exStep l x).length ≤ l.length + 1 := by
  rcases List.eq_nil_or_concat l with rfl | ⟨l0, e, rfl⟩
  · simp [exStep_nil]
  · rw [List.concat_eq_append, exStep_snoc]
    split <;> simp
theorem runsN_len (xs : List Nat) : (runsN xs).length ≤ xs.length := by
  induction xs using snoc_ind with
  | h0 => simp [runsN]
  | h1 xs x ih => rw [runsN_snoc, List.length_append]; have := exStep_len (runsN xs) x; simp; omega
theorem exStep_bd {l : List (Nat × Nat)} {x n : Nat} (h : ∀ e ∈ l, e.1 + e.2 ≤ n) (hx : x < n) : ∀ e ∈ exStep l x, e.1 + e.2 ≤ n := by
  intro e he
  rcases List.eq_nil_or_concat l with rfl | ⟨l0, d, rfl⟩
  · rw [exStep_nil] at he; simp at he; subst he; show x + 1 ≤ n; omega
  · rw [List.concat_eq_append] at h he
    rw [exStep_snoc] at he
    split at he
    · rename_i hq
      rcases List.mem_append.1 he with he | he
      · exact h e (by simp [he])
      · simp at he; subst he; show d.1 + (d.2 + 1) ≤ n; omega
    · rcases List.mem_append.1 he with he | he
      · exact h e he
      · simp at he; subst he; show x + 1 ≤ n; omega
theorem runsN_bd {xs : List Nat} {n : Nat} (h : ∀ x ∈ xs, x < n) : ∀ e ∈ runsN xs, e.1 + e.2 ≤ n := by
  induction xs using snoc_ind with
  | h0 => intro e he; simp [runsN] at he
  | h1 xs x ih =>
    rw [runsN_snoc]
    exact exStep_bd (ih fun y hy => h y (by simp [hy])) (h x (by simp))
def ExA (h : Nat) (l : List (Nat × Nat)) (cv : CV) (W : Hp) : Prop :=
  (cv = .v (.slice none 0 0) ∧ l = []) ∨ ∃ j l0 e, l = l0 ++ [e] ∧ cv = .bsa (h + (j + 5)) l.length 2 ∧ W[j]? = some (some (exF l))
theorem get_W5 (H W : Hp) (a0 a1 a2 a3 a4 : Option (List CV)) (j : Nat) : (H ++ (a0 :: a1 :: a2 :: a3 :: a4 :: W))[H.length + (j + 5)]? = W[j]? := Go.Proofs.YtgoofldhelffdaaGreatDoor.hget _ _ (j + 5)
theorem okE_exs (jb jv : Nat) : ∀ (l : List (Nat × Nat)), okE jb jv (l.map exC)
  | [] => trivial
  | e :: l => by rw [List.map_cons, okE]; exact ⟨by simp [exC, okL, okV], okE_exs jb jv l⟩
theorem exF_take (l0 : List (Nat × Nat)) (e : Nat × Nat) : (exF (l0 ++ [e])).take (l0.length * 2 + 1) = exF l0 ++ [ci e.1] := by
  rw [exF_snoc, ← exF_len, List.take_append, List.take_of_length_le (by omega)]
  congr 1
  rw [Nat.add_sub_cancel_left]; rfl
theorem exF_drop (l0 : List (Nat × Nat)) (e : Nat × Nat) : (exF (l0 ++ [e])).drop (l0.length * 2 + 2) = [] := by
  rw [List.drop_eq_nil_of_le]; simp; omega
theorem exF_at0 (l0 : List (Nat × Nat)) (e : Nat × Nat) (h : l0.length * 2 < (exF (l0 ++ [e])).length) : (exF (l0 ++ [e]))[l0.length * 2] = ci e.1 := by
  have : (exF (l0 ++ [e]))[l0.length * 2]? = some (ci e.1) := by
    rw [exF_snoc, ← exF_len, List.getElem?_append_right (Nat.le_refl _), Nat.sub_self]; rfl
  rw [List.getElem?_eq_getElem h] at this
  exact Option.some.inj this
theorem exF_at1 (l0 : List (Nat × Nat)) (e : Nat × Nat) (h : l0.length * 2 + 1 < (exF (l0 ++ [e])).length) : (exF (l0 ++ [e]))[l0.length * 2 + 1] = ci e.2 := by
  have : (exF (l0 ++ [e]))[l0.length * 2 + 1]? = some (ci e.2) := by
    rw [exF_snoc, ← exF_len, List.getElem?_append_right (by omega), Nat.add_sub_cancel_left]; rfl
  rw [List.getElem?_eq_getElem h] at this
  exact Option.some.inj this
theorem extents_cc (H : Hp) (V : List Nat) (b : Bm) (hb : BmOk b) : CC Tryz.prog 43 [.agg (bmC b)] H V (Pu (.sl .sh 2 ((runsN (elsN b.n b.w)).map exC)) H V) := by
  refine CC.of_swp0 Tryz.func43 rfl (by kernel_rfl) (by rw [Tryz.ntmps43]; exact len_le _ _ rfl) fun hok hokH => ?_
  have hn := hb.hi
  have hlen := elsN_len b.n b.w
  have hrl := runsN_len (elsN b.n b.w)
  refine SWp0.seq (SWp.s0 (Wp.s ?_))
  simp -implicitDefEqProofs [go_sem, args0]
  refine SWp0.seq (SWp.s0 (Wp.s ?_))
  simp -implicitDefEqProofs [go_sem]
  refine SWp0.join (α := CV × List (Nat × Nat) × Hp) (fun x => ([(3, .ptr (H.length + 1) 0)], H ++ (some (bmC b) :: some [x.1] :: some (bmC b) :: some [ci 0] :: none :: x.2.2), V)) (fun x => x.2.1 = runsN (elsN b.n b.w) ∧ ExA H.length x.2.1 x.1 x.2.2) ?_ ?_
  · refine SWp0.seq (SWp.s0 (Wp.s ?_))
    simp -implicitDefEqProofs [go_sem]
    refine CC.mono (elements_cc _ _ b 0) ?_
    rintro _ _ _ ⟨rfl, rfl, rfl⟩
    simp -implicitDefEqProofs [go_sem]
    refine SWp0.block (SWp0.range [(3, .ptr (H.length + 1) 0)] rfl (by simp -implicitDefEqProofs [go_sem]) ?_)
    simp -implicitDefEqProofs [go_sem]
    generalize hbd : Code.block 1 _ = bd
    generalize has : Code.region 3 _ _ = asg
    refine CC.mono (elements1_cc _ V _ (H.length + 2) (H.length + 2 + 1) b hb (fun i G W => W = V ∧ ∃ cv Wg, G = H ++ (some (bmC b) :: some [cv] :: some (bmC b) :: some [ci 0] :: some [lpc 45 #[8] asg bd [(3, .ptr (H.length + 1) 0)] .ready none] :: Wg) ∧ ExA H.length (runsN ((elsN b.n b.w).take i)) cv Wg) ?_ ?_ ?_) ?_
    · exact ⟨rfl, _, [], rfl, .inl ⟨rfl, rfl⟩⟩
    · rintro i _ _ ⟨rfl, cv, Wg, rfl, hc⟩
      exact ⟨Go.Proofs.YtgoofldhelffdaaGreatDoor.hget _ _ 2, Go.Proofs.YtgoofldhelffdaaGreatDoor.hget _ _ 3⟩
    · rintro i hi _ V1 ⟨rfl, cv, Wg, rfl, hc⟩
      have hx : (elsN b.n b.w)[i] < b.n := (elsN_mem.1 (List.getElem_mem hi)).1
      have htk : (elsN b.n b.w).take (i + 1) = (elsN b.n b.w).take i ++ [(elsN b.n b.w)[i]] := List.take_succ_eq_append_getElem hi
      have hbd0 : ∀ e ∈ runsN ((elsN b.n b.w).take i), e.1 + e.2 ≤ b.n := runsN_bd fun x hx => (elsN_mem.1 (List.mem_of_mem_take hx)).1
      have hll : (runsN ((elsN b.n b.w).take i)).length ≤ 63 := by
        have := runsN_len ((elsN b.n b.w).take i)
        rw [List.length_take] at this; omega
      rw [htk, runsN_snoc]
      generalize (elsN b.n b.w)[i] = x at hx ⊢
      generalize runsN ((elsN b.n b.w).take i) = l at hc hbd0 hll ⊢
      refine YC.of_round (n := 45) (ps := #[8]) (bd := bd) (T := [(3, .ptr (H.length + 1) 0)]) (Go.Proofs.YtgoofldhelffdaaGreatDoor.hget _ _ 4) rfl (by decide) ?_
      subst hbd has
      refine Wp.s ?_
      simp -implicitDefEqProofs [go_sem, tps]
      generalize hlp : lpc 45 #[8] _ _ _ LoopState.busy none = lp
      generalize hqq : RQ 45 #[8] _ _ _ _ _ = QQ
      rcases hc with ⟨rfl, rfl⟩ | ⟨j, l0, e, rfl, rfl, hj⟩
      · refine SWp.block (SWp.seq (SWp.seq (Wp.s ?_)))
        simp -implicitDefEqProofs [go_sem]
        refine SWp.seq (SWp.drawnT [] [] (.s 0 .pl <| .s 1 .pl <| .s 2 .pl <| .s 3 .pl <| .s 4 .pl <| .s 5 .pl <| .s 6 .pl <| .s 7 .pl <| .s 8 .pl <| .s 9 .pl <| .s 10 .pl <| .s 11 .pl <| .s 12 .pl <| .s 13 .pl <| .s 14 .pl <| .s 15 .pl <| .s 16 .pl <| .s 17 .pl <| .s 18 .pl <| .n) (by kernel_rfl) (by kernel_rfl) ?_)
        simp -implicitDefEqProofs [go_sem]
        refine Wp.s ?_
        simp -implicitDefEqProofs [go_sem]
        refine SWp.opx (pre := [_, _, _, _]) (post := [_]) rfl (by intro c e; cases e) ?_
        simp -implicitDefEqProofs [go_sem]
        refine ⟨_, _, _, appboxN (sz := 2) (tk := .ti) (ys := [[ci x, ci 1]]) slTy79 slTy79 (by decide) rfl rfl (by simp) (by simp), ?_⟩
        simp -implicitDefEqProofs [go_sem]
        rw [← hqq, ← hlp]
        refine ⟨Go.Proofs.YtgoofldhelffdaaGreatDoor.hget _ _ 4, rfl, rfl, .bsa (H.length + (Wg.length + 5)) 1 2, Wg ++ [some (exF [(x, 1)])], ?_, .inr ⟨Wg.length, [], (x, 1), rfl, rfl, by simp [exStep_nil]⟩⟩
        rw [List.set_append_right _ _ (by omega), Nat.add_sub_cancel_left]
        simp [exF, exC]
      · refine SWp.block (SWp.seq (SWp.seq (Wp.s ?_)))
        simp -implicitDefEqProofs [go_sem, hbx_of hj]
        refine SWp.seq (SWp.drawnT [] [] (.s 0 .pl <| .s 1 .pl <| .s 2 .pl <| .s 3 .pl <| .s 4 .pl <| .s 5 .pl <| .s 6 .pl <| .s 7 .pl <| .s 8 .pl <| .s 9 .pl <| .s 10 .pl <| .s 11 .pl <| .s 12 .pl <| .s 13 .pl <| .s 14 .pl <| .s 15 .pl <| .s 16 .pl <| .s 17 .pl <| .s 18 .pl <| .n) (by kernel_rfl) (by kernel_rfl) ?_)
        have b1 := hbd0 e (by simp)
        rw [List.length_append, List.length_singleton] at hll
        have w1 : IntKind.i64.wrap (l0.length : Int) = l0.length := IntWalk.i64_in _ ⟨by omega, by omega⟩
        have w2 : IntKind.i64.wrap ((e.1 : Int) + e.2) = (e.1 : Int) + e.2 := IntWalk.i64_in _ ⟨by omega, by omega⟩
        have w3 : IntKind.i64.wrap ((e.2 : Int) + 1) = ((e.2 + 1 : Nat) : Int) := by rw [IntWalk.i64_in _ ⟨by omega, by omega⟩]; omega
        have x0 : l0.length < l0.length + 1 := by omega
        by_cases hq : e.1 + e.2 = x
        · have hq' : (e.1 : Int) + e.2 = x := by omega
          have w4 : IntKind.i64.wrap (x : Int) = x := IntWalk.i64_in _ ⟨by omega, by omega⟩
          simp -implicitDefEqProofs [go_sem, w1, w2, w3, hbx_of hj, exF_at0, exF_at1, hq, hq', w4]
          refine ⟨by omega, by omega, ?_⟩
          refine Wp.s ?_
          simp -implicitDefEqProofs [go_sem, w1, w3, hbx_of hj, exF_at1]
          refine ⟨by omega, by omega, by omega, ?_⟩
          rw [← hqq, ← hlp]
          have hst : exStep (l0 ++ [e]) x = l0 ++ [(e.1, e.2 + 1)] := by rw [exStep_snoc, if_pos hq]
          have hjl := (List.getElem?_eq_some_iff.1 hj).1
          rw [hst]
          refine ⟨Go.Proofs.YtgoofldhelffdaaGreatDoor.hget _ _ 4, rfl, rfl, .bsa (H.length + (j + 5)) (l0.length + 1) 2, Wg.set j (some (exF (l0 ++ [(e.1, e.2 + 1)]))), ?_, .inr ⟨j, l0, (e.1, e.2 + 1), rfl, by simp, by rw [List.getElem?_set_self hjl]⟩⟩
          rw [List.set_append_right _ _ (by omega), Nat.add_sub_cancel_left, exF_take, exF_drop, exF_snoc]
          simp [exC]
        · have hq' : ¬ (e.1 : Int) + e.2 = x := by omega
          simp -implicitDefEqProofs [go_sem, w1, w2, w3, hbx_of hj, exF_at0, exF_at1, hq, hq']
          refine ⟨by omega, by omega, ?_⟩
          refine Wp.s ?_
          simp -implicitDefEqProofs [go_sem]
          refine Wp.s ?_
          simp -implicitDefEqProofs [go_sem, hbx_of hj]
          refine ⟨by omega, ?_⟩
          rw [← hqq, ← hlp]
          have hst : exStep (l0 ++ [e]) x = l0 ++ [e] ++ [(x, 1)] := by rw [exStep_snoc, if_neg hq]
          rw [hst]
          refine ⟨Go.Proofs.YtgoofldhelffdaaGreatDoor.hget _ _ 4, rfl, rfl, .bsa (H.length + (Wg.length + 5)) (l0.length + 2) 2, Wg.set j none ++ [some (exF (l0 ++ [e] ++ [(x, 1)]))], ?_, .inr ⟨Wg.length, l0 ++ [e], (x, 1), rfl, by simp, by simp⟩⟩
          rw [List.set_append_right _ _ (by omega), Nat.add_sub_cancel_left, exF_snoc (l0 ++ [e])]
          simp [exC]
    · rintro _ _ _ ⟨rfl, cv, Wg, rfl, hc⟩
      refine .inl ⟨Go.Proofs.YtgoofldhelffdaaGreatDoor.hget _ _ 4, ?_⟩
      rw [List.take_of_length_le (Nat.le_refl _)] at hc
      refine ⟨cv, _, Wg, ⟨rfl, hc⟩, Sh.forget (by simp -implicitDefEqProofs [go_sem]) ?_ rfl⟩
      rw [List.set_append_right _ _ (by omega), Nat.add_sub_cancel_left]; rfl
  · rintro ⟨cv, l, W⟩ ⟨rfl, hc⟩
    dsimp only at hc ⊢
    refine SWp0.seq (SWp.s0 (Wp.s ?_))
    simp -implicitDefEqProofs [go_sem]
    refine SWp.s0 (Wp.s ?_)
    simp -implicitDefEqProofs [go_sem]
    rcases hc with ⟨rfl, hl⟩ | ⟨j, l0, e, hl, rfl, hj⟩
    · rw [hl]
      exact Fin.pu (.nil 2 (by decide)) (by simp [go_sem]) hokH (by simp) (by simp)
    · refine Fin.froz (b := H.length + (j + 5)) (cs := exF (runsN (elsN b.n b.w))) (o := 0) (n := (runsN (elsN b.n b.w)).length) (sz := 2) (xs := (runsN (elsN b.n b.w)).map exC) ⟨rfl, rfl, rfl⟩ (.bsa _ _ _) ?_ (by rw [List.drop_zero, chunks_exF]) (by simp) (by omega) ?_ hokH (by simp) (by simp)
      · rw [get_W5]; exact hj
      · exact okE_exs _ _ _
end Go.Proofs.YtgoofldhelffdaaGreatDoor
namespace Go.Proofs.YtgoofldhelffdaaGreatDoor
open Go.Proofs
end Go.Proofs.YtgoofldhelffdaaGreatDoor
namespace Go.Proofs.YtgoofldhelffdaaGreatDoor
open Go.Proofs
end Go.Proofs.YtgoofldhelffdaaGreatDoor
namespace Go.Proofs.YtgoofldhelffdaaGreatDoor
open Go.Proofs
end Go.Proofs.YtgoofldhelffdaaGreatDoor
namespace Go.Proofs.YtgoofldhelffdaaGreatDoor
open Go.Proofs
section
variable {P : Program} {H : Hp} {V : List Nat}
end
end Go.Proofs.YtgoofldhelffdaaGreatDoor
namespace Go.Proofs.YtgoofldhelffdaaGreatDoor
open Go.Proofs
def numG : Nat → Nat → Nat → List UInt8 → Except Nat (Nat × List UInt8)
  | 0, _, _, _ => .error 3
  | _ + 1, _, _, [] => .error 10
  | f + 1, i, n, b :: r =>
    if b.toNat < 128 then
      if (b.toNat = 0 ∧ 0 < i) ∨ 9007199254740991 < n + b.toNat * 128 ^ i then .error 3 else .ok (n + b.toNat * 128 ^ i, r)
    else numG f (i + 1) (n + b.toNat % 128 * 128 ^ i) r
def number (src : List UInt8) : Except Nat (Nat × List UInt8) := numG 8 0 0 src

section
variable {H : Hp} {V : List Nat} {b : Nat} {tk : Tk} {src : List UInt8}
end
end Go.Proofs.YtgoofldhelffdaaGreatDoor
namespace Go.Proofs.YtgoofldhelffdaaGreatDoor
open Go.Proofs
end Go.Proofs.YtgoofldhelffdaaGreatDoor
namespace Go.Proofs.YtgoofldhelffdaaGreatDoor
def ahead {α : Type} (xs : List α) : Except Nat (List α × List UInt8) → Except Nat (List α × List UInt8)
  | .error e => .error e
  | .ok (l, r) => .ok (xs ++ l, r)
end Go.Proofs.YtgoofldhelffdaaGreatDoor
namespace Go.Proofs.YtgoofldhelffdaaGreatDoor
open Go.Proofs
section
variable {H : Hp} {V : List Nat} {b : Nat} {tk : Tk} {α : Type} {val : α → CV} {Z : CV → Prop}
end
section
variable {H L : Hp} {b k : Nat} {c d : Option (List CV)} {cs : List CV} {K : List CV → Prop}
@[go_sem] theorem hbx_at (h : k = H.length) : hbx (H ++ some cs :: L) k K = K cs := by subst h; exact hbx_new H cs L K
theorem take_set : (H.set b d).take H.length = H.set b d := List.take_of_length_le (by simp)
end
end Go.Proofs.YtgoofldhelffdaaGreatDoor
namespace Go.Proofs.YtgoofldhelffdaaGreatDoor
open Go.Proofs
end Go.Proofs.YtgoofldhelffdaaGreatDoor
namespace Go.Proofs.YtgoofldhelffdaaGreatDoor
open Go.Proofs
end Go.Proofs.YtgoofldhelffdaaGreatDoor
namespace Go.Proofs.YtgoofldhelffdaaGreatDoor
open Go.Proofs
section
variable {H H' : Hp} {V V' : List Nat} {src : List UInt8} {x : Except Nat (Nat × List UInt8)}
end
end Go.Proofs.YtgoofldhelffdaaGreatDoor
namespace Go.Proofs.YtgoofldhelffdaaGreatDoor
open Go.Proofs
end Go.Proofs.YtgoofldhelffdaaGreatDoor
namespace Go.Proofs.YtgoofldhelffdaaGreatDoor
open Go.Proofs
end Go.Proofs.YtgoofldhelffdaaGreatDoor
namespace Go.Proofs.YtgoofldhelffdaaGreatDoor
open Go.Proofs
end Go.Proofs.YtgoofldhelffdaaGreatDoor
namespace Go.Proofs.YtgoofldhelffdaaGreatDoor
open Go.Proofs
end Go.Proofs.YtgoofldhelffdaaGreatDoor
namespace Go.Proofs.YtgoofldhelffdaaGreatDoor
open Go.Proofs
end Go.Proofs.YtgoofldhelffdaaGreatDoor
namespace Go.Proofs.YtgoofldhelffdaaGreatDoor
section
variable {P : Program}
end
end Go.Proofs.YtgoofldhelffdaaGreatDoor
namespace Go.Proofs.YtgoofldhelffdaaGreatDoor
open Go.Proofs
end Go.Proofs.YtgoofldhelffdaaGreatDoor
namespace Go.Proofs.YtgoofldhelffdaaGreatDoor
open Go.Proofs
end Go.Proofs.YtgoofldhelffdaaGreatDoor
namespace Go.Proofs.YtgoofldhelffdaaGreatDoor
open Go.Proofs
end Go.Proofs.YtgoofldhelffdaaGreatDoor
namespace Go.Proofs.YtgoofldhelffdaaGreatDoor
open Go.Proofs
end Go.Proofs.YtgoofldhelffdaaGreatDoor
namespace Go.Proofs.YtgoofldhelffdaaGreatDoor
open Go.Proofs
@[go_sem] theorem inA_v (S : List Nat) (u : Value) : inA S (.v u) = True := rfl
end Go.Proofs.YtgoofldhelffdaaGreatDoor
namespace Go.Proofs.YtgoofldhelffdaaGreatDoor
open Go.Proofs
end Go.Proofs.YtgoofldhelffdaaGreatDoor
namespace Go.Proofs.YtgoofldhelffdaaGreatDoor
open Go.Proofs
end Go.Proofs.YtgoofldhelffdaaGreatDoor
namespace Go.Proofs.YtgoofldhelffdaaGreatDoor
open Go.Proofs
end Go.Proofs.YtgoofldhelffdaaGreatDoor
namespace Go.Proofs.YtgoofldhelffdaaGreatDoor
open Go.Proofs
end Go.Proofs.YtgoofldhelffdaaGreatDoor
namespace Go.Proofs.YtgoofldhelffdaaGreatDoor
open Go.Proofs
theorem LeL.rfl' : ∀ l : List CV, LeL l l
  | [] => .nil
  | c :: l => .cons (.refl c) (LeL.rfl' l)
end Go.Proofs.YtgoofldhelffdaaGreatDoor
namespace Go.Proofs.YtgoofldhelffdaaGreatDoor
open Go.Proofs
end Go.Proofs.YtgoofldhelffdaaGreatDoor
namespace Go.Proofs.YtgoofldhelffdaaGreatDoor
open Go.Proofs
end Go.Proofs.YtgoofldhelffdaaGreatDoor
namespace Go.Proofs.YtgoofldhelffdaaGreatDoor
open Go.Proofs
end Go.Proofs.YtgoofldhelffdaaGreatDoor
namespace Go.Proofs.YtgoofldhelffdaaGreatDoor
open Go.Proofs
end Go.Proofs.YtgoofldhelffdaaGreatDoor
namespace Go.Proofs.YtgoofldhelffdaaGreatDoor
open Go.Proofs
end Go.Proofs.YtgoofldhelffdaaGreatDoor
namespace Go.Proofs.YtgoofldhelffdaaGreatDoor
open Go.Proofs
end Go.Proofs.YtgoofldhelffdaaGreatDoor
namespace Go.Proofs.YtgoofldhelffdaaGreatDoor
open Go.Proofs
end Go.Proofs.YtgoofldhelffdaaGreatDoor
namespace Go.Proofs.YtgoofldhelffdaaGreatDoor
open Go.Proofs
end Go.Proofs.YtgoofldhelffdaaGreatDoor
namespace Go.Proofs.YtgoofldhelffdaaGreatDoor
open Go.Proofs
end Go.Proofs.YtgoofldhelffdaaGreatDoor
namespace Go.Proofs.YtgoofldhelffdaaGreatDoor
open Go.Proofs
theorem Sh.trim0 {n : Nat} {T T' : Tm} {H0 H : Hp} {V0 V V' : List Nat} (h : TLe T T') (hT : TOk H0.length V'.length T') (hokH : ∀ (b : Nat) cs, H0[b]? = some (some cs) → okL H0.length V0.length cs) (hV0 : V0.length ≤ V'.length) (eH : H.take H0.length = H0) (eV : V.take V'.length = V') : Sh n H0.length V0.length T H V (T', H0, V') := by
  have := Sh.trim (n := n) (T := T) (H := H) (L := []) h (by simpa using hT) hokH trivial hV0 (by simpa using eH) eV
  simpa using this
end Go.Proofs.YtgoofldhelffdaaGreatDoor
namespace Go.Proofs.YtgoofldhelffdaaGreatDoor
open Go.Proofs
end Go.Proofs.YtgoofldhelffdaaGreatDoor
namespace Go.Proofs.YtgoofldhelffdaaGreatDoor
open Go.Proofs
end Go.Proofs.YtgoofldhelffdaaGreatDoor
namespace Go.Proofs.YtgoofldhelffdaaGreatDoor
open Go.Proofs
end Go.Proofs.YtgoofldhelffdaaGreatDoor
namespace Go.Proofs.YtgoofldhelffdaaGreatDoor
open Go.Proofs
end Go.Proofs.YtgoofldhelffdaaGreatDoor
namespace Go.Proofs.YtgoofldhelffdaaGreatDoor
open Go.Proofs
end Go.Proofs.YtgoofldhelffdaaGreatDoor
namespace Go.Proofs.YtgoofldhelffdaaGreatDoor
open Go.Proofs
end Go.Proofs.YtgoofldhelffdaaGreatDoor
namespace Go.Proofs.YtgoofldhelffdaaGreatDoor
open Go.Proofs
end Go.Proofs.YtgoofldhelffdaaGreatDoor
namespace Go.Proofs.YtgoofldhelffdaaGreatDoor
open Go.Proofs
end Go.Proofs.YtgoofldhelffdaaGreatDoor
namespace Go.Proofs.YtgoofldhelffdaaGreatDoor
open Go.Proofs
end Go.Proofs.YtgoofldhelffdaaGreatDoor
namespace Go.Proofs.YtgoofldhelffdaaGreatDoor
open Go.Proofs
end Go.Proofs.YtgoofldhelffdaaGreatDoor
namespace Go.Proofs.YtgoofldhelffdaaGreatDoor
open Go.Proofs
end Go.Proofs.YtgoofldhelffdaaGreatDoor
namespace Go.Proofs.YtgoofldhelffdaaGreatDoor
open Go.Proofs
theorem take_hget {H G L : Hp} {n : Nat} (h : G.take (H.length + n) = H ++ L) (k : Nat) (hk : k < n) : G[H.length + k]? = L[k]? := by
  have := congrArg (fun l : Hp => l[H.length + k]?) h
  rw [List.getElem?_take, if_pos (by omega), hget] at this
  exact this
theorem TokL.rfl' (k : Nat) : ∀ cs : List CV, TokL k cs cs
  | [] => trivial
  | c :: cs => ⟨.le (.refl c), TokL.rfl' k cs⟩
theorem TokL.app {k : Nat} {xs ys : List CV} : ∀ {cs ds : List CV}, TokL k cs ds → TokL k xs ys → TokL k (cs ++ xs) (ds ++ ys)
  | [], [], _, h => h
  | c :: cs, d :: ds, h, g => ⟨h.1, TokL.app h.2 g⟩
  | [], _ :: _, h, _ => h.elim
  | _ :: _, [], h, _ => h.elim
theorem set_last (G : Hp) (b : Nat) (c : List CV) : (G.set b none ++ [some c])[G.length]? = some (some c) := by
  rw [List.getElem?_append_right (by simp)]; simp
theorem set_last2 (G : Hp) (b : Nat) (c d : List CV) : (G.set b none ++ [some c]).set G.length (some d) = G.set b none ++ [some d] := by
  rw [List.set_append_right _ _ (by simp)]; simp
theorem Fin.weak {nb nv : Nat} {R : CV → Hp → List Nat → Prop} {r : CV} {H : Hp} {V : List Nat} {b : Nat} {cs ds : List CV} (hb : H[b]? = some (some cs)) (h : LeL cs ds) (hno : ∀ x ∈ cs, x.isObj = false) (hf : Fin nb nv R r (H.set b (some ds)) V) : Fin nb nv R r H V := by
  obtain ⟨r', H', V', g, hR⟩ := hf
  exact ⟨r', H', V', Gst.trans (Gst.weak hb h hno) g, hR⟩
end Go.Proofs.YtgoofldhelffdaaGreatDoor
namespace Go.Proofs.YtgoofldhelffdaaGreatDoor
open Go.Proofs
structure Spn where
  ep : Int
  lo : Int
  hi : Int
def spC (s : Spn) : List CV := [ci s.ep, ci s.lo, ci s.hi]
@[go_sem, simp] theorem spC_len (s : Spn) : (spC s).length = 3 := rfl
@[go_sem, simp] theorem spC_all (s : Spn) : allOne (spC s) = true := rfl
@[go_sem, simp] theorem spC_take (s : Spn) : (spC s).take 3 = spC s := rfl
@[go_sem, simp] theorem spC_drop (s : Spn) : (spC s).drop 3 = [] := rfl
@[go_sem, simp] theorem spC_0 (s : Spn) (h : 0 < (spC s).length) : (spC s)[0] = ci s.ep := rfl
@[go_sem, simp] theorem spC_1 (s : Spn) (h : 1 < (spC s).length) : (spC s)[1] = ci s.lo := rfl
@[go_sem, simp] theorem spC_2 (s : Spn) (h : 2 < (spC s).length) : (spC s)[2] = ci s.hi := rfl
@[go_sem] theorem okL_spC (jb jv : Nat) (s : Spn) : okL jb jv (spC s) = True := by simp [spC, okL, okV]
theorem okE_sps (jb jv : Nat) : ∀ (l : List Spn), okE jb jv (l.map spC)
  | [] => trivial
  | e :: l => by rw [List.map_cons, okE]; exact ⟨by simp [spC, okL, okV], okE_sps jb jv l⟩
theorem okE_bms (jb jv : Nat) : ∀ (l : List Bm), okE jb jv (l.map bmC)
  | [] => trivial
  | e :: l => by rw [List.map_cons, okE]; exact ⟨by rw [okL_bmC]; trivial, okE_bms jb jv l⟩
structure Pt where
  site : Int
  lin : List Spn
  dirty : List Bm
  im : Img
def ptC (p : Pt) : List CV := [ci p.site, .sl .sh 3 (p.lin.map spC), .sl .sh 2 (p.dirty.map bmC), .sl .sh 1 (p.im.map imE)]
@[go_sem, simp] theorem ptC_len (p : Pt) : (ptC p).length = 4 := rfl
@[go_sem, simp] theorem ptC_all (p : Pt) : allOne (ptC p) = true := rfl
@[go_sem, simp] theorem ptC_take (p : Pt) : (ptC p).take 4 = ptC p := rfl
@[go_sem, simp] theorem ptC_drop (p : Pt) : (ptC p).drop 4 = [] := rfl
@[go_sem, simp] theorem ptC_0 (p : Pt) (h : 0 < (ptC p).length) : (ptC p)[0] = ci p.site := rfl
@[go_sem, simp] theorem ptC_1 (p : Pt) (h : 1 < (ptC p).length) : (ptC p)[1] = .sl .sh 3 (p.lin.map spC) := rfl
@[go_sem, simp] theorem ptC_2 (p : Pt) (h : 2 < (ptC p).length) : (ptC p)[2] = .sl .sh 2 (p.dirty.map bmC) := rfl
@[go_sem, simp] theorem ptC_3 (p : Pt) (h : 3 < (ptC p).length) : (ptC p)[3] = .sl .sh 1 (p.im.map imE) := rfl
@[go_sem] theorem okL_ptC (jb jv : Nat) (p : Pt) : okL jb jv (ptC p) = True := by
  simp [ptC, okL, okV, go_sem, okE_sps, okE_bms, okE_ims]
theorem okE_pts (jb jv : Nat) : ∀ (l : List Pt), okE jb jv (l.map ptC)
  | [] => trivial
  | e :: l => by rw [List.map_cons, okE]; exact ⟨by rw [okL_ptC]; trivial, okE_pts jb jv l⟩
def inD (n low : Int) : Bool := decide (low ≤ n) && decide (n ≤ 1073741824)
theorem dIn_cc (H : Hp) (V : List Nat) (n low : Int) : CC Tryz.prog 61 [ci n, ci low] H V (Pu (cb (inD n low)) H V) := by
  refine CC.of_swp Tryz.func61 rfl (by kernel_rfl) (by rw [Tryz.ntmps61]; exact len_le _ _ rfl) fun hok hokH => ?_
  clear hok
  refine SWp.seq (Wp.s ?_)
  simp -implicitDefEqProofs [go_sem, args0]
  by_cases h : low ≤ n
  · refine SWp.seq (Wp.s ?_)
    simp -implicitDefEqProofs [go_sem, h]
    refine Wp.s ?_
    simp -implicitDefEqProofs [go_sem]
    exact Fin.bool (by simp [inD, h]) hokH (by simp) (by simp)
  · refine SWp.seq (Wp.s ?_)
    simp -implicitDefEqProofs [go_sem, h]
    refine Wp.s ?_
    simp -implicitDefEqProofs [go_sem]
    exact Fin.bool (by simp [inD, h]) hokH (by simp) (by simp)
def spZ : Spn := ⟨0, 0, 0⟩
def spAt (l : List Spn) (i : Nat) : Spn := (spZ :: l).getD i spZ
theorem spAt_succ (l : List Spn) (i : Nat) (h : i < l.length) : spAt l (i + 1) = l[i] := by
  simp [spAt, List.getD_eq_getElem?_getD, h]
structure LinOk (l : List Spn) : Prop where
  few : l.length ≤ 1000
  ok : ∀ i (h : i < l.length), l[i].lo = (spAt l i).hi + 1 ∧ l[i].lo ≤ l[i].hi ∧ l[i].hi ≤ 1073741824 ∧ inD l[i].ep 1 = true ∧ (spAt l i).ep < l[i].ep
theorem LinOk.bd {l : List Spn} (h : LinOk l) : ∀ i, i ≤ l.length → 0 ≤ (spAt l i).hi ∧ (spAt l i).hi ≤ 1073741824
  | 0, _ => by simp [spAt, spZ]
  | i + 1, hi => by
    obtain ⟨a, b, c, d, e⟩ := h.ok i (by omega)
    obtain ⟨f, g⟩ := LinOk.bd h i (by omega)
    rw [spAt_succ l i (by omega)]; omega
set_option maxRecDepth 8000 in
theorem correct_cc (H : Hp) (V : List Nat) (l : List Spn) (hl : LinOk l) : CC Tryz.prog 62 [.sl .sh 3 (l.map spC)] H V (Pu (cb true) H V) := by
  refine CC.of_swp Tryz.func62 rfl (by kernel_rfl) (by rw [Tryz.ntmps62]; exact len_le _ _ rfl) fun hok hokH => ?_
  clear hok
  have hfew := hl.few
  refine SWp.seq (Wp.s ?_)
  simp -implicitDefEqProofs [go_sem, args0]
  refine SWp.seq (Wp.s ?_)
  simp -implicitDefEqProofs [go_sem]
  refine SWp.join (α := Unit) (fun _ => ([], H, V)) (fun _ => True) ?_ ?_
  · refine SWp.seq (Wp.s ?_)
    simp -implicitDefEqProofs [go_sem]
    refine SWp.block ?_
    refine SWp.loop (α := Nat) (fun i => ([(3, .ptr H.length 0), (7, .sl .sh 3 (l.map spC)), (8, ci l.length), (9, ci i)], H ++ [some (spC (spAt l i))], V)) (fun i => i ≤ l.length) (fun i => l.length - i) 0 (Nat.zero_le _) (Sh.forget (by simp [go_sem]) (by simp [spAt, spZ, spC]) rfl) ?_
    intro i hi
    dsimp only
    refine SWp.seq (Wp.s ?_)
    simp -implicitDefEqProofs [go_sem]
    refine SWp.seq (Wp.s ?_)
    simp -implicitDefEqProofs [go_sem]
    refine ⟨fun h => ?_, fun h => Sh.trim0 (by simp [go_sem]) (by simp [go_sem]) hokH (Nat.le_refl _) (by simp) (by simp)⟩
    obtain ⟨a, b, c, d, e⟩ := hl.ok i h
    obtain ⟨f, g⟩ := hl.bd i hi
    have w1 : IntKind.i64.wrap ((spAt l i).hi + 1) = l[i].lo := by rw [IntWalk.i64_in _ ⟨by omega, by omega⟩]; omega
    refine SWp.seq (SWp.block (SWp.seq (Wp.s ?_)))
    simp -implicitDefEqProofs [go_sem, h]
    refine SWp.seq (SWp.seq (Wp.s ?_))
    simp -implicitDefEqProofs [go_sem, w1, show ¬ l[i].hi < l[i].lo by omega, show ¬ (1073741824 : Int) < l[i].hi by omega]
    refine CC.mono (dIn_cc _ _ l[i].ep 1) ?_
    rintro _ _ _ ⟨rfl, rfl, rfl⟩
    rw [d]
    simp -implicitDefEqProofs [go_sem, show ¬ l[i].ep ≤ (spAt l i).ep by omega]
    refine Wp.s ?_
    simp -implicitDefEqProofs [go_sem]
    refine Wp.s ?_
    simp -implicitDefEqProofs [go_sem]
    refine Wp.s ?_
    simp -implicitDefEqProofs [go_sem]
    refine ⟨i + 1, by omega, by omega, ?_⟩
    rw [spAt_succ l i h]
    refine Sh.trim (L := [some (spC l[i])]) ?_ (by simp [go_sem, okE_sps]) hokH (by rw [okH_some, okL_spC]; exact ⟨trivial, trivial⟩) (Nat.le_refl _) (by simp) (by simp)
    simp [go_sem, wrap_succ (show i ≤ 1000000000 by omega)]
  rintro _ -
  dsimp only
  refine SWp.seq (Wp.s ?_)
  simp -implicitDefEqProofs [go_sem]
  refine Wp.s ?_
  simp -implicitDefEqProofs [go_sem]
  exact Fin.bool rfl hokH (by simp) (by simp)
structure PtOk (p : Pt) : Prop where
  site : inD p.site 0 = true
  lin : LinOk p.lin
  im : sizesE (imgSz p.im) = 0
  len : p.dirty.length = p.im.length
  dirty : ∀ v (h : v < p.dirty.length) (h2 : v < p.im.length), BmOk p.dirty[v] ∧ p.dirty[v].n = p.im[v].length
  few : p.im.length ≤ 1000
set_option maxRecDepth 8000 in
theorem ptCheck_cc (H : Hp) (V : List Nat) (p : Pt) (hp : PtOk p) : CC Tryz.prog 39 [.agg (ptC p)] H V (Pu (er 0) H V) := by
  refine CC.of_swp Tryz.func39 rfl (by kernel_rfl) (by rw [Tryz.ntmps39]; exact len_le _ _ rfl) fun hok hokH => ?_
  clear hok
  have hfew := hp.few
  have hlen := hp.len
  refine SWp.seq (Wp.s ?_)
  simp -implicitDefEqProofs [go_sem, args0]
  refine SWp.seq (SWp.block (SWp.seq (Wp.s ?_)))
  simp -implicitDefEqProofs [go_sem]
  refine CC.mono (dIn_cc _ _ p.site 0) ?_
  rintro _ _ _ ⟨rfl, rfl, rfl⟩
  rw [hp.site]
  simp -implicitDefEqProofs [go_sem]
  refine Wp.s ?_
  simp -implicitDefEqProofs [go_sem]
  refine CC.mono (correct_cc _ _ p.lin hp.lin) ?_
  rintro _ _ _ ⟨rfl, rfl, rfl⟩
  simp -implicitDefEqProofs [go_sem]
  refine SWp.seq (SWp.seq (Wp.s ?_))
  simp -implicitDefEqProofs [go_sem]
  refine CC.mono (iCheck_cc _ _ .sh p.im (by omega)) ?_
  rintro _ _ _ ⟨rfl, rfl, rfl⟩
  rw [hp.im]
  simp -implicitDefEqProofs [go_sem]
  refine Wp.s ?_
  simp -implicitDefEqProofs [go_sem]
  refine SWp.seq (SWp.seq (Wp.s ?_))
  simp -implicitDefEqProofs [go_sem, show ((p.dirty.length : Nat) : Int) = p.im.length by omega, hlen]
  refine Wp.s ?_
  simp -implicitDefEqProofs [go_sem]
  refine SWp.join (α := Unit) (fun _ => ([], H, V)) (fun _ => True) ?_ ?_
  · refine SWp.seq (Wp.s ?_)
    simp -implicitDefEqProofs [go_sem]
    refine SWp.block ?_
    refine SWp.loop (α := Nat) (fun i => ([(1, .ptr H.length 0), (31, .sl .sh 2 (p.dirty.map bmC)), (32, ci p.im.length), (33, ci i)], H ++ [some (ptC p)], V)) (fun i => i ≤ p.im.length) (fun i => p.im.length - i) 0 (Nat.zero_le _) (Sh.forget (by simp [go_sem, hlen]) rfl rfl) ?_
    intro i hi
    dsimp only
    refine SWp.seq (Wp.s ?_)
    simp -implicitDefEqProofs [go_sem]
    refine SWp.seq (Wp.s ?_)
    simp -implicitDefEqProofs [go_sem]
    refine ⟨fun h => ?_, fun h => Sh.trim0 (by simp [go_sem]) (by simp [go_sem]) hokH (Nat.le_refl _) (by simp) (by simp)⟩
    have h2 : i < p.dirty.length := by omega
    obtain ⟨d1, d2⟩ := hp.dirty i h2 h
    refine SWp.seq (SWp.block (SWp.seq (Wp.s ?_)))
    simp -implicitDefEqProofs [go_sem, h2, h]
    refine SWp.seq (SWp.seq (Wp.s ?_))
    simp -implicitDefEqProofs [go_sem]
    refine CC.mono (bmCheck_cc _ _ p.dirty[i] d1) ?_
    rintro _ _ _ ⟨rfl, rfl, rfl⟩
    simp -implicitDefEqProofs [go_sem]
    refine Wp.s ?_
    simp -implicitDefEqProofs [go_sem]
    refine SWp.seq (SWp.drawnT [] [] (.s 0 .pl <| .s 1 .pl <| .s 2 .pl <| .s 3 .pl <| .s 4 .pl <| .s 5 .pl <| .s 6 .pl <| .s 7 .pl <| .s 8 .pl <| .n) (by kernel_rfl) (by kernel_rfl) ?_)
    simp -implicitDefEqProofs [go_sem, h, d2]
    refine Wp.s ?_
    simp -implicitDefEqProofs [go_sem]
    refine Wp.s ?_
    simp -implicitDefEqProofs [go_sem]
    refine ⟨i + 1, by omega, by omega, ?_⟩
    refine Sh.trim (L := [some (ptC p)]) ?_ (by simp [go_sem, okE_bms]) hokH (by rw [okH_some, okL_ptC]; exact ⟨trivial, trivial⟩) (Nat.le_refl _) (by simp) (by simp)
    simp [go_sem, wrap_succ (show i ≤ 1000000000 by omega)]
  rintro _ -
  dsimp only
  refine SWp.seq (Wp.s ?_)
  simp -implicitDefEqProofs [go_sem]
  refine Wp.s ?_
  simp -implicitDefEqProofs [go_sem]
  exact Fin.er rfl hokH (by simp) (by simp)
theorem alike1_cc (H : Hp) (V : List Nat) (x y : List Sec) (h : x.length = y.length) : CC Tryz.prog 64 [secsV x, secsV y] H V (Pu (cb true) H V) := by
  refine CC.of_swp Tryz.func64 rfl (by kernel_rfl) (by rw [Tryz.ntmps64]; exact len_le _ _ rfl) fun hok hokH => ?_
  clear hok
  refine SWp.seq (Wp.s ?_)
  simp -implicitDefEqProofs [go_sem, args0]
  refine SWp.seq (Wp.s ?_)
  simp -implicitDefEqProofs [go_sem, h]
  refine Wp.s ?_
  simp -implicitDefEqProofs [go_sem]
  exact Fin.bool rfl hokH (by simp) (by simp)
theorem eqAl_cc (H : Hp) (V : List Nat) (t1 t2 : Tk) (x y : Img) (hl : x.length ≤ 1000) (he : x.map List.length = y.map List.length) : CC Tryz.prog 63 [.sl t1 1 (x.map imE), .sl t2 1 (y.map imE), .fn 64 []] H V (Pu (cb true) H V) := by
  refine CC.of_swp Tryz.func63 rfl (by kernel_rfl) (by rw [Tryz.ntmps63]; exact len_le _ _ rfl) fun hok hokH => ?_
  clear hok
  have hlen : x.length = y.length := by simpa using congrArg List.length he
  refine SWp.seq (Wp.s ?_)
  simp -implicitDefEqProofs [go_sem, args0]
  refine SWp.seq (SWp.seq (Wp.s ?_))
  simp -implicitDefEqProofs [go_sem, hlen]
  refine Wp.s ?_
  simp -implicitDefEqProofs [go_sem, hlen]
  refine SWp.join (α := Unit) (fun _ => ([], H, V)) (fun _ => True) ?_ ?_
  · refine SWp.seq (Wp.s ?_)
    simp -implicitDefEqProofs [go_sem]
    refine SWp.block ?_
    refine SWp.loop (α := Nat) (fun i => ([(1, .sl t2 1 (y.map imE)), (2, .fn 64 []), (15, .sl t1 1 (x.map imE)), (16, ci x.length), (17, ci i)], H, V)) (fun i => i ≤ x.length) (fun i => x.length - i) 0 (Nat.zero_le _) (Sh.forget (by simp [go_sem, hlen]) rfl rfl) ?_
    rintro i hi
    dsimp only
    refine SWp.seq (Wp.s ?_)
    simp -implicitDefEqProofs [go_sem]
    refine SWp.seq (Wp.s ?_)
    simp -implicitDefEqProofs [go_sem]
    refine ⟨fun h => ?_, fun h => Sh.forget (by simp [go_sem]) rfl rfl⟩
    have h2 : i < y.length := by omega
    have he1 : x[i].length = y[i].length := by
      have := congrArg (fun l : List Nat => l[i]?) he
      simpa [h, h2] using this
    refine SWp.seq (SWp.block (SWp.seq (Wp.s ?_)))
    simp -implicitDefEqProofs [go_sem, h]
    refine SWp.seq (Wp.s ?_)
    simp -implicitDefEqProofs [go_sem, h2]
    refine SWp.seq (Wp.s ?_)
    simp -implicitDefEqProofs [go_sem]
    refine CC.mono (alike1_cc _ _ x[i] y[i] he1) ?_
    rintro _ _ _ ⟨rfl, rfl, rfl⟩
    simp -implicitDefEqProofs [go_sem]
    refine Wp.s ?_
    simp -implicitDefEqProofs [go_sem]
    refine Wp.s ?_
    simp -implicitDefEqProofs [go_sem]
    refine ⟨i + 1, by omega, by omega, Sh.forget ?_ rfl rfl⟩
    simp [go_sem, wrap_succ (show i ≤ 1000000000 by omega)]
  · rintro _ -
    dsimp only
    refine Wp.s ?_
    simp -implicitDefEqProofs [go_sem]
    exact Fin.bool rfl hokH (by simp) (by simp)
theorem alike_cc (H : Hp) (V : List Nat) (t1 t2 : Tk) (x y : Img) (hl : x.length ≤ 1000) (he : x.map List.length = y.map List.length) : CC Tryz.prog 40 [.sl t1 1 (x.map imE), .sl t2 1 (y.map imE)] H V (Pu (cb true) H V) := by
  refine CC.of_swp Tryz.func40 rfl (by kernel_rfl) (by rw [Tryz.ntmps40]; exact len_le _ _ rfl) fun hok hokH => ?_
  clear hok
  refine SWp.seq (Wp.s ?_)
  simp -implicitDefEqProofs [go_sem, args0]
  refine SWp.seq (Wp.s ?_)
  simp -implicitDefEqProofs [go_sem]
  refine CC.mono (eqAl_cc _ _ t1 t2 x y hl he) ?_
  rintro _ _ _ ⟨rfl, rfl, rfl⟩
  simp -implicitDefEqProofs [go_sem]
  refine Wp.s ?_
  simp -implicitDefEqProofs [go_sem]
  exact Fin.bool rfl hokH (by simp) (by simp)
structure PtsOk (l : List Pt) (z : List Nat) : Prop where
  lo : 1 ≤ l.length
  hi : l.length ≤ 4
  ok : ∀ p ∈ l, PtOk p
  sz : ∀ p ∈ l, p.im.map List.length = z
theorem fit_cc (H : Hp) (V : List Nat) (l : List Pt) (z : List Nat) (hl : PtsOk l z) : CC Tryz.prog 18 [.sl .sh 4 (l.map ptC)] H V (Pu (er 0) H V) := by
  refine CC.of_swp Tryz.func18 rfl (by kernel_rfl) (by rw [Tryz.ntmps18]; exact len_le _ _ rfl) fun hok hokH => ?_
  clear hok
  have h1 := hl.lo
  have h4 := hl.hi
  refine SWp.seq (Wp.s ?_)
  simp -implicitDefEqProofs [go_sem, args0]
  refine SWp.join (α := Unit) (fun _ => ([(0, .sl .sh 4 (l.map ptC)), (2, .any)], H, V)) (fun _ => True) ?_ ?_
  · refine SWp.seq (Wp.s ?_)
    simp -implicitDefEqProofs [go_sem]
    refine SWp.block ?_
    refine SWp.loop (α := Nat) (fun i => ([(0, .sl .sh 4 (l.map ptC)), (2, .any), (8, .sl .sh 4 (l.map ptC)), (9, ci l.length), (10, ci i)], H, V)) (fun i => i ≤ l.length) (fun i => l.length - i) 0 (Nat.zero_le _) (Sh.forget (by simp [go_sem]) rfl rfl) ?_
    intro i hi
    dsimp only
    refine SWp.seq (Wp.s ?_)
    simp -implicitDefEqProofs [go_sem]
    refine SWp.seq (Wp.s ?_)
    simp -implicitDefEqProofs [go_sem]
    refine ⟨fun h => ?_, fun h => Sh.forget (by simp [go_sem]) rfl rfl⟩
    refine SWp.seq (SWp.block (SWp.seq (Wp.s ?_)))
    simp -implicitDefEqProofs [go_sem, h]
    refine SWp.seq (Wp.s ?_)
    simp -implicitDefEqProofs [go_sem]
    refine CC.mono (ptCheck_cc _ _ l[i] (hl.ok _ (List.getElem_mem h))) ?_
    rintro _ _ _ ⟨rfl, rfl, rfl⟩
    simp -implicitDefEqProofs [go_sem]
    refine Wp.s ?_
    simp -implicitDefEqProofs [go_sem]
    refine Wp.s ?_
    simp -implicitDefEqProofs [go_sem]
    refine ⟨i + 1, by omega, by omega, ?_⟩
    refine Sh.trim0 ?_ (by simp [go_sem, okE_pts]) hokH (Nat.le_refl _) (by simp) (by simp)
    simp [go_sem, wrap_succ (show i ≤ 1000000000 by omega)]
  rintro _ -
  dsimp only
  refine SWp.seq (SWp.seq (Wp.s ?_))
  simp -implicitDefEqProofs [go_sem, show ¬ (l.length : Int) < 1 by omega, show ¬ (4 : Int) < l.length by omega, show ¬ l.length < 1 by omega, show ¬ 4 < l.length by omega]
  refine Wp.s ?_
  simp -implicitDefEqProofs [go_sem]
  refine SWp.join (α := Unit) (fun _ => ([], H, V)) (fun _ => True) ?_ ?_
  · refine SWp.seq (Wp.s ?_)
    simp -implicitDefEqProofs [go_sem]
    refine SWp.block ?_
    refine SWp.loop (α := Nat) (fun i => ([(0, .sl .sh 4 (l.map ptC)), (28, .sl .sh 4 (l.map ptC)), (29, ci l.length), (30, ci i)], H, V)) (fun i => i ≤ l.length) (fun i => l.length - i) 0 (Nat.zero_le _) (Sh.forget (by simp [go_sem]) rfl rfl) ?_
    intro i hi
    dsimp only
    refine SWp.seq (Wp.s ?_)
    simp -implicitDefEqProofs [go_sem]
    refine SWp.seq (Wp.s ?_)
    simp -implicitDefEqProofs [go_sem]
    refine ⟨fun h => ?_, fun h => Sh.forget (by simp [go_sem]) rfl rfl⟩
    have h00 : 0 < l.length := by omega
    refine SWp.seq (SWp.block (SWp.seq (Wp.s ?_)))
    simp -implicitDefEqProofs [go_sem, h]
    refine SWp.seq (SWp.drawnT [] [] (.s 0 .pl <| .s 1 .pl <| .s 2 .pl <| .s 3 .pl <| .s 4 .pl <| .s 5 .pl <| .s 6 .pl <| .s 7 .pl <| .n) (by kernel_rfl) (by kernel_rfl) ?_)
    simp -implicitDefEqProofs [go_sem, h00]
    refine CC.mono (alike_cc _ _ .sh .sh l[i].im l[0].im (hl.ok _ (List.getElem_mem h)).few ((hl.sz _ (List.getElem_mem h)).trans (hl.sz _ (List.getElem_mem h00)).symm)) ?_
    rintro _ _ _ ⟨rfl, rfl, rfl⟩
    simp -implicitDefEqProofs [go_sem]
    refine Wp.s ?_
    simp -implicitDefEqProofs [go_sem]
    refine Wp.s ?_
    simp -implicitDefEqProofs [go_sem]
    refine ⟨i + 1, by omega, by omega, ?_⟩
    refine Sh.trim0 ?_ (by simp [go_sem, okE_pts]) hokH (Nat.le_refl _) (by simp) (by simp)
    simp [go_sem, wrap_succ (show i ≤ 1000000000 by omega)]
  rintro _ -
  dsimp only
  refine SWp.seq (Wp.s ?_)
  simp -implicitDefEqProofs [go_sem]
  refine Wp.s ?_
  simp -implicitDefEqProofs [go_sem]
  exact Fin.er rfl hokH (by simp) (by simp)
end Go.Proofs.YtgoofldhelffdaaGreatDoor
namespace Go.Proofs.YtgoofldhelffdaaGreatDoor
open Go.Proofs
def IntR (Q : Int → Prop) (H : Hp) (V : List Nat) : CV → Hp → List Nat → Prop := fun r H' V' => (∃ k : Int, r = ci k ∧ Q k) ∧ H = H' ∧ V = V'
theorem Fin.intR {Q : Int → Prop} {H H' : Hp} {V V' : List Nat} {k : Int} (hQ : Q k) (hokH : ∀ (b : Nat) cs, H[b]? = some (some cs) → okL H.length V.length cs) (hH : H'.take H.length = H) (hV : V'.take V.length = V) : Fin H.length V.length (IntR Q H V) (ci k) H' V' :=
  Fin.cut H.length V.length ⟨⟨_, rfl, hQ⟩, rfl, rfl⟩ (Nat.le_refl _) (Nat.le_refl _) hH hV (.refl _) (by simp [go_sem]) hokH
def CmpQ (x y : Int) (k : Int) : Prop := (0 < k ↔ y < x) ∧ (k = 0 ↔ x = y)
def lexLe (a b : Int × Int) : Prop := a.1 < b.1 ∨ (a.1 = b.1 ∧ a.2 ≤ b.2)
def LexQ (a b : Int × Int) (k : Int) : Prop := 0 < k ↔ ¬ lexLe a b
theorem lexLe.trans {a b c : Int × Int} (h : lexLe a b) (g : lexLe b c) : lexLe a c := by
  simp only [lexLe] at *; omega
theorem lexLe.refl (a : Int × Int) : lexLe a a := .inr ⟨rfl, Int.le_refl _⟩
theorem lexLe.of_not {a b : Int × Int} (h : ¬ lexLe a b) : lexLe b a := by
  simp only [lexLe] at *; omega
def hdF (l : List Spn) : Int × Int :=
  match l.getLast? with
  | none => (0, 0)
  | some s => (s.ep, s.hi)
def i2C (p : Int × Int) : List CV := [ci p.1, ci p.2]
@[go_sem, simp] theorem i2C_len (p : Int × Int) : (i2C p).length = 2 := rfl
@[go_sem, simp] theorem i2C_all (p : Int × Int) : allOne (i2C p) = true := rfl
@[go_sem, simp] theorem i2C_take (p : Int × Int) : (i2C p).take 2 = i2C p := rfl
@[go_sem, simp] theorem i2C_drop (p : Int × Int) : (i2C p).drop 2 = [] := rfl
@[go_sem] theorem okL_i2C (jb jv : Nat) (p : Int × Int) : okL jb jv (i2C p) = True := by simp [i2C, okL, okV]
theorem head_cc (H : Hp) (V : List Nat) (l : List Spn) (hl : l.length ≤ 1000) : CC Tryz.prog 22 [.sl .sh 3 (l.map spC)] H V (Pu (.agg (i2C (hdF l))) H V) := by
  refine CC.of_swp Tryz.func22 rfl (by kernel_rfl) (by rw [Tryz.ntmps22]; exact len_le _ _ rfl) fun hok hokH => ?_
  clear hok
  refine SWp.seq (Wp.s ?_)
  simp -implicitDefEqProofs [go_sem, args0]
  refine SWp.seq (SWp.seq (Wp.s ?_))
  rcases List.eq_nil_or_concat l with rfl | ⟨l0, e, rfl⟩
  · simp -implicitDefEqProofs [go_sem]
    refine Wp.s ?_
    simp -implicitDefEqProofs [go_sem]
    exact Fin.pu (.refl _) (by simp [go_sem]) hokH (by simp) (by simp)
  · rw [List.concat_eq_append] at hl ⊢
    have h0 : (l0 ++ [e]).length = l0.length + 1 := by simp
    have hh : hdF (l0 ++ [e]) = (e.ep, e.hi) := by simp [hdF]
    have hg : ∀ (h : l0.length < (l0 ++ [e]).length), (l0 ++ [e])[l0.length] = e := fun h => by simp
    rw [hh]
    generalize l0 ++ [e] = l at h0 hg hl ⊢
    have w1 : IntKind.i64.wrap ((l.length : Int) - 1) = (l0.length : Int) := by rw [IntWalk.i64_in _ ⟨by omega, by omega⟩]; omega
    have hne : ¬ l.length = 0 := by omega
    have hne' : ¬ (l.length : Int) = 0 := by omega
    have hlt : l0.length < l.length := by omega
    simp -implicitDefEqProofs [go_sem, hne, hne']
    refine Wp.s ?_
    simp -implicitDefEqProofs [go_sem]
    refine SWp.seq (Wp.s ?_)
    simp -implicitDefEqProofs [go_sem, w1, hlt, hg]
    refine SWp.seq (Wp.s ?_)
    simp -implicitDefEqProofs [go_sem]
    refine Wp.s ?_
    simp -implicitDefEqProofs [go_sem]
    exact Fin.pu (.refl _) (by simp [go_sem]) hokH (by simp) (by simp)
theorem isNaN_cc (H : Hp) (V : List Nat) (x : Int) : CC Tryz.prog 65 [ci x] H V (Pu (cb false) H V) := by
  refine CC.of_swp Tryz.func65 rfl (by kernel_rfl) (by rw [Tryz.ntmps65]; exact len_le _ _ rfl) fun hok hokH => ?_
  clear hok
  refine SWp.seq (Wp.s ?_)
  simp -implicitDefEqProofs [go_sem, args0]
  refine SWp.seq (Wp.s ?_)
  simp -implicitDefEqProofs [go_sem]
  refine Wp.s ?_
  simp -implicitDefEqProofs [go_sem]
  exact Fin.bool rfl hokH (by simp) (by simp)
theorem cmp_cc (H : Hp) (V : List Nat) (x y : Int) : CC Tryz.prog 41 [ci x, ci y] H V (IntR (CmpQ x y) H V) := by
  refine CC.of_swp Tryz.func41 rfl (by kernel_rfl) (by rw [Tryz.ntmps41]; exact len_le _ _ rfl) fun hok hokH => ?_
  clear hok
  refine SWp.seq (Wp.s ?_)
  simp -implicitDefEqProofs [go_sem, args0]
  refine SWp.seq (Wp.s ?_)
  simp -implicitDefEqProofs [go_sem]
  refine CC.mono (isNaN_cc _ _ x) ?_
  rintro _ _ _ ⟨rfl, rfl, rfl⟩
  simp -implicitDefEqProofs [go_sem]
  refine SWp.seq (Wp.s ?_)
  simp -implicitDefEqProofs [go_sem]
  refine CC.mono (isNaN_cc _ _ y) ?_
  rintro _ _ _ ⟨rfl, rfl, rfl⟩
  simp -implicitDefEqProofs [go_sem]
  refine SWp.seq (SWp.seq (Wp.s ?_))
  simp -implicitDefEqProofs [go_sem]
  refine Wp.s ?_
  simp -implicitDefEqProofs [go_sem]
  refine SWp.seq (SWp.seq (Wp.s ?_))
  simp -implicitDefEqProofs [go_sem]
  refine Wp.s ?_
  simp -implicitDefEqProofs [go_sem]
  refine SWp.seq (SWp.seq (Wp.s ?_))
  by_cases h1 : x < y
  · simp -implicitDefEqProofs [go_sem, h1]
    refine Wp.s ?_
    simp -implicitDefEqProofs [go_sem]
    refine Fin.intR ?_ hokH (by simp) (by simp)
    refine ⟨⟨fun q => ?_, fun q => ?_⟩, fun q => ?_, fun q => ?_⟩ <;> omega
  · simp -implicitDefEqProofs [go_sem, h1]
    refine Wp.s ?_
    simp -implicitDefEqProofs [go_sem]
    refine SWp.seq (SWp.seq (Wp.s ?_))
    by_cases h2 : y < x
    · simp -implicitDefEqProofs [go_sem, h2]
      refine Wp.s ?_
      simp -implicitDefEqProofs [go_sem]
      refine Fin.intR ?_ hokH (by simp) (by simp)
      refine ⟨⟨fun q => ?_, fun q => ?_⟩, fun q => ?_, fun q => ?_⟩ <;> omega
    · simp -implicitDefEqProofs [go_sem, h2]
      refine Wp.s ?_
      simp -implicitDefEqProofs [go_sem]
      refine SWp.seq (Wp.s ?_)
      simp -implicitDefEqProofs [go_sem]
      refine Wp.s ?_
      simp -implicitDefEqProofs [go_sem]
      refine Fin.intR ?_ hokH (by simp) (by simp)
      refine ⟨⟨fun q => ?_, fun q => ?_⟩, fun q => ?_, fun q => ?_⟩ <;> omega
theorem compare_cc (H : Hp) (V : List Nat) (b1 b2 : Nat) (x0 x1 y0 y1 : Int) (h1 : H[b1]? = some (some [ci x0, ci x1])) (h2 : H[b2]? = some (some [ci y0, ci y1])) : CC Tryz.prog 23 [.bsl b1 0 2 1, .bsl b2 0 2 1] H V (IntR (LexQ (x0, x1) (y0, y1)) H V) := by
  refine CC.of_swp Tryz.func23 rfl (by kernel_rfl) (by rw [Tryz.ntmps23]; exact len_le _ _ rfl) fun hok hokH => ?_
  clear hok
  have l1 := (List.getElem?_eq_some_iff.1 h1).1
  have l2 := (List.getElem?_eq_some_iff.1 h2).1
  refine SWp.seq (Wp.s ?_)
  simp -implicitDefEqProofs [go_sem, args0]
  refine SWp.join (α := Unit) (fun _ => ([(0, .bsl b1 0 2 1), (1, .bsl b2 0 2 1)], H, V)) (fun _ => x0 = y0 ∧ x1 = y1) ?_ ?_
  · refine SWp.seq (Wp.s ?_)
    simp -implicitDefEqProofs [go_sem]
    refine SWp.block ?_
    refine SWp.loop (α := Nat) (fun i => ([(0, .bsl b1 0 2 1), (1, .bsl b2 0 2 1), (9, .bsl b1 0 2 1), (10, ci 2), (11, ci i)], H, V)) (fun i => i ≤ 2 ∧ (1 ≤ i → x0 = y0) ∧ (2 ≤ i → x1 = y1)) (fun i => 2 - i) 0 ⟨Nat.zero_le _, fun h => by omega, fun h => by omega⟩ (Sh.forget (by simp [go_sem]) rfl rfl) ?_
    rintro i ⟨hi, h5, h6⟩
    dsimp only
    have key : ∀ (k : Int), LexQ (x0, x1) (y0, y1) k → Fin H.length V.length (IntR (LexQ (x0, x1) (y0, y1)) H V) (ci k) H V := fun k hk => Fin.intR hk hokH (by simp) (by simp)
    rcases (show i = 2 ∨ i = 1 ∨ i = 0 by omega) with rfl | rfl | rfl
    · refine SWp.seq (Wp.s ?_)
      simp -implicitDefEqProofs [go_sem]
      refine SWp.seq (Wp.s ?_)
      simp -implicitDefEqProofs [go_sem]
      exact ⟨⟨h5 (by decide), h6 (by decide)⟩, Sh.forget (by simp [go_sem]) rfl rfl⟩
    · refine SWp.seq (Wp.s ?_)
      simp -implicitDefEqProofs [go_sem]
      refine SWp.seq (Wp.s ?_)
      simp -implicitDefEqProofs [go_sem]
      refine SWp.seq (SWp.block (SWp.seq (Wp.s ?_)))
      simp -implicitDefEqProofs [go_sem, hbx_of h1]
      refine SWp.seq (SWp.seq (Wp.s ?_))
      simp -implicitDefEqProofs [go_sem]
      refine Wp.s ?_
      simp -implicitDefEqProofs [go_sem]
      refine SWp.seq (Wp.s ?_)
      simp -implicitDefEqProofs [go_sem, hbx_of h2]
      refine SWp.seq (Wp.s ?_)
      simp -implicitDefEqProofs [go_sem]
      refine CC.mono (cmp_cc _ _ x1 y1) ?_
      rintro _ _ _ ⟨⟨k, rfl, q1, q2⟩, rfl, rfl⟩
      simp -implicitDefEqProofs [go_sem]
      refine SWp.seq (Wp.s ?_)
      by_cases hk : k = 0
      · simp -implicitDefEqProofs [go_sem, hk]
        refine Wp.s ?_
        simp -implicitDefEqProofs [go_sem]
        refine Wp.s ?_
        simp -implicitDefEqProofs [go_sem]
        refine ⟨2, ⟨by omega, fun _ => h5 (by decide), fun _ => q2.1 hk⟩, by omega, Sh.forget ?_ rfl rfl⟩
        simp [go_sem]
        rw [show IntKind.i64.wrap (2 : Int) = 2 from rfl]
        exact .refl _
      · simp -implicitDefEqProofs [go_sem, hk]
        refine Wp.s ?_
        simp -implicitDefEqProofs [go_sem]
        exact key _ (by have h5' := h5 (by decide); simp only [LexQ, lexLe]; omega)
    · refine SWp.seq (Wp.s ?_)
      simp -implicitDefEqProofs [go_sem]
      refine SWp.seq (Wp.s ?_)
      simp -implicitDefEqProofs [go_sem]
      refine SWp.seq (SWp.block (SWp.seq (Wp.s ?_)))
      simp -implicitDefEqProofs [go_sem, hbx_of h1]
      refine SWp.seq (SWp.seq (Wp.s ?_))
      simp -implicitDefEqProofs [go_sem]
      refine Wp.s ?_
      simp -implicitDefEqProofs [go_sem]
      refine SWp.seq (Wp.s ?_)
      simp -implicitDefEqProofs [go_sem, hbx_of h2]
      refine SWp.seq (Wp.s ?_)
      simp -implicitDefEqProofs [go_sem]
      refine CC.mono (cmp_cc _ _ x0 y0) ?_
      rintro _ _ _ ⟨⟨k, rfl, q1, q2⟩, rfl, rfl⟩
      simp -implicitDefEqProofs [go_sem]
      refine SWp.seq (Wp.s ?_)
      by_cases hk : k = 0
      · simp -implicitDefEqProofs [go_sem, hk]
        refine Wp.s ?_
        simp -implicitDefEqProofs [go_sem]
        refine Wp.s ?_
        simp -implicitDefEqProofs [go_sem]
        refine ⟨1, ⟨by omega, fun _ => q2.1 hk, fun q => by omega⟩, by omega, Sh.forget ?_ rfl rfl⟩
        simp [go_sem]
        rw [show IntKind.i64.wrap (1 : Int) = 1 from rfl]
        exact .refl _
      · simp -implicitDefEqProofs [go_sem, hk]
        refine Wp.s ?_
        simp -implicitDefEqProofs [go_sem]
        exact key _ (by have h5' := h5; simp only [LexQ, lexLe]; omega)
  rintro _ ⟨r1, r2⟩
  dsimp only
  refine SWp.seq (SWp.seq (Wp.s ?_))
  simp -implicitDefEqProofs [go_sem]
  refine Wp.s ?_
  simp -implicitDefEqProofs [go_sem]
  refine SWp.seq (Wp.s ?_)
  simp -implicitDefEqProofs [go_sem]
  refine Wp.s ?_
  simp -implicitDefEqProofs [go_sem]
  exact Fin.intR (by simp only [LexQ, lexLe]; omega) hokH (by simp) (by simp)
def boL (b : Bool) : List CV := [cb b]
theorem choose1_cc (H : Hp) (V : List Nat) (b : Nat) (l : List Bool) (i : Nat) (hb : H[b]? = some (some [.sl .sh 1 (l.map boL)])) (hi : i < l.length) : CC Tryz.prog 20 [ci i, .ptr b 0] H V (Pu (cb (!l[i])) H V) := by
  refine CC.of_swp Tryz.func20 rfl (by kernel_rfl) (by rw [Tryz.ntmps20]; exact len_le _ _ rfl) fun hok hokH => ?_
  clear hok
  refine SWp.seq (Wp.s ?_)
  simp -implicitDefEqProofs [go_sem, args0]
  refine SWp.seq (Wp.s ?_)
  simp -implicitDefEqProofs [go_sem, hbx_of hb, hi, boL]
  refine Wp.s ?_
  simp -implicitDefEqProofs [go_sem]
  exact Fin.bool rfl hokH (by simp) (by simp)
theorem Kp_one (H L L' : Hp) (k : Nat) (h : L[k]? = L'[k]?) : Kp [H.length + k] (H ++ L) (H ++ L') := Kp.keep fun b hb => by
  obtain rfl : b = H.length + k := by simpa using hb
  rw [hget, hget, h]
theorem choose2_cc (H : Hp) (V : List Nat) (p q : Pt) (hp : p.lin.length ≤ 1000) (hq : q.lin.length ≤ 1000) : CC Tryz.prog 21 [.agg (ptC p), .agg (ptC q)] H V (IntR (LexQ (hdF p.lin) (hdF q.lin)) H V) := by
  refine CC.of_swp Tryz.func21 rfl (by kernel_rfl) (by rw [Tryz.ntmps21]; exact len_le _ _ rfl) fun hok hokH => ?_
  clear hok
  refine SWp.seq (Wp.s ?_)
  simp -implicitDefEqProofs [go_sem, args0]
  refine SWp.seq (SWp.drawnT [H.length + 1] [8, 9] (.s 0 .pl <| .s 1 .pl <| .c 2 <| .s 3 .pl <| .s 4 .ld <| .c 5 <| .f 6 .pl (.s 7 .pl <| .s 8 .st <| .s 9 .st <| .n) 7 .pl (.s 6 .pl <| .s 8 .st <| .s 9 .st <| .n)) (by kernel_rfl) (by kernel_rfl) ?_)
  simp -implicitDefEqProofs [go_sem]
  refine ⟨.agg (i2C (hdF p.lin)), fun H V => head_cc H V p.lin hp, ?_⟩
  simp -implicitDefEqProofs [go_sem]
  refine ⟨.agg (i2C (hdF q.lin)), fun H V => head_cc H V q.lin hq, ?_⟩
  simp -implicitDefEqProofs [go_sem]
  have hi : ∀ p : Int × Int, i2C p = [ci p.1, ci p.2] := fun _ => rfl
  refine ⟨⟨Kp_one _ _ _ 1 rfl, Kp_one _ _ _ 1 rfl, ?_⟩, Kp_one _ _ _ 1 rfl, Kp_one _ _ _ 1 rfl, ?_⟩
  all_goals
    refine SWp.seq (SWp.drawnT [] [] (.s 0 .pl <| .s 1 .pl <| .s 2 .pl <| .s 3 .pl <| .n) (by kernel_rfl) (by kernel_rfl) ?_)
    simp -implicitDefEqProofs [go_sem]
    refine CC.mono (compare_cc _ _ _ _ _ _ _ _ (hget _ _ _) (hget _ _ _)) ?_
    rintro _ _ _ ⟨⟨k, rfl, hk⟩, rfl, rfl⟩
    simp -implicitDefEqProofs [go_sem]
    refine Wp.s ?_
    simp -implicitDefEqProofs [go_sem]
    exact Fin.intR hk hokH (by simp) (by simp)
end Go.Proofs.YtgoofldhelffdaaGreatDoor
namespace Go.Proofs.YtgoofldhelffdaaGreatDoor
open Go.Proofs
def Best (l : List Pt) (lost : List Bool) (i : Nat) (k : Int) : Prop := (k = -1 ∧ ∀ j, j < i → lost[j]? = some true) ∨ ∃ j : Nat, k = j ∧ j < i ∧ lost[j]? = some false ∧ ∃ p, l[j]? = some p ∧ ∀ j' q, j' < i → lost[j']? = some false → l[j']? = some q → lexLe (hdF q.lin) (hdF p.lin)
def BestR (l : List Pt) (lost : List Bool) (H : Hp) (V : List Nat) : CV → Hp → List Nat → Prop := fun r H' V' => (∃ k : Int, r = ci k ∧ Best l lost lost.length k) ∧ H = H' ∧ V = V'
theorem greatest_cc (H : Hp) (V : List Nat) (b : Nat) (l : List Pt) (lost : List Bool) (hb : H[b]? = some (some [.sl .sh 1 (lost.map boL)])) (hlen : lost.length = l.length) (hn : l.length ≤ 1000) (hl : ∀ p ∈ l, p.lin.length ≤ 1000) : CC Tryz.prog 19 [.sl .sh 4 (l.map ptC), .fn 20 [.ptr b 0], .fn 21 []] H V (BestR l lost H V) := by
  refine CC.of_swp Tryz.func19 rfl (by kernel_rfl) (by rw [Tryz.ntmps19]; exact len_le _ _ rfl) fun hok hokH => ?_
  clear hok
  have hbl := (List.getElem?_eq_some_iff.1 hb).1
  refine SWp.seq (Wp.s ?_)
  simp -implicitDefEqProofs [go_sem, args0]
  refine SWp.seq (Wp.s ?_)
  simp -implicitDefEqProofs [go_sem]
  refine SWp.join (α := Int) (fun k => ([(7, ci k)], H, V)) (fun k => Best l lost l.length k) ?_ ?_
  · refine SWp.seq (Wp.s ?_)
    simp -implicitDefEqProofs [go_sem]
    refine SWp.block ?_
    refine SWp.loop (α := Nat × Int) (fun x => ([(0, .sl .sh 4 (l.map ptC)), (1, .fn 20 [.ptr b 0]), (2, .fn 21 []), (7, ci x.2), (10, .sl .sh 4 (l.map ptC)), (11, ci l.length), (12, ci x.1)], H, V)) (fun x => x.1 ≤ l.length ∧ Best l lost x.1 x.2) (fun x => l.length - x.1) (0, -1) ⟨Nat.zero_le _, .inl ⟨rfl, fun j hj => absurd hj (Nat.not_lt_zero _)⟩⟩ (Sh.forget (by simp [go_sem]) rfl rfl) ?_
    rintro ⟨i, k⟩ ⟨hi, hk⟩
    dsimp only at hi hk ⊢
    refine SWp.seq (Wp.s ?_)
    simp -implicitDefEqProofs [go_sem]
    refine SWp.seq (Wp.s ?_)
    simp -implicitDefEqProofs [go_sem]
    refine ⟨fun h => ?_, fun h => ?_⟩
    case refine_2 =>
      obtain rfl : i = l.length := by omega
      exact ⟨k, hk, Sh.forget (by simp [go_sem]) rfl rfl⟩
    have hi2 : i < lost.length := by omega
    have hki : -1 ≤ k ∧ k < i := by
      rcases hk with ⟨rfl, _⟩ | ⟨j, rfl, hj, _, _⟩ <;> omega
    refine SWp.seq (SWp.block (SWp.seq (Wp.s ?_)))
    simp -implicitDefEqProofs [go_sem, h]
    have hb' : (H ++ [some (ptC l[i])])[b]? = some (some [.sl .sh 1 (lost.map boL)]) := by rw [List.getElem?_append_left hbl]; exact hb
    refine SWp.seq (SWp.drawnT [] [] (.s 0 .pl <| .s 1 .pl <| .s 2 .pl <| .s 3 .pl <| .s 4 .pl <| .s 5 .pl <| .s 6 .pl <| .s 7 .pl <| .s 8 .pl <| .s 9 .pl <| .s 10 .pl <| .s 11 .pl <| .s 12 .pl <| .s 13 .pl <| .s 14 .pl <| .s 15 .pl <| .s 16 .pl <| .n) (by kernel_rfl) (by kernel_rfl) ?_)
    simp -implicitDefEqProofs [go_sem]
    refine CC.mono (choose1_cc _ _ b lost i hb' hi2) ?_
    rintro _ _ _ ⟨rfl, rfl, rfl⟩
    have keepk : lost[i] = true → Best l lost (i + 1) k := fun e => by
      rcases hk with ⟨h1, h2⟩ | ⟨j, h1, h2, h3, p, h4, h5⟩
      · refine .inl ⟨h1, fun j hj => ?_⟩
        by_cases e1 : j = i
        · subst e1; rw [List.getElem?_eq_getElem hi2, e]
        · exact h2 j (by omega)
      · refine .inr ⟨j, h1, by omega, h3, p, h4, fun j' q g1 g2 g3 => ?_⟩
        by_cases e1 : j' = i
        · subst e1; rw [List.getElem?_eq_getElem hi2, e] at g2; simp at g2
        · exact h5 j' q (by omega) g2 g3
    have keep2 : ∀ (j : Nat) (hj : j < l.length), k = j → lexLe (hdF l[i].lin) (hdF l[j].lin) → Best l lost (i + 1) k := fun j0 hj0 e0 hle => by
      rcases hk with ⟨h1, h2⟩ | ⟨j, h1, h2, h3, p, h4, h5⟩
      · omega
      · obtain rfl : j = j0 := by omega
        rw [List.getElem?_eq_getElem hj0] at h4
        cases h4
        refine .inr ⟨j, h1, by omega, h3, _, List.getElem?_eq_getElem hj0, fun j' q g1 g2 g3 => ?_⟩
        by_cases e1 : j' = i
        · subst e1; rw [List.getElem?_eq_getElem h] at g3; cases g3; exact hle
        · exact h5 j' q (by omega) g2 g3
    have newk : lost[i] = false → k < 0 → Best l lost (i + 1) (i : Int) := fun e e0 => by
      rcases hk with ⟨h1, h2⟩ | ⟨j, h1, h2, h3, _⟩
      · refine .inr ⟨i, rfl, by omega, by rw [List.getElem?_eq_getElem hi2, e], _, List.getElem?_eq_getElem h, fun j' q g1 g2 g3 => ?_⟩
        by_cases e1 : j' = i
        · subst e1; rw [List.getElem?_eq_getElem h] at g3; cases g3; exact .refl _
        · rw [h2 j' (by omega)] at g2; simp at g2
      · omega
    have newk2 : ∀ (j : Nat) (hj : j < l.length), k = j → lost[i] = false → ¬ lexLe (hdF l[i].lin) (hdF l[j].lin) → Best l lost (i + 1) (i : Int) := fun j0 hj0 e0 e hle => by
      rcases hk with ⟨h1, h2⟩ | ⟨j, h1, h2, h3, p, h4, h5⟩
      · omega
      · obtain rfl : j = j0 := by omega
        rw [List.getElem?_eq_getElem hj0] at h4
        cases h4
        refine .inr ⟨i, rfl, by omega, by rw [List.getElem?_eq_getElem hi2, e], _, List.getElem?_eq_getElem h, fun j' q g1 g2 g3 => ?_⟩
        by_cases e1 : j' = i
        · subst e1; rw [List.getElem?_eq_getElem h] at g3; cases g3; exact .refl _
        · exact (h5 j' q (by omega) g2 g3).trans (lexLe.of_not hle)
    cases hlo : lost[i] with
    | true =>
      simp -implicitDefEqProofs [go_sem]
      refine Wp.s ?_
      simp -implicitDefEqProofs [go_sem]
      refine Wp.s ?_
      simp -implicitDefEqProofs [go_sem]
      refine ⟨i + 1, k, ⟨by omega, keepk hlo⟩, by omega, Sh.trim0 ?_ (by simp [go_sem, okE_pts, okL, hbl]) hokH (Nat.le_refl _) (by simp) (by simp)⟩
      simp [go_sem, wrap_succ (show i ≤ 1000000000 by omega)]
    | false =>
      by_cases hk0 : k < 0
      · simp -implicitDefEqProofs [go_sem, hk0]
        refine Wp.s ?_
        simp -implicitDefEqProofs [go_sem]
        refine Wp.s ?_
        simp -implicitDefEqProofs [go_sem]
        refine ⟨i + 1, i, ⟨by omega, newk hlo hk0⟩, by omega, Sh.trim0 ?_ (by simp [go_sem, okE_pts, okL, hbl]) hokH (Nat.le_refl _) (by simp) (by simp)⟩
        simp [go_sem, wrap_succ (show i ≤ 1000000000 by omega)]
      · obtain ⟨j, rfl⟩ : ∃ j : Nat, k = j := ⟨k.toNat, by omega⟩
        have hjl : j < l.length := by omega
        simp -implicitDefEqProofs [go_sem, hk0, hjl]
        refine CC.mono (choose2_cc _ _ l[i] l[j] (hl _ (List.getElem_mem h)) (hl _ (List.getElem_mem hjl))) ?_
        rintro _ _ _ ⟨⟨q, rfl, hqq⟩, rfl, rfl⟩
        by_cases hq : 0 < q
        · simp -implicitDefEqProofs [go_sem, hk0, hq]
          refine Wp.s ?_
          simp -implicitDefEqProofs [go_sem]
          refine Wp.s ?_
          simp -implicitDefEqProofs [go_sem]
          refine ⟨i + 1, i, ⟨by omega, newk2 j hjl rfl hlo (hqq.1 hq)⟩, by omega, Sh.trim0 ?_ (by simp [go_sem, okE_pts, okL, hbl]) hokH (Nat.le_refl _) (by simp) (by simp)⟩
          simp [go_sem, wrap_succ (show i ≤ 1000000000 by omega)]
        · simp -implicitDefEqProofs [go_sem, hk0, hq]
          refine Wp.s ?_
          simp -implicitDefEqProofs [go_sem]
          refine Wp.s ?_
          simp -implicitDefEqProofs [go_sem]
          refine ⟨i + 1, j, ⟨by omega, keep2 j hjl rfl (Classical.byContradiction fun z => hq (hqq.2 z))⟩, by omega, Sh.trim0 ?_ (by simp [go_sem, okE_pts, okL, hbl]) hokH (Nat.le_refl _) (by simp) (by simp)⟩
          simp [go_sem, wrap_succ (show i ≤ 1000000000 by omega)]
  rintro k hk
  dsimp only
  refine SWp.seq (Wp.s ?_)
  simp -implicitDefEqProofs [go_sem]
  refine Wp.s ?_
  simp -implicitDefEqProofs [go_sem]
  exact Fin.cut H.length V.length ⟨⟨_, rfl, by rw [hlen]; exact hk⟩, rfl, rfl⟩ (Nat.le_refl _) (Nat.le_refl _) (by simp) (by simp) (.refl _) (by simp [go_sem]) hokH
def ChR (l : List Pt) (lost : List Bool) (H : Hp) (V : List Nat) : CV → Hp → List Nat → Prop := fun r H' V' => ((r = .tup [ci 0, er 17] ∧ ∀ j, j < lost.length → lost[j]? = some true) ∨ ∃ j : Nat, r = .tup [ci j, er 0] ∧ j < lost.length ∧ lost[j]? = some false ∧ ∃ p, l[j]? = some p ∧ ∀ j' q, j' < lost.length → lost[j']? = some false → l[j']? = some q → lexLe (hdF q.lin) (hdF p.lin)) ∧ H = H' ∧ V = V'
theorem choose_cc (H : Hp) (V : List Nat) (l : List Pt) (z : List Nat) (lost : List Bool) (hl : PtsOk l z) (hlen : lost.length = l.length) : CC Tryz.prog 7 [.sl .sh 4 (l.map ptC), .sl .sh 1 (lost.map boL)] H V (ChR l lost H V) := by
  refine CC.of_swp Tryz.func7 rfl (by kernel_rfl) (by rw [Tryz.ntmps7]; exact len_le _ _ rfl) fun hok hokH => ?_
  clear hok
  have h4 := hl.hi
  refine SWp.seq (Wp.s ?_)
  simp -implicitDefEqProofs [go_sem, args0]
  refine SWp.seq (Wp.s ?_)
  simp -implicitDefEqProofs [go_sem]
  refine CC.mono (fit_cc _ _ l z hl) ?_
  rintro _ _ _ ⟨rfl, rfl, rfl⟩
  simp -implicitDefEqProofs [go_sem]
  refine SWp.seq (SWp.seq (Wp.s ?_))
  simp -implicitDefEqProofs [go_sem, hlen]
  refine Wp.s ?_
  simp -implicitDefEqProofs [go_sem]
  refine SWp.seq (Wp.s ?_)
  simp -implicitDefEqProofs [go_sem]
  refine CC.mono (greatest_cc _ _ H.length l lost (by simp) hlen (by omega) fun p hp => (hl.ok p hp).lin.few) ?_
  rintro _ _ _ ⟨⟨k, rfl, hk⟩, rfl, rfl⟩
  simp -implicitDefEqProofs [go_sem]
  refine SWp.seq (SWp.seq (Wp.s ?_))
  rcases hk with ⟨rfl, hk⟩ | ⟨j, rfl, hj, hk, hq⟩
  · simp -implicitDefEqProofs [go_sem]
    refine Wp.s ?_
    simp -implicitDefEqProofs [go_sem]
    exact Fin.cut H.length V.length ⟨.inl ⟨rfl, hk⟩, rfl, rfl⟩ (Nat.le_refl _) (Nat.le_refl _) (by simp) (by simp) (.refl _) (by simp [go_sem]) hokH
  · simp -implicitDefEqProofs [go_sem, show ¬ (j : Int) < 0 by omega]
    refine Wp.s ?_
    simp -implicitDefEqProofs [go_sem]
    refine SWp.seq (Wp.s ?_)
    simp -implicitDefEqProofs [go_sem]
    refine Wp.s ?_
    simp -implicitDefEqProofs [go_sem]
    exact Fin.cut H.length V.length ⟨.inr ⟨j, rfl, hj, hk, hq⟩, rfl, rfl⟩ (Nat.le_refl _) (Nat.le_refl _) (by simp) (by simp) (.refl _) (by simp [go_sem]) hokH
end Go.Proofs.YtgoofldhelffdaaGreatDoor
namespace Go.Proofs.YtgoofldhelffdaaGreatDoor
open Go.Proofs
end Go.Proofs.YtgoofldhelffdaaGreatDoor
namespace Go.Proofs.YtgoofldhelffdaaGreatDoor
open Go.Proofs
end Go.Proofs.YtgoofldhelffdaaGreatDoor
namespace Go.Proofs.YtgoofldhelffdaaGreatDoor
open Go.Proofs
end Go.Proofs.YtgoofldhelffdaaGreatDoor
namespace Go.Proofs.YtgoofldhelffdaaGreatDoor
open Go.Proofs
end Go.Proofs.YtgoofldhelffdaaGreatDoor
namespace Go.Proofs.YtgoofldhelffdaaGreatDoor
open Go.Proofs
theorem vcloneInt_cc (H : Hp) (V : List Nat) (tk : Tk) (xs : List Int) (hx : xs.length ≤ 1000000000) : CC Tryz.prog 54 [.sl tk 1 (xs.map ic)] H V (Pu (.sl .sh 1 (xs.map ic)) H V) := by
  refine CC.of_swp Tryz.func54 rfl (by kernel_rfl) (by rw [Tryz.ntmps54]; exact len_le _ _ rfl) fun hok hokH => Wp.s ?_
  simp -implicitDefEqProofs [go_sem, args0]
  refine ⟨⟨by omega, ?_⟩, fun h => ?_⟩
  · exact Fin.pu (.sh ..) (by simp [go_sem, okE_ints]) hokH (by simp) (by simp)
  · obtain rfl : xs = [] := by simpa using h
    exact Fin.pu (.nil 1 (by decide)) (by simp [go_sem]) hokH (by simp) (by simp)
end Go.Proofs.YtgoofldhelffdaaGreatDoor
namespace Go.Proofs.YtgoofldhelffdaaGreatDoor
open Go.Proofs
end Go.Proofs.YtgoofldhelffdaaGreatDoor
namespace Go.Proofs.YtgoofldhelffdaaGreatDoor
open Go.Proofs
end Go.Proofs.YtgoofldhelffdaaGreatDoor
namespace Go.Proofs.YtgoofldhelffdaaGreatDoor
open Go.Proofs
end Go.Proofs.YtgoofldhelffdaaGreatDoor
namespace Go.Proofs.YtgoofldhelffdaaGreatDoor
open Go.Proofs
end Go.Proofs.YtgoofldhelffdaaGreatDoor
namespace Go.Proofs.YtgoofldhelffdaaGreatDoor
open Go.Proofs
end Go.Proofs.YtgoofldhelffdaaGreatDoor
namespace Go.Proofs.YtgoofldhelffdaaGreatDoor
open Go.Proofs
theorem SameVol_cc (H : Hp) (V : List Nat) (t1 t2 : Tk) (x y : List Sec) (hl : x.length ≤ 1000000000) : CC Tryz.prog 30 [.sl t1 8 (x.map secC), .sl t2 8 (y.map secC)] H V (Pu (.v (.bool (decide (x = y)))) H V) := by
  refine CC.of_swp Tryz.func30 rfl (by kernel_rfl) (by rw [Tryz.ntmps30]; exact len_le _ _ rfl) fun hok hokH => ?_
  clear hok
  refine SWp.seq (Wp.s ?_)
  simp -implicitDefEqProofs [go_sem, args0]
  refine SWp.seq (SWp.seq (Wp.s ?_))
  by_cases hlen : x.length = y.length
  case neg =>
    have hlen' : ¬ (x.length : Int) = (y.length : Int) := by omega
    simp -implicitDefEqProofs [go_sem, hlen']
    refine Wp.s ?_
    simp -implicitDefEqProofs [go_sem, hlen, hlen']
    exact Fin.bool (by simp [show x ≠ y from fun e => hlen (by rw [e])]) hokH (by simp) (by simp)
  simp -implicitDefEqProofs [go_sem, hlen]
  refine Wp.s ?_
  simp -implicitDefEqProofs [go_sem, hlen]
  refine SWp.join (α := Unit) (fun _ => ([], H, V)) (fun _ => x = y) ?_ ?_
  · refine SWp.seq (Wp.s ?_)
    simp -implicitDefEqProofs [go_sem]
    refine SWp.block ?_
    refine SWp.loop (α := Nat) (fun i => ([(0, .sl t1 8 (x.map secC)), (1, .sl t2 8 (y.map secC)), (5, ci i)], H, V)) (fun i => i ≤ x.length ∧ x.take i = y.take i) (fun i => x.length - i) 0 ⟨Nat.zero_le _, rfl⟩ (Sh.forget (by simp [go_sem]) rfl rfl) ?_
    rintro i ⟨hi, hp⟩
    dsimp only
    refine SWp.seq (SWp.seq (Wp.s ?_))
    simp -implicitDefEqProofs [go_sem]
    refine Wp.s ?_
    simp -implicitDefEqProofs [go_sem]
    refine ⟨fun h => ?_, fun h => ⟨eq_of_take hlen h hp, Sh.forget (by simp [go_sem]) rfl rfl⟩⟩
    have h2 : i < y.length := by omega
    refine SWp.seq (SWp.block (SWp.seq (SWp.drawnT [] [] (.s 0 .pl <| .s 1 .pl <| .s 2 .pl <| .s 3 .pl <| .s 4 .pl <| .s 5 .pl <| .s 6 .pl <| .s 7 .pl <| .s 8 .pl <| .n) (by kernel_rfl) (by kernel_rfl) ?_)))
    simp -implicitDefEqProofs [go_sem, h, h2]
    refine ⟨_, flatSec, fits_secW _, fits_secW _, fun he => ?_, fun he => ?_⟩
    · refine Wp.s ?_
      simp -implicitDefEqProofs [go_sem]
      exact Fin.bool (by simp [ne_at h h2 (fun e => he (by rw [e]))]) hokH (by simp) (by simp)
    · refine Wp.s ?_
      simp -implicitDefEqProofs [go_sem]
      refine Wp.s ?_
      simp -implicitDefEqProofs [go_sem]
      refine ⟨i + 1, ⟨by omega, take_eq_succ h h2 hp (secC_inj he)⟩, by omega, Sh.forget ?_ rfl rfl⟩
      simp [go_sem, wrap_succ (show i ≤ 1000000000 by omega)]
  · rintro _ he
    dsimp only
    refine Wp.s ?_
    simp -implicitDefEqProofs [go_sem]
    exact Fin.bool (by simp [he]) hokH (by simp) (by simp)
theorem SameImg_cc (H : Hp) (V : List Nat) (t1 t2 : Tk) (x y : Img) (hl : x.length ≤ 1000000000) (hs : ∀ v ∈ x, v.length ≤ 1000000000) : CC Tryz.prog 11 [.sl t1 1 (x.map imE), .sl t2 1 (y.map imE)] H V (Pu (.v (.bool (decide (x = y)))) H V) := by
  refine CC.of_swp Tryz.func11 rfl (by kernel_rfl) (by rw [Tryz.ntmps11]; exact len_le _ _ rfl) fun hok hokH => ?_
  clear hok
  refine SWp.seq (Wp.s ?_)
  simp -implicitDefEqProofs [go_sem, args0]
  refine SWp.seq (SWp.seq (Wp.s ?_))
  by_cases hlen : x.length = y.length
  case neg =>
    have hlen' : ¬ (x.length : Int) = (y.length : Int) := by omega
    simp -implicitDefEqProofs [go_sem, hlen']
    refine Wp.s ?_
    simp -implicitDefEqProofs [go_sem, hlen, hlen']
    exact Fin.bool (by simp [show x ≠ y from fun e => hlen (by rw [e])]) hokH (by simp) (by simp)
  simp -implicitDefEqProofs [go_sem, hlen]
  refine Wp.s ?_
  simp -implicitDefEqProofs [go_sem, hlen]
  refine SWp.join (α := Unit) (fun _ => ([], H, V)) (fun _ => x = y) ?_ ?_
  · refine SWp.seq (Wp.s ?_)
    simp -implicitDefEqProofs [go_sem]
    refine SWp.block ?_
    refine SWp.loop (α := Nat) (fun i => ([(0, .sl t1 1 (x.map imE)), (1, .sl t2 1 (y.map imE)), (5, ci i)], H, V)) (fun i => i ≤ x.length ∧ x.take i = y.take i) (fun i => x.length - i) 0 ⟨Nat.zero_le _, rfl⟩ (Sh.forget (by simp [go_sem]) rfl rfl) ?_
    rintro i ⟨hi, hp⟩
    dsimp only
    refine SWp.seq (SWp.seq (Wp.s ?_))
    simp -implicitDefEqProofs [go_sem]
    refine Wp.s ?_
    simp -implicitDefEqProofs [go_sem]
    refine ⟨fun h => ?_, fun h => ⟨eq_of_take hlen h hp, Sh.forget (by simp [go_sem]) rfl rfl⟩⟩
    have h2 : i < y.length := by omega
    refine SWp.seq (SWp.block (SWp.seq (SWp.drawnT [] [] (.s 0 .pl <| .s 1 .pl <| .s 2 .pl <| .s 3 .pl <| .s 4 .pl <| .s 5 .pl <| .s 6 .pl <| .s 7 .pl <| .s 8 .pl <| .s 9 .pl <| .n) (by kernel_rfl) (by kernel_rfl) ?_)))
    simp -implicitDefEqProofs [go_sem, h, h2]
    refine CC.mono (SameVol_cc _ _ .sh .sh x[i] y[i] (hs _ (List.getElem_mem h))) ?_
    rintro _ _ _ ⟨rfl, rfl, rfl⟩
    by_cases he : x[i] = y[i]
    · simp -implicitDefEqProofs [go_sem, he]
      refine Wp.s ?_
      simp -implicitDefEqProofs [go_sem]
      refine Wp.s ?_
      simp -implicitDefEqProofs [go_sem]
      refine ⟨i + 1, ⟨by omega, take_eq_succ h h2 hp he⟩, by omega, Sh.forget ?_ rfl rfl⟩
      simp [go_sem, wrap_succ (show i ≤ 1000000000 by omega)]
    · simp -implicitDefEqProofs [go_sem, he]
      refine Wp.s ?_
      simp -implicitDefEqProofs [go_sem]
      exact Fin.bool (by simp [ne_at h h2 he]) hokH (by simp) (by simp)
  · rintro _ he
    dsimp only
    refine Wp.s ?_
    simp -implicitDefEqProofs [go_sem]
    exact Fin.bool (by simp [he]) hokH (by simp) (by simp)
end Go.Proofs.YtgoofldhelffdaaGreatDoor
