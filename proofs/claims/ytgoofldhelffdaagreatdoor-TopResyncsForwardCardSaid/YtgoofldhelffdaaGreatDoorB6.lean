import Derived.Test.YtgoofldhelffdaaGreatDoorB5
import Derived.Test.YtgoofldhelffdaaGreatDoorB4
import Derived.Test.YtgoofldhelffdaaGreatDoorB3
import Derived.ProofKit
import Derived.OpenShut
import Derived.Below
import Derived.Test.YtgoofldhelffdaaGreatDoorRows
import Derived.LaidHandle
import Derived.MakeChecks
import Derived.Lib.LaidU8
set_option linter.unusedSimpArgs false
set_option linter.unusedVariables false
set_option linter.unusedSectionVars false
namespace Go.Proofs.YtgoofldhelffdaaGreatDoor
open Go.Proofs
theorem okE_boL (jb jv : Nat) : ∀ (l : List Bool), okE jb jv (l.map boL)
  | [] => trivial
  | e :: l => by rw [List.map_cons, okE]; exact ⟨by simp [boL, okL, okV], okE_boL jb jv l⟩
structure Psx where
  base : List Pst
  w0 : List Pst
  w1 : List Pst
  w2 : List Pst
  e0 : UInt8
  e1 : UInt8
  e2 : UInt8
  c0 : UInt8
  c1 : UInt8
  c2 : UInt8
  l0 : Bool
  l1 : Bool
  l2 : Bool
def stsV (l : List Pst) : CV := .sl .sh 5 (l.map pstC)
def psxC (x : Psx) : List CV := [stsV x.base, stsV x.w0, stsV x.w1, stsV x.w2, u8v x.e0, u8v x.e1, u8v x.e2, u8v x.c0, u8v x.c1, u8v x.c2, cb x.l0, cb x.l1, cb x.l2]
def wsAt (x : Psx) (i : Nat) : List Pst := match i with | 0 => x.w0 | 1 => x.w1 | _ => x.w2
def epAt (x : Psx) (i : Nat) : UInt8 := match i with | 0 => x.e0 | 1 => x.e1 | _ => x.e2
def cyAt (x : Psx) (i : Nat) : UInt8 := match i with | 0 => x.c0 | 1 => x.c1 | _ => x.c2
def loAt (x : Psx) (i : Nat) : Bool := match i with | 0 => x.l0 | 1 => x.l1 | _ => x.l2
@[go_sem, simp] theorem psxC_len (x : Psx) : (psxC x).length = 13 := rfl
@[go_sem, simp] theorem psxC_all (x : Psx) : allOne (psxC x) = true := rfl
@[go_sem, simp] theorem psxC_take (x : Psx) : (psxC x).take 13 = psxC x := rfl
@[go_sem, simp] theorem psxC_drop (x : Psx) : (psxC x).drop 13 = [] := rfl
@[go_sem, simp] theorem psxC_0 (x : Psx) (h : 0 < (psxC x).length) : (psxC x)[0] = .sl .sh 5 (x.base.map pstC) := rfl
theorem psxC_w (x : Psx) (i : Nat) (hi : i < 3) (h : 1 + i < (psxC x).length) : (psxC x)[1 + i] = .sl .sh 5 ((wsAt x i).map pstC) := by
  match i, hi with
  | 0, _ => rfl
  | 1, _ => rfl
  | 2, _ => rfl
theorem psxC_e (x : Psx) (i : Nat) (hi : i < 3) (h : 4 + i < (psxC x).length) : (psxC x)[4 + i] = .v (.int .u8 ((epAt x i).toNat : Int)) := by
  match i, hi with
  | 0, _ => rfl
  | 1, _ => rfl
  | 2, _ => rfl
theorem psxC_c (x : Psx) (i : Nat) (hi : i < 3) (h : 7 + i < (psxC x).length) : (psxC x)[7 + i] = .v (.int .u8 ((cyAt x i).toNat : Int)) := by
  match i, hi with
  | 0, _ => rfl
  | 1, _ => rfl
  | 2, _ => rfl
theorem psxC_l (x : Psx) (i : Nat) (hi : i < 3) (h : 10 + i < (psxC x).length) : (psxC x)[10 + i] = cb (loAt x i) := by
  match i, hi with
  | 0, _ => rfl
  | 1, _ => rfl
  | 2, _ => rfl
@[go_sem] theorem okL_psxC (jb jv : Nat) (x : Psx) : okL jb jv (psxC x) = True := by
  simp [psxC, stsV, u8v, okL, okV, go_sem, okE_psts]
def im0 : Img := imOf (zI pz)
theorem im0_sz : im0.map List.length = pz := rfl
def baseI (x : Psx) : Img := ppI im0 x.base
theorem baseI_sz (x : Psx) : (baseI x).map List.length = pz := ppI_sz im0_sz _
def epN (x : Psx) (i : Nat) : Nat := (epAt x i).toNat % 3 + 1
def cyN (x : Psx) (i : Nat) : Nat := (cyAt x i).toNat % 6
def ptAt (x : Psx) (i : Nat) : Pt := ppF i (baseI x) (wsAt x i) (epN x i) (cyN x i)
def ptsF (x : Psx) (n : Nat) : List Pt := (List.range n).map (ptAt x)
def losF (x : Psx) (n : Nat) : List Bool := (List.range n).map (loAt x)
def okPs (x : Psx) : Bool := decide (x.base.length ≤ 6) && (List.range 3).all fun i => decide ((wsAt x i).length ≤ 8)
theorem ptAt_ok (x : Psx) (i : Nat) (hi : i < 3) : PtOk (ptAt x i) := ppF_ok (by omega) (baseI_sz x) fun _ => by
  have h1 : (epAt x i).toNat % 3 < 3 := Nat.mod_lt _ (by decide)
  have h2 : (cyAt x i).toNat % 6 < 6 := Nat.mod_lt _ (by decide)
  simp only [epN, cyN]; omega
theorem ptAt_sz (x : Psx) (i : Nat) : (ptAt x i).im.map List.length = pz := ppI_sz (baseI_sz x) _
theorem ptsF_len (x : Psx) (n : Nat) : (ptsF x n).length = n := by simp [ptsF]
theorem losF_len (x : Psx) (n : Nat) : (losF x n).length = n := by simp [losF]
theorem ptsF_succ (x : Psx) (n : Nat) : ptsF x (n + 1) = ptsF x n ++ [ptAt x n] := by rw [ptsF, List.range_succ, List.map_append]; rfl
theorem losF_succ (x : Psx) (n : Nat) : losF x (n + 1) = losF x n ++ [loAt x n] := by rw [losF, List.range_succ, List.map_append]; rfl
theorem ptsF_ok (x : Psx) : PtsOk (ptsF x 3) pz := ⟨by rw [ptsF_len]; decide, by rw [ptsF_len]; decide, fun p hp => by
  obtain ⟨i, hi, rfl⟩ := List.mem_map.1 hp
  exact ptAt_ok x i (List.mem_range.1 hi), fun p hp => by
  obtain ⟨i, hi, rfl⟩ := List.mem_map.1 hp
  exact ptAt_sz x i⟩
def ppsV (x : Psx) : CV := if okPs x = true then .tup [.sl .sh 4 ((ptsF x 3).map ptC), .sl .sh 1 ((losF x 3).map boL), cb true] else .tup [.sl .sh 4 [], .sl .sh 1 [], cb true]
set_option maxRecDepth 8000 in
set_option maxHeartbeats 1600000 in
theorem playPoints_cc (H : Hp) (V : List Nat) (x : Psx) (hb : x.base.length ≤ 9223372036854775807) (hw : ∀ i, i < 3 → (wsAt x i).length ≤ 9223372036854775807) : CC Tryz.prog 5 [.agg (psxC x)] H V (Pu (ppsV x) H V) := by
  refine CC.of_swp Tryz.func5 rfl (by kernel_rfl) (by rw [Tryz.ntmps5]; exact len_le _ _ rfl) fun hok hokH => ?_
  clear hok
  have hzl := zI_len pz
  have bad : ∀ (H' : Hp) (V' : List Nat), okPs x = false → H'.take H.length = H → V'.take V.length = V → Fin H.length V.length (Pu (ppsV x) H V) (.tup [.v (.slice none 0 0), .v (.slice none 0 0), cb true]) H' V' := fun H' V' h1 h2 h3 => by
    rw [ppsV, h1]
    exact Fin.pu (.tup (.cons (.nil 4 (by decide)) (.cons (.nil 1 (by decide)) (.cons (.refl _) .nil)))) (by simp [go_sem]) hokH h2 h3
  refine SWp.seq (Wp.s ?_)
  simp -implicitDefEqProofs [go_sem, args0]
  refine SWp.seq (Wp.s ?_)
  simp -implicitDefEqProofs [go_sem]
  refine CC.mono (playSizes_cc _ _) ?_
  rintro _ _ _ ⟨rfl, rfl, rfl⟩
  simp -implicitDefEqProofs [go_sem]
  refine CC.mono (New_cc _ _ .sh (zI pz) (by rw [hzl]; decide)) ?_
  rintro _ _ _ ⟨rfl, rfl, rfl⟩
  rw [pz_ok.sizes]
  simp -implicitDefEqProofs [go_sem]
  refine SWp.seq (SWp.seq (Wp.s ?_))
  by_cases h1 : x.base.length ≤ 6
  case neg =>
    have h1' : (6 : Int) < x.base.length := by omega
    have h1'' : 6 < x.base.length := by omega
    simp -implicitDefEqProofs [go_sem, h1', h1'']
    refine Wp.s ?_
    simp -implicitDefEqProofs [go_sem]
    exact bad _ _ (by simp [okPs]; intro q; omega) (by simp) (by simp)
  have h1' : ¬ (6 : Int) < x.base.length := by omega
  have h1'' : ¬ 6 < x.base.length := by omega
  simp -implicitDefEqProofs [go_sem, h1', h1'']
  refine Wp.s ?_
  simp -implicitDefEqProofs [go_sem]
  refine SWp.seq (Wp.s ?_)
  simp -implicitDefEqProofs [go_sem]
  refine CC.mono (playPoint_cc _ _ 0 im0 x.base 0 0 (by decide) im0_sz (by omega) (fun h => absurd h (by decide))) ?_
  rintro _ _ _ ⟨rfl, rfl, rfl⟩
  obtain ⟨P0, hP0, hP3⟩ : ∃ P0, P0 = ppF 0 im0 x.base 0 0 ∧ P0.im = baseI x := ⟨_, rfl, rfl⟩
  rw [← hP0]
  clear hP0
  have hbi := baseI_sz x
  simp -implicitDefEqProofs [go_sem]
  refine SWp.seq (SWp.seq (Wp.s ?_))
  simp -implicitDefEqProofs [go_sem]
  refine Wp.s ?_
  simp -implicitDefEqProofs [go_sem]
  refine SWp.seq (Wp.s ?_)
  simp -implicitDefEqProofs [go_sem]
  refine SWp.seq (Wp.s ?_)
  simp -implicitDefEqProofs [go_sem]
  refine SWp.join (α := Nat × Nat) (fun k => ([(9, .sl (.own V.length k.1) 4 ((ptsF x 3).map ptC)), (10, .sl (.own (V.length + 1) k.2) 1 ((losF x 3).map boL))], H ++ [some (psxC x), some (ptC P0)], V ++ [k.1, k.2])) (fun _ => okPs x = true) ?_ ?_
  · refine SWp.seq (Wp.s ?_)
    simp -implicitDefEqProofs [go_sem]
    refine SWp.block ?_
    refine SWp.loop (α := Nat × Nat × Nat) (fun k => ([(1, .ptr H.length 0), (7, .ptr (H.length + 1) 0), (9, .sl (.own V.length k.2.1) 4 ((ptsF x k.1).map ptC)), (10, .sl (.own (V.length + 1) k.2.2) 1 ((losF x k.1).map boL)), (11, ci k.1)], H ++ [some (psxC x), some (ptC P0)], V ++ [k.2.1, k.2.2])) (fun k => k.1 ≤ 3 ∧ ∀ i, i < k.1 → (wsAt x i).length ≤ 8) (fun k => 3 - k.1) (0, 0, 0) ⟨Nat.zero_le _, fun i hi => absurd hi (Nat.not_lt_zero _)⟩ ?_ ?_
    · refine Gst.trans (Sh.tokT (T' := [(1, .ptr H.length 0), (7, .ptr (H.length + 1) 0), (9, .sl (.own V.length 0) 4 []), (10, .v (.slice none 0 0)), (11, ci 0)]) (by simp [go_sem]) rfl rfl) (Sh.tokT (by simp [go_sem, ptsF, losF]) rfl (by simp))
    rintro ⟨i, k1, k2⟩ ⟨hi, hws⟩
    dsimp only at hi hws ⊢
    refine SWp.seq (SWp.seq (Wp.s ?_))
    simp -implicitDefEqProofs [go_sem]
    refine Wp.s ?_
    simp -implicitDefEqProofs [go_sem]
    refine ⟨fun h0 => ?_, fun h0 => ?_⟩
    case refine_2 =>
      obtain rfl : i = 3 := by omega
      refine ⟨?_, k1, k2, Sh.forget (by simp [go_sem]) rfl rfl⟩
      rw [okPs, Bool.and_eq_true]
      refine ⟨decide_eq_true h1, ?_⟩
      rw [List.all_eq_true]
      intro j hj
      exact decide_eq_true (hws j (List.mem_range.1 hj))
    have h : i < 3 := by omega
    have hwi := hw i h
    have gw := psxC_w x i h
    have ge := psxC_e x i h
    have gc := psxC_c x i h
    have gl := psxC_l x i h
    refine SWp.seq (SWp.block (SWp.seq (SWp.seq (Wp.s ?_))))
    by_cases h8 : (wsAt x i).length ≤ 8
    case neg =>
      have h8' : (8 : Int) < (wsAt x i).length := by omega
      have h8'' : 8 < (wsAt x i).length := by omega
      simp -implicitDefEqProofs [go_sem, gw, h8', h8'']
      refine ⟨h0, by omega, ?_⟩
      refine Wp.s ?_
      simp -implicitDefEqProofs [go_sem]
      refine bad _ _ ?_ (by simp) (by simp)
      rw [okPs, Bool.and_eq_false_iff]
      right
      rw [List.all_eq_false]
      exact ⟨i, List.mem_range.2 h, by simp; omega⟩
    have h8' : ¬ (8 : Int) < (wsAt x i).length := by omega
    have h8'' : ¬ 8 < (wsAt x i).length := by omega
    simp -implicitDefEqProofs [go_sem, gw, h8', h8'']
    refine ⟨h0, by omega, ?_⟩
    refine Wp.s ?_
    simp -implicitDefEqProofs [go_sem]
    have e1 := (epAt x i).toNat_lt
    have e2 := (cyAt x i).toNat_lt
    have t1 : (((epAt x i).toNat : Int)).tmod 3 = (((epAt x i).toNat % 3 : Nat) : Int) := by rw [Int.tmod_eq_emod_of_nonneg (by omega)]; omega
    have t2 : (((cyAt x i).toNat : Int)).tmod 6 = (cyN x i : Int) := by rw [Int.tmod_eq_emod_of_nonneg (by omega)]; unfold cyN; omega
    have w1 : IntKind.i64.wrap ((((epAt x i).toNat % 3 : Nat) : Int)) = (((epAt x i).toNat % 3 : Nat) : Int) := IntWalk.i64_in _ ⟨by omega, by omega⟩
    have w2 : IntKind.i64.wrap ((((epAt x i).toNat % 3 : Nat) : Int) + 1) = (epN x i : Int) := by rw [IntWalk.i64_in _ ⟨by omega, by omega⟩]; unfold epN; omega
    have hcy : cyN x i < 6 := Nat.mod_lt _ (by decide)
    have w3 : IntKind.i64.wrap (cyN x i : Int) = cyN x i := IntWalk.i64_in _ ⟨by omega, by omega⟩
    refine SWp.seq (SWp.drawnT [] [25] (.s 0 .pl <| .s 1 .pl <| .s 2 .pl <| .s 3 .pl <| .s 4 .pl <| .s 5 .pl <| .s 6 .pl <| .s 7 .pl <| .s 8 .pl <| .s 9 .pl <| .s 10 .pl <| .s 11 .pl <| .s 12 .pl <| .s 13 .pl <| .s 14 .pl <| .s 15 .pl <| .s 16 .pl <| .s 17 .pl <| .s 18 .pl <| .s 19 .pl <| .c 20 <| .s 21 .pl <| .s 22 .pl <| .s 23 .pl <| .s 24 .pl <| .s 25 .st <| .s 26 .pl <| .n) (by kernel_rfl) (by kernel_rfl) ?_)
    generalize (((epAt x i).toNat % 3 : Nat) : Int) = em at t1 w1 w2
    have hepl : 1 ≤ epN x i ∧ epN x i ≤ 1000 := by
      have : (epAt x i).toNat % 3 < 3 := Nat.mod_lt _ (by decide)
      unfold epN; omega
    simp -implicitDefEqProofs [go_sem, gw, ge, gc, t1, t2, w1, w2, w3, hP3]
    refine ⟨h0, by omega, by omega, by omega, .tup [.agg (ptC (ptAt x i)), cb true], fun H V => playPoint_cc H V i (baseI x) (wsAt x i) (epN x i) (cyN x i) (by omega) hbi (by omega) (fun _ => by omega), ?_⟩
    simp -implicitDefEqProofs [go_sem]
    refine SWp.seq (SWp.seq (Wp.s ?_))
    simp -implicitDefEqProofs [go_sem]
    refine Wp.s ?_
    simp -implicitDefEqProofs [go_sem]
    have pl := ptsF_len x i
    have ll := losF_len x i
    refine (SWp.drawnT [] [] (.s 0 .pl <| .s 1 .pl <| .s 2 .pl <| .s 4 .pl <| .s 5 .pl <| .s 6 .pl <| .s 7 .pl <| .s 8 .pl <| .s 9 .pl <| .s 3 .pl <| .s 10 .pl <| .s 11 .pl <| .s 12 .pl <| .n) (by kernel_rfl) (by kernel_rfl) ?_)
    simp -implicitDefEqProofs [go_sem, gl, pl, ll]
    refine ⟨h0, by omega, by omega, ?_⟩
    refine Wp.s ?_
    simp -implicitDefEqProofs [go_sem]
    refine ⟨i + 1, ⟨by omega, fun j hj => ?_⟩, by omega, k1 + 1, k2 + 1, ?_⟩
    · by_cases e : j = i
      · subst e; exact h8
      · exact hws j (by omega)
    rw [ptsF_succ, losF_succ]
    refine Sh.trim (L := [some (psxC x), some (ptC P0)]) ?_ ?_ hokH (by simp [go_sem]) (by simp) (by simp) (by simp)
    · simp [go_sem, boL, wrap_succ (show i ≤ 1000000000 by omega)]
    · simp [go_sem, boL]
      refine ⟨?_, ?_⟩
      · rw [show [ptC (ptAt x i)] = [ptAt x i].map ptC from rfl, ← List.map_append]; exact okE_pts _ _ _
      · rw [show [[cb (loAt x i)]] = [loAt x i].map boL from rfl, show List.map boL (losF x i) ++ [loAt x i].map boL = (losF x i ++ [loAt x i]).map boL by rw [List.map_append]]; exact okE_boL _ _ _
  rintro ⟨k1, k2⟩ hok
  dsimp only
  refine SWp.seq (Wp.s ?_)
  simp -implicitDefEqProofs [go_sem]
  refine Wp.s ?_
  simp -implicitDefEqProofs [go_sem]
  rw [ppsV, hok, if_pos rfl]
  exact Fin.pu (.tup (.cons (.sh _ _ _) (.cons (.sh _ _ _) (.cons (.refl _) .nil)))) (by simp [go_sem, okE_pts, okE_boL]) hokH (by simp) (by simp)
end Go.Proofs.YtgoofldhelffdaaGreatDoor
namespace Go.Proofs.YtgoofldhelffdaaGreatDoor
open Go.Proofs
def secN (ws : List Wr) : Nat := (ws.map fun w => w.data.length).sum
theorem secN_snoc (ws : List Wr) (w : Wr) : secN (ws ++ [w]) = secN ws + w.data.length := by simp [secN]
theorem secN_le {n : Nat} : ∀ (ws : List Wr), (∀ w ∈ ws, w.data.length ≤ n) → secN ws ≤ ws.length * n
  | [], _ => by simp [secN]
  | w :: ws, h => by
    have := secN_le ws fun x hx => h x (by simp [hx])
    have h1 := h w (by simp)
    rw [secN] at this ⊢
    rw [List.map_cons, List.sum_cons, List.length_cons, Nat.add_mul, Nat.one_mul]; omega
theorem sectors22_cc (H : Hp) (V : List Nat) (ws : List Wr) (hl : ws.length ≤ 1000000) (hw : ∀ w ∈ ws, w.data.length ≤ 1000000) : CC Tryz.prog 12 [.sl .sh 3 (ws.map wrC)] H V (Pu (ci (secN ws : Nat)) H V) := by
  refine CC.of_swp Tryz.func12 rfl (by kernel_rfl) (by rw [Tryz.ntmps12]; exact len_le _ _ rfl) fun hok hokH => ?_
  clear hok
  refine SWp.seq (Wp.s ?_)
  simp -implicitDefEqProofs [go_sem, args0]
  refine SWp.seq (Wp.s ?_)
  simp -implicitDefEqProofs [go_sem]
  refine SWp.join (α := Unit) (fun _ => ([(3, ci (secN ws : Nat))], H, V)) (fun _ => True) ?_ ?_
  · refine SWp.seq (Wp.s ?_)
    simp -implicitDefEqProofs [go_sem]
    refine SWp.block ?_
    refine SWp.loop (α := Nat) (fun i => ([(0, .sl .sh 3 (ws.map wrC)), (3, ci (secN (ws.take i) : Nat)), (4, ci i)], H, V)) (fun i => i ≤ ws.length) (fun i => ws.length - i) 0 (Nat.zero_le _) (Sh.forget (by simp [go_sem, secN]) rfl rfl) ?_
    intro i hi
    dsimp only
    refine SWp.seq (SWp.seq (Wp.s ?_))
    simp -implicitDefEqProofs [go_sem]
    refine Wp.s ?_
    simp -implicitDefEqProofs [go_sem]
    refine ⟨fun h => ?_, fun h => ?_⟩
    case refine_2 =>
      rw [List.take_of_length_le (by omega)]
      exact Sh.forget (by simp [go_sem]) rfl rfl
    have h1 := secN_le (n := 1000000) (ws.take i) fun x hx => hw x (List.mem_of_mem_take hx)
    have h2 := hw ws[i] (List.getElem_mem h)
    have h3 := secN_snoc (ws.take i) ws[i]
    rw [← List.take_succ_eq_append_getElem h] at h3
    rw [List.length_take] at h1
    have h4 : min i ws.length * 1000000 ≤ 1000000 * 1000000 := Nat.mul_le_mul_right _ (by omega)
    have w1 : IntKind.i64.wrap ((secN (ws.take i) : Int) + ws[i].data.length) = (secN (ws.take (i + 1)) : Int) := by rw [IntWalk.i64_in _ ⟨by omega, by omega⟩]; omega
    refine SWp.seq (SWp.block (Wp.s ?_))
    simp -implicitDefEqProofs [go_sem, h, w1]
    refine Wp.s ?_
    simp -implicitDefEqProofs [go_sem]
    refine ⟨i + 1, by omega, by omega, Sh.forget ?_ rfl rfl⟩
    simp [go_sem, wrap_succ (show i ≤ 1000000000 by omega)]
  rintro _ -
  dsimp only
  refine SWp.seq (Wp.s ?_)
  simp -implicitDefEqProofs [go_sem]
  refine Wp.s ?_
  simp -implicitDefEqProofs [go_sem]
  exact Fin.int rfl hokH (by simp) (by simp)
def dfK (a b : List Sec) (n : Nat) : Nat := ((List.range n).filter fun i => decide (¬ a.getD i sec0 = b.getD i sec0)).length
def dfV (a b : List Sec) : Nat := dfK a b a.length
def dfI (a b : Img) (n : Nat) : Nat := ((List.range n).map fun v => dfV (imAt a v) (imAt b v)).sum
theorem dfK_succ (a b : List Sec) (n : Nat) : dfK a b (n + 1) = dfK a b n + (if a.getD n sec0 = b.getD n sec0 then 0 else 1) := by
  rw [dfK, List.range_succ, List.filter_append, List.length_append, ← dfK]
  congr 1
  by_cases h : a.getD n sec0 = b.getD n sec0
  · rw [if_pos h, List.filter_cons_of_neg (by simpa using h)]; rfl
  · rw [if_neg h, List.filter_cons_of_pos (by simpa using h)]; rfl
theorem dfK_le (a b : List Sec) (n : Nat) : dfK a b n ≤ n := by
  have := List.length_filter_le (fun i => decide (¬ a.getD i sec0 = b.getD i sec0)) (List.range n)
  rwa [List.length_range] at this
theorem dfI_succ (a b : Img) (n : Nat) : dfI a b (n + 1) = dfI a b n + dfV (imAt a n) (imAt b n) := by
  rw [dfI, List.range_succ, List.map_append, List.sum_append]; simp [dfI]
set_option maxRecDepth 8000 in
theorem playDiff_cc (H : Hp) (V : List Nat) (a b : Img) (ha : a.length ≤ 8) (h : a.map List.length = b.map List.length) (hs : ∀ v ∈ a, v.length ≤ 63) : CC Tryz.prog 13 [.sl .sh 1 (a.map imE), .sl .sh 1 (b.map imE)] H V (Pu (ci (dfI a b a.length : Nat)) H V) := by
  refine CC.of_swp Tryz.func13 rfl (by kernel_rfl) (by rw [Tryz.ntmps13]; exact len_le _ _ rfl) fun hok hokH => ?_
  clear hok
  have hab : a.length = b.length := by simpa using congrArg List.length h
  have hbd : ∀ n, n ≤ a.length → dfI a b n ≤ n * 63 := by
    intro n
    induction n with
    | zero => intro _; simp [dfI]
    | succ n ih =>
      intro hn
      rw [dfI_succ]
      have h1 := ih (by omega)
      have h2 := hs a[n] (List.getElem_mem _)
      have h3 : imAt a n = a[n] := by rw [imAt, List.getD_eq_getElem?_getD, List.getElem?_eq_getElem (by omega)]; rfl
      have h4 := dfK_le (imAt a n) (imAt b n) (imAt a n).length
      rw [dfV]
      rw [h3] at h4 ⊢
      omega
  refine SWp.seq (Wp.s ?_)
  simp -implicitDefEqProofs [go_sem, args0]
  refine SWp.seq (Wp.s ?_)
  simp -implicitDefEqProofs [go_sem]
  refine SWp.join (α := Unit) (fun _ => ([(5, ci (dfI a b a.length : Nat))], H, V)) (fun _ => True) ?_ ?_
  · refine SWp.seq (Wp.s ?_)
    simp -implicitDefEqProofs [go_sem]
    refine SWp.block ?_
    refine SWp.loop (α := Nat) (fun i => ([(0, .sl .sh 1 (a.map imE)), (1, .sl .sh 1 (b.map imE)), (5, ci (dfI a b i : Nat)), (6, ci i)], H, V)) (fun i => i ≤ a.length) (fun i => a.length - i) 0 (Nat.zero_le _) (Sh.forget (by simp [go_sem, dfI]) rfl rfl) ?_
    intro v hv
    dsimp only
    refine SWp.seq (SWp.seq (Wp.s ?_))
    simp -implicitDefEqProofs [go_sem]
    refine Wp.s ?_
    simp -implicitDefEqProofs [go_sem]
    refine ⟨fun hvl => ?_, fun hvl => ?_⟩
    case refine_2 =>
      obtain rfl : v = a.length := by omega
      exact Sh.forget (by simp [go_sem]) rfl rfl
    have hvb : v < b.length := by omega
    have h3 : imAt a v = a[v] := by rw [imAt, List.getD_eq_getElem?_getD, List.getElem?_eq_getElem hvl]; rfl
    have h4 : imAt b v = b[v] := by rw [imAt, List.getD_eq_getElem?_getD, List.getElem?_eq_getElem hvb]; rfl
    have hsl : a[v].length = b[v].length := by
      have := congrArg (fun l : List Nat => l[v]?) h
      simpa [hvl, hvb] using this
    have hal := hs a[v] (List.getElem_mem hvl)
    have hdb := hbd v (by omega)
    have hsu := dfI_succ a b v
    rw [h3, h4, dfV] at hsu
    refine SWp.seq (SWp.block (SWp.seq (Wp.s ?_)))
    simp -implicitDefEqProofs [go_sem]
    refine SWp.block ?_
    refine SWp.loop (α := Nat) (fun i => ([(0, .sl .sh 1 (a.map imE)), (1, .sl .sh 1 (b.map imE)), (5, ci (dfI a b v + dfK a[v] b[v] i : Nat)), (6, ci v), (7, ci i)], H, V)) (fun i => i ≤ a[v].length) (fun i => a[v].length - i) 0 (Nat.zero_le _) (Sh.forget (by simp [go_sem, dfK]) rfl rfl) ?_
    intro i hi
    dsimp only
    refine SWp.seq (SWp.seq (Wp.s ?_))
    simp -implicitDefEqProofs [go_sem, hvl]
    refine Wp.s ?_
    simp -implicitDefEqProofs [go_sem]
    refine ⟨fun hil => ?_, fun hil => ?_⟩
    case refine_2 =>
      obtain rfl : i = a[v].length := by omega
      refine Wp.s ?_
      simp -implicitDefEqProofs [go_sem]
      refine ⟨v + 1, by omega, by omega, ?_⟩
      rw [hsu]
      refine Sh.forget ?_ rfl rfl
      simp [go_sem, wrap_succ (show v ≤ 1000000000 by omega)]
    have hib : i < b[v].length := by omega
    have hdk := dfK_succ a[v] b[v] i
    have hdl := dfK_le a[v] b[v] i
    have ga : a[v].getD i sec0 = a[v][i] := by rw [List.getD_eq_getElem?_getD, List.getElem?_eq_getElem hil]; rfl
    have gb : b[v].getD i sec0 = b[v][i] := by rw [List.getD_eq_getElem?_getD, List.getElem?_eq_getElem hib]; rfl
    rw [ga, gb] at hdk
    refine SWp.seq (SWp.block (SWp.seq (SWp.drawnT [] [] (.s 0 .pl <| .s 1 .pl <| .s 2 .pl <| .s 3 .pl <| .s 4 .pl <| .s 5 .pl <| .s 6 .pl <| .s 7 .pl <| .s 8 .pl <| .s 9 .pl <| .s 10 .pl <| .s 11 .pl <| .s 12 .pl <| .s 13 .pl <| .s 14 .pl <| .n) (by kernel_rfl) (by kernel_rfl) ?_)))
    simp -implicitDefEqProofs [go_sem, hvl, hvb, hil, hib]
    refine ⟨_, flatSec, fits_secW _, fits_secW _, fun he => ?_, fun he => ?_⟩
    · have hne : ¬ a[v][i] = b[v][i] := fun e => he (by rw [e])
      rw [if_neg hne] at hdk
      have w1 : IntKind.i64.wrap ((dfI a b v : Int) + dfK a[v] b[v] i + 1) = (dfI a b v : Int) + dfK a[v] b[v] (i + 1) := by rw [IntWalk.i64_in _ ⟨by omega, by omega⟩]; omega
      refine Wp.s ?_
      simp -implicitDefEqProofs [go_sem, w1]
      refine Wp.s ?_
      simp -implicitDefEqProofs [go_sem]
      refine ⟨i + 1, by omega, by omega, Sh.forget ?_ rfl rfl⟩
      simp [go_sem, wrap_succ (show i ≤ 1000000000 by omega)]
    · rw [if_pos (secC_inj he), Nat.add_zero] at hdk
      refine Wp.s ?_
      simp -implicitDefEqProofs [go_sem]
      refine Wp.s ?_
      simp -implicitDefEqProofs [go_sem]
      refine ⟨i + 1, by omega, by omega, ?_⟩
      rw [hdk]
      refine Sh.forget ?_ rfl rfl
      simp [go_sem, wrap_succ (show i ≤ 1000000000 by omega)]
  rintro _ -
  dsimp only
  refine SWp.seq (Wp.s ?_)
  simp -implicitDefEqProofs [go_sem]
  refine Wp.s ?_
  simp -implicitDefEqProofs [go_sem]
  exact Fin.int rfl hokH (by simp) (by simp)
end Go.Proofs.YtgoofldhelffdaaGreatDoor
namespace Go.Proofs.YtgoofldhelffdaaGreatDoor
open Go.Proofs
def atI (k : Img) (v i : Nat) : Sec := (imAt k v).getD i sec0
def posW (w : Wr) : List (Nat × Nat) := (List.range' w.start.toNat w.data.length).map fun i => (w.volume.toNat, i)
def posS (ws : List Wr) : List (Nat × Nat) := ws.flatMap posW
theorem posS_app (a b : List Wr) : posS (a ++ b) = posS a ++ posS b := by simp [posS]
theorem posW_len (w : Wr) : (posW w).length = w.data.length := by simp [posW]
theorem secN_pos : ∀ ws : List Wr, secN ws = (posS ws).length
  | [] => rfl
  | w :: ws => by
    have := secN_pos ws
    rw [secN] at this ⊢
    rw [List.map_cons, List.sum_cons, this, show posS (w :: ws) = posW w ++ posS ws from rfl, List.length_append, posW_len]
def DifI (v : Nat) (a : List Sec) (l : List Wr) : Prop := ∀ w ∈ l, w.volume = v ∧ 0 ≤ w.start ∧ ∀ j, j < w.data.length → w.data.getD j sec0 = a.getD (w.start.toNat + j) sec0
theorem difS_I {v : Nat} {a : List Sec} {l : List Wr} {i : Nat} (h : DifI v a l) : DifI v a (difS v l i (a.getD i sec0)) := by
  have hn : ∀ w : Wr, w = ⟨(v : Int), (i : Int), [a.getD i sec0]⟩ → w.volume = v ∧ 0 ≤ w.start ∧ ∀ j, j < w.data.length → w.data.getD j sec0 = a.getD (w.start.toNat + j) sec0 := by
    rintro w rfl
    refine ⟨rfl, by simp, fun j hj => ?_⟩
    obtain rfl : j = 0 := by simpa using hj
    simp
  rcases List.eq_nil_or_concat l with rfl | ⟨l0, x, rfl⟩
  · rw [difS_nil]
    intro w hw
    exact hn w (by simpa using hw)
  · rw [List.concat_eq_append] at *
    rw [difS_snoc]
    split
    · rename_i e
      intro w hw
      rcases List.mem_append.1 hw with hw | hw
      · exact h w (by simp [hw])
      · obtain rfl : w = _ := by simpa using hw
        obtain ⟨p, q, r⟩ := h x (by simp)
        refine ⟨p, q, fun j hj => ?_⟩
        dsimp only at hj ⊢
        rw [List.length_append, List.length_singleton] at hj
        by_cases hjl : j < x.data.length
        · rw [List.getD_eq_getElem?_getD, List.getElem?_append_left hjl, ← List.getD_eq_getElem?_getD]; exact r j hjl
        · obtain rfl : j = x.data.length := by omega
          rw [List.getD_eq_getElem?_getD, List.getElem?_append_right (Nat.le_refl _), Nat.sub_self, show x.start.toNat + x.data.length = i by omega]
          rfl
    · intro w hw
      rcases List.mem_append.1 hw with hw | hw
      · exact h w hw
      · exact hn w (by simpa using hw)
theorem difS_pos {v : Nat} {a : List Sec} {l : List Wr} {i : Nat} {s : Sec} (h : DifI v a l) : posS (difS v l i s) = posS l ++ [(v, i)] := by
  rcases List.eq_nil_or_concat l with rfl | ⟨l0, x, rfl⟩
  · rw [difS_nil]; simp [posS, posW]
  · rw [List.concat_eq_append] at *
    rw [difS_snoc]
    obtain ⟨p, q, r⟩ := h x (by simp)
    split
    · rename_i e
      rw [posS_app, posS_app, List.append_assoc]
      congr 1
      simp only [posS, List.flatMap_cons, List.flatMap_nil, List.append_nil, posW, List.length_append, List.length_singleton, p, Int.toNat_natCast]
      rw [List.range'_1_concat, List.map_append]
      simp; omega
    · rw [posS_app]; simp [posS, posW]
theorem difX_I (v : Nat) (a b : List Sec) (s : Nat) : ∀ c, DifI v a (difX v a b s c) ∧ posS (difX v a b s c) = ((List.range' s c).filter fun i => decide (¬ a.getD i sec0 = b.getD i sec0)).map fun i => (v, i)
  | 0 => ⟨fun w hw => by simp [difX_zero] at hw, by simp [difX_zero, posS]⟩
  | c + 1 => by
    obtain ⟨h1, h2⟩ := difX_I v a b s c
    rw [difX_succ, difStep, List.range'_1_concat, List.filter_append, List.map_append, ← h2]
    split
    · rename_i e
      refine ⟨h1, ?_⟩
      rw [List.filter_cons_of_neg (by simpa using e)]; simp
    · rename_i e
      refine ⟨difS_I h1, ?_⟩
      rw [difS_pos h1, List.filter_cons_of_pos (by simpa using e)]; rfl
theorem exStep_flat (l : List (Nat × Nat)) (x : Nat) : (exStep l x).flatMap (fun e => List.range' e.1 e.2) = l.flatMap (fun e => List.range' e.1 e.2) ++ [x] := by
  rcases List.eq_nil_or_concat l with rfl | ⟨l0, e, rfl⟩
  · simp [exStep_nil]
  · rw [List.concat_eq_append, exStep_snoc]
    split
    · rename_i h
      rw [List.flatMap_append, List.flatMap_append]
      simp [List.range'_1_concat, h]
    · rw [List.flatMap_append]; simp
theorem runsN_flat (xs : List Nat) : (runsN xs).flatMap (fun e => List.range' e.1 e.2) = xs := by
  induction xs using snoc_ind with
  | h0 => simp [runsN]
  | h1 xs x ih => rw [runsN_snoc, exStep_flat, ih]
theorem trV_pos (v : Nat) (a b : List Sec) (l : List (Nat × Nat)) : posS (trV' v a b l) = ((l.flatMap fun e => List.range' e.1 e.2).filter fun i => decide (¬ a.getD i sec0 = b.getD i sec0)).map fun i => (v, i) := by
  induction l with
  | nil => simp [trV', posS]
  | cons e l ih =>
    rw [trV', List.flatMap_cons, ← trV', posS_app, ih, (difX_I v a b e.1 e.2).2, List.flatMap_cons, List.filter_append, List.map_append]
theorem trV_I (v : Nat) (a b : List Sec) (l : List (Nat × Nat)) : DifI v a (trV' v a b l) := by
  intro w hw
  obtain ⟨e, _, hw⟩ := List.mem_flatMap.1 hw
  exact (difX_I v a b e.1 e.2).1 w hw
theorem trV_B {v : Nat} {a b : List Sec} {l : List (Nat × Nat)} {n : Nat} (h : ∀ e ∈ l, e.1 + e.2 ≤ n) : ∀ w ∈ trV' v a b l, 0 ≤ w.start ∧ w.start + w.data.length ≤ n ∧ w.data ≠ [] := by
  intro w hw
  obtain ⟨e, he, hw⟩ := List.mem_flatMap.1 hw
  obtain ⟨p, q, r⟩ := (difX_bd v a b e.1 e.2).2 w hw
  have := h e he
  exact ⟨p, by omega, r⟩
def WrI (P : Img) (w : Wr) : Prop := fitsS (imgSz P) w = 0 ∧ ∀ j, j < w.data.length → w.data.getD j sec0 = atI P w.volume.toNat (w.start.toNat + j)
def apA (k : Img) (ws : List Wr) : Img := ws.foldl ap1 k
theorem apI_A : ∀ (ws : List Wr) (k : Img) (i : Nat), (∀ w ∈ ws, fitsS (imgSz k) w = 0) → apI k ws i = (apA k ws, 0, 0)
  | [], k, i, _ => rfl
  | w :: ws, k, i, h => by
    have h0 := h w (by simp)
    have hs : imgSz (ap1 k w) = imgSz k := by
      have := ap1_sz h0
      rw [imgSz, imgSz]
      have := congrArg (List.map fun (n : Nat) => (n : Int)) this
      rw [List.map_map, List.map_map] at this
      exact this
    rw [apI, if_neg (by simp [h0]), apI_A ws _ _ fun x hx => by rw [hs]; exact h x (by simp [hx])]
    rfl
theorem putV_at {v d : List Sec} {p i : Nat} (h : p + d.length ≤ v.length) : (putV v p d).getD i sec0 = if p ≤ i ∧ i < p + d.length then d.getD (i - p) sec0 else v.getD i sec0 := by
  rw [putV, List.getD_eq_getElem?_getD, List.getD_eq_getElem?_getD, List.getD_eq_getElem?_getD, splice_get v d p i (by omega)]
  by_cases h1 : i < p
  · rw [if_pos h1, if_neg (by omega)]
  · rw [if_neg h1]
    by_cases h2 : i < p + d.length
    · rw [if_pos h2, if_pos ⟨by omega, h2⟩]
    · rw [if_neg h2, if_neg (by omega)]
theorem ap1_at {k : Img} {w : Wr} (hf : fitsS (imgSz k) w = 0) (v i : Nat) : atI (ap1 k w) v i = if (v, i) ∈ posW w then w.data.getD (i - w.start.toNat) sec0 else atI k v i := by
  obtain ⟨n, hvn, hnk, hd0, p, hpn, hpl⟩ := fitsI_0 hf
  have hmem : (v, i) ∈ posW w ↔ v = n ∧ p ≤ i ∧ i < p + w.data.length := by
    rw [posW, hvn, hpn, Int.toNat_natCast, Int.toNat_natCast, List.mem_map]
    constructor
    · rintro ⟨j, hj, e⟩
      rw [Prod.mk.injEq] at e
      rw [List.mem_range'_1] at hj
      omega
    · rintro ⟨rfl, h1, h2⟩
      exact ⟨i, by rw [List.mem_range'_1]; omega, rfl⟩
  have hg : k.getD n [] = k[n] := by rw [List.getD_eq_getElem?_getD, List.getElem?_eq_getElem hnk]; rfl
  rw [ap1, hvn, hpn, Int.toNat_natCast, Int.toNat_natCast, hg]
  by_cases hv : v = n
  · subst hv
    have e1 : imAt (k.set v (putV k[v] p w.data)) v = putV k[v] p w.data := by
      rw [imAt, List.getD_eq_getElem?_getD, List.getElem?_set_self hnk]; rfl
    have e2 : imAt k v = k[v] := hg
    rw [atI, e1, putV_at hpl, atI, e2]
    by_cases hc : p ≤ i ∧ i < p + w.data.length
    · rw [if_pos hc, if_pos (hmem.2 ⟨rfl, hc⟩)]
    · rw [if_neg hc, if_neg fun q => hc (hmem.1 q).2]
  · rw [if_neg fun q => hv (hmem.1 q).1, atI, atI]
    have : imAt (k.set n (putV k[n] p w.data)) v = imAt k v := by
      rw [imAt, imAt, List.getD_eq_getElem?_getD, List.getD_eq_getElem?_getD, List.getElem?_set_ne (fun e => hv e.symm)]
    rw [this]
theorem apA_at {P : Img} : ∀ (ws : List Wr) (k : Img), k.map List.length = P.map List.length → (∀ w ∈ ws, WrI P w) → (apA k ws).map List.length = P.map List.length ∧ ∀ v i, atI (apA k ws) v i = if (v, i) ∈ posS ws then atI P v i else atI k v i
  | [], k, hk, _ => ⟨hk, fun v i => by simp [posS, apA]⟩
  | w :: ws, k, hk, h => by
    obtain ⟨h1, h2⟩ := h w (by simp)
    have hz : imgSz k = imgSz P := by
      rw [sz_imgSz hk, sz_imgSz rfl]
    have hf : fitsS (imgSz k) w = 0 := by rw [hz]; exact h1
    obtain ⟨a, b⟩ := apA_at ws (ap1 k w) ((ap1_sz hf).trans hk) fun x hx => h x (by simp [hx])
    refine ⟨a, fun v i => ?_⟩
    have hb : atI (apA k (w :: ws)) v i = _ := b v i
    rw [hb, ap1_at hf]
    have hm : (v, i) ∈ posS (w :: ws) ↔ (v, i) ∈ posW w ∨ (v, i) ∈ posS ws := by simp [posS]
    by_cases c1 : (v, i) ∈ posS ws
    · rw [if_pos c1, if_pos (hm.2 (.inr c1))]
    · rw [if_neg c1]
      by_cases c2 : (v, i) ∈ posW w
      · rw [if_pos c2, if_pos (hm.2 (.inl c2))]
        rw [posW, List.mem_map] at c2
        obtain ⟨j, hj, e⟩ := c2
        rw [Prod.mk.injEq] at e
        rw [List.mem_range'_1] at hj
        obtain ⟨rfl, rfl⟩ := e
        rw [h2 _ (by omega)]
        congr 1; omega
      · rw [if_neg c2, if_neg fun q => (hm.1 q).elim c2 c1]
theorem img_at_ext {a b : Img} (h : a.map List.length = b.map List.length) (he : ∀ v i, atI a v i = atI b v i) : a = b := by
  have hl : a.length = b.length := by simpa using congrArg List.length h
  refine List.ext_getElem hl fun v h1 h2 => ?_
  have hlv : a[v].length = b[v].length := by
    have := congrArg (fun l : List Nat => l[v]?) h
    simpa [h1, h2] using this
  refine List.ext_getElem hlv fun i h3 h4 => ?_
  have := he v i
  simpa [atI, imAt, List.getD_eq_getElem?_getD, h1, h2, h3, h4] using this
end Go.Proofs.YtgoofldhelffdaaGreatDoor
namespace Go.Proofs.YtgoofldhelffdaaGreatDoor
open Go.Proofs
def mkL (p q : Pt) (v : Nat) : List Nat := elsN (p.dirty.getD v ⟨1, 0⟩).n ((p.dirty.getD v ⟨1, 0⟩).w ||| (q.dirty.getD v ⟨1, 0⟩).w)
theorem mkd_getD (p q : Pt) (v : Nat) (h : v < p.dirty.length) : (mkd p q).getD v [] = runsN (mkL p q v) := by
  rw [List.getD_eq_getElem?_getD, List.getElem?_eq_getElem (by rw [mkd_len]; exact h)]
  simp [mkd, mk1, mkL]
theorem trT_pos (p q : Pt) : ∀ n, n ≤ p.dirty.length → posS (trT p q n) = (List.range n).flatMap fun v => ((mkL p q v).filter fun i => decide (¬ atI p.im v i = atI q.im v i)).map fun i => (v, i)
  | 0, _ => by simp [trT, posS]
  | n + 1, h => by
    rw [trT_succ, posS_app, trT_pos p q n (by omega), trV_pos, mkd_getD p q n (by omega), runsN_flat, List.range_succ, List.flatMap_append]
    simp [atI]
theorem mkL_lt {p q : Pt} {v i : Nat} (h : i ∈ mkL p q v) : i < (p.dirty.getD v ⟨1, 0⟩).n := (elsN_mem.1 h).1
theorem Pt2.dirtyN {p q : Pt} (h : Pt2 p q) (v : Nat) (hv : v < p.dirty.length) : (p.dirty.getD v ⟨1, 0⟩).n = (imAt p.im v).length := by
  have hvi : v < p.im.length := by rw [← h.hp.len]; exact hv
  have := (h.hp.dirty v hv hvi).2
  rw [List.getD_eq_getElem?_getD, List.getElem?_eq_getElem hv, imAt, List.getD_eq_getElem?_getD, List.getElem?_eq_getElem hvi]
  exact this
theorem trT_I {p q : Pt} (h : Pt2 p q) : ∀ n, n ≤ p.dirty.length → ∀ w ∈ trT p q n, WrI p.im w
  | 0, _, w, hw => by simp [trT] at hw
  | n + 1, hn, w, hw => by
    rw [trT_succ, List.mem_append] at hw
    rcases hw with hw | hw
    · exact trT_I h n (by omega) w hw
    · obtain ⟨a, b, c⟩ := trV_I _ _ _ _ w hw
      have hd := h.dirtyN n (by omega)
      have hbd : ∀ e ∈ (mkd p q).getD n [], e.1 + e.2 ≤ (imAt p.im n).length := by
        rw [mkd_getD p q n (by omega), ← hd]
        exact runsN_bd fun x hx => mkL_lt hx
      obtain ⟨e1, e2, e3⟩ := trV_B hbd w hw
      have hni : n < p.im.length := by rw [← h.hp.len]; omega
      refine ⟨?_, fun j hj => ?_⟩
      · have hg : (imgSz p.im).getD n 0 = ((imAt p.im n).length : Int) := by
          rw [imAt, imgSz, List.getD_eq_getElem?_getD, List.getD_eq_getElem?_getD, List.getElem?_map, List.getElem?_eq_getElem hni]; rfl
        have e4 : w.data.length ≠ 0 := by simpa using e3
        rw [fitsS, a, imgSz, List.length_map, ← imgSz, Int.toNat_natCast, hg, if_neg (by omega), if_neg e4, if_neg (by omega)]
      · rw [c j hj, a, Int.toNat_natCast]; rfl
def Cov (b : Img) (d : List Bm) (k : Img) : Prop := ∀ v i, (d.getD v ⟨1, 0⟩).w.testBit i = false → atI k v i = atI b v i
def CovP (p q : Pt) : Prop := ∀ v i, ((p.dirty.getD v ⟨1, 0⟩).w ||| (q.dirty.getD v ⟨1, 0⟩).w).testBit i = false → atI p.im v i = atI q.im v i
theorem CovP.of {b : Img} {p q : Pt} (h : Cov b p.dirty p.im) (g : Cov b q.dirty q.im) : CovP p q := fun v i hi => by
  rw [Nat.testBit_or, Bool.or_eq_false_iff] at hi
  rw [h v i hi.1, g v i hi.2]
theorem atI_out {k : Img} {v i : Nat} (h : (imAt k v).length ≤ i) : atI k v i = sec0 := by
  rw [atI, List.getD_eq_getElem?_getD, List.getElem?_eq_none h]; rfl
theorem imAt_out {k : Img} {v : Nat} (h : k.length ≤ v) : imAt k v = [] := by
  rw [imAt, List.getD_eq_getElem?_getD, List.getElem?_eq_none h]; rfl
theorem imAt_len {a b : Img} (h : a.map List.length = b.map List.length) (v : Nat) : (imAt a v).length = (imAt b v).length := by
  have := congrArg (fun l : List Nat => l[v]?) h
  simp only [List.getElem?_map] at this
  rw [imAt, imAt, List.getD_eq_getElem?_getD, List.getD_eq_getElem?_getD]
  cases h1 : a[v]? <;> cases h2 : b[v]? <;> simp [h1, h2] at this ⊢
  exact this
theorem trT_mem {p q : Pt} (h : Pt2 p q) (hc : CovP p q) (v i : Nat) (hne : ¬ atI p.im v i = atI q.im v i) : (v, i) ∈ posS (trT p q p.dirty.length) := by
  rw [trT_pos p q _ (Nat.le_refl _), List.mem_flatMap]
  have hlen := imAt_len h.sz v
  have hi : i < (imAt p.im v).length := by
    rcases Nat.lt_or_ge i (imAt p.im v).length with h1 | h1
    · exact h1
    · exact absurd ((atI_out h1).trans (atI_out (by omega)).symm) hne
  have hv : v < p.dirty.length := by
    rcases Nat.lt_or_ge v p.im.length with h1 | h1
    · rw [h.hp.len]; exact h1
    · rw [imAt_out h1] at hi; simp at hi
  refine ⟨v, List.mem_range.2 hv, List.mem_map.2 ⟨i, List.mem_filter.2 ⟨elsN_mem.2 ⟨by rw [h.dirtyN v hv]; exact hi, ?_⟩, by simpa using hne⟩, rfl⟩⟩
  cases ht : ((p.dirty.getD v ⟨1, 0⟩).w ||| (q.dirty.getD v ⟨1, 0⟩).w).testBit i
  · exact absurd (hc v i ht) hne
  · rfl
theorem trT_apply {p q : Pt} (h : Pt2 p q) (hc : CovP p q) : apR q.im (trT p q p.dirty.length) = (p.im, 0, 0) := by
  have hI := trT_I h _ (Nat.le_refl _)
  have hz : imgSz q.im = imgSz p.im := by rw [sz_imgSz h.sz.symm, sz_imgSz rfl]
  obtain ⟨a, b⟩ := apA_at (trT p q p.dirty.length) q.im h.sz.symm hI
  rw [apR, hz, h.hp.im, if_neg (by simp), apI_A _ _ _ fun w hw => by rw [hz]; exact (hI w hw).1]
  rw [img_at_ext a fun v i => ?_]
  rw [b]
  split
  · rfl
  · rename_i hn
    rcases Classical.em (atI p.im v i = atI q.im v i) with e | e
    · exact e.symm
    · exact absurd (trT_mem h hc v i e) hn
theorem filter_sub {α : Type} : ∀ (l : List α) (p q : α → Bool), (∀ x ∈ l, p x = true → q x = true) → l.filter p = (l.filter q).filter p
  | [], _, _, _ => rfl
  | x :: l, p, q, h => by
    have ih := filter_sub l p q fun y hy => h y (by simp [hy])
    by_cases hp : p x = true
    · rw [List.filter_cons_of_pos hp, List.filter_cons_of_pos (h x (by simp) hp), List.filter_cons_of_pos hp, ih]
    · rw [List.filter_cons_of_neg hp, ih]
      by_cases hq : q x = true
      · rw [List.filter_cons_of_pos hq, List.filter_cons_of_neg hp]
      · rw [List.filter_cons_of_neg hq]
theorem trT_sec {p q : Pt} (h : Pt2 p q) (hc : CovP p q) : secN (trT p q p.dirty.length) = dfI q.im p.im q.im.length := by
  have hq : q.im.length = p.dirty.length := by rw [h.len, h.hq.len]
  rw [secN_pos, trT_pos p q _ (Nat.le_refl _), hq, List.length_flatMap, dfI]
  congr 1
  refine List.map_congr_left fun v hv => ?_
  have hv' := List.mem_range.1 hv
  rw [List.length_map, dfV, dfK, ← imAt_len h.sz v, ← h.dirtyN v hv']
  rw [filter_sub (List.range _) _ (fun i => ((p.dirty.getD v ⟨1, 0⟩).w ||| (q.dirty.getD v ⟨1, 0⟩).w).testBit i) fun i _ hi => ?_]
  · rw [mkL, elsN]
    congr 2
    funext i
    congr 1
    exact propext ⟨fun e f => e f.symm, fun e f => e f.symm⟩
  · cases ht : ((p.dirty.getD v ⟨1, 0⟩).w ||| (q.dirty.getD v ⟨1, 0⟩).w).testBit i
    · have := hc v i ht
      simp [atI] at this
      simp [this] at hi
    · rfl
def mkN (p q : Pt) (n : Nat) : Nat := ((List.range n).map fun v => (mkL p q v).length).sum
theorem mkN_succ (p q : Pt) (n : Nat) : mkN p q (n + 1) = mkN p q n + (mkL p q n).length := by
  rw [mkN, List.range_succ, List.map_append, List.sum_append]; simp [mkN]
theorem trT_mk (p q : Pt) : ∀ n, n ≤ p.dirty.length → secN (trT p q n) ≤ mkN p q n := by
  intro n hn
  rw [secN_pos, trT_pos p q n hn, List.length_flatMap]
  clear hn
  induction n with
  | zero => simp [mkN]
  | succ n ih =>
    rw [mkN_succ, List.range_succ, List.map_append, List.sum_append]
    have := List.length_filter_le (fun i => decide (¬ atI p.im n i = atI q.im n i)) (mkL p q n)
    simp at ih this ⊢
    omega
theorem trT_congr {p p' q : Pt} (h1 : p.im = p'.im) (h2 : p.dirty = p'.dirty) (n : Nat) : trT p q n = trT p' q n := by
  simp only [trT, mkd, h1, h2]
end Go.Proofs.YtgoofldhelffdaaGreatDoor
namespace Go.Proofs.YtgoofldhelffdaaGreatDoor
open Go.Proofs
theorem mkW_bit {d : List Bm} {v s c : Nat} (hv : v < d.length) (u i : Nat) : ((mkW d v s c).getD u ⟨1, 0⟩).w.testBit i = ((d.getD u ⟨1, 0⟩).w.testBit i || (decide (u = v) && decide (s ≤ i) && decide (i < s + c))) := by
  rw [mkW, List.getD_eq_getElem?_getD]
  by_cases h : v = u
  · subst h
    rw [List.getElem?_set_self hv, Option.getD_some]
    simp only [setB]
    rw [Nat.testBit_or, maskN_bit]
    simp
  · rw [List.getElem?_set_ne h, ← List.getD_eq_getElem?_getD]
    simp [show ¬ u = v from fun e => h e.symm]
theorem Cov.step {b k : Img} {d : List Bm} {x : Pst} (hk : k.map List.length = pz) (hd : d.length = 2) (h : Cov b d k) : Cov b (mkW d (pV x) (pS x) (pK x + 1)) (ap1 k (pW x)) := fun v i hi => by
  rw [mkW_bit (by rw [hd]; exact pV_lt x), Bool.or_eq_false_iff] at hi
  rw [ap1_at (pW_fits hk x), if_neg, h v i hi.1]
  intro hm
  rw [posW, List.mem_map] at hm
  obtain ⟨j, hj, e⟩ := hm
  rw [Prod.mk.injEq] at e
  rw [List.mem_range'_1, pW_len] at hj
  obtain ⟨e1, e2⟩ := e
  have e3 : (pW x).volume.toNat = pV x := Int.toNat_natCast _
  have e4 : (pW x).start.toNat = pS x := Int.toNat_natCast _
  rw [e4] at hj
  have h2 := hi.2
  rw [← e1, e3, ← e2] at h2
  simp at h2
  omega
theorem ppF_cov {b : Img} (hb : b.map List.length = pz) (l : List Pst) : Cov b (ppD (cleanB pz) l) (ppI b l) := by
  induction l using snoc_ind with
  | h0 => exact fun _ _ _ => rfl
  | h1 l x ih =>
    rw [ppD_snoc, ppI_snoc]
    exact ih.step (ppI_sz hb l) (by rw [(ppD_ok (cleanB_ok pz_ok) l).len]; rfl)
theorem ptAt_cov (x : Psx) (i : Nat) : Cov (baseI x) (ptAt x i).dirty (ptAt x i).im := ppF_cov (baseI_sz x) _
theorem ptsF_cov (x : Psx) : ∀ p ∈ ptsF x 3, Cov (baseI x) p.dirty p.im := fun p hp => by
  obtain ⟨i, hi, rfl⟩ := List.mem_map.1 hp
  exact ptAt_cov x i
theorem trT_small {p q : Pt} (h : Pt2 p q) (hs : ∀ v ∈ p.im, v.length ≤ 63) : ∀ w ∈ trT p q p.dirty.length, w.data.length ≤ 63 := fun w hw => by
  obtain ⟨h1, _⟩ := trT_I h _ (Nat.le_refl _) w hw
  obtain ⟨n, hvn, hnk, hd0, s, hpn, hpl⟩ := fitsI_0 h1
  have := hs _ (List.getElem_mem hnk)
  omega
def mkK (p q : Pt) (v k : Nat) : Nat := ((List.range k).filter fun i => ((p.dirty.getD v ⟨1, 0⟩).w ||| (q.dirty.getD v ⟨1, 0⟩).w).testBit i).length
theorem mkK_succ (p q : Pt) (v k : Nat) : mkK p q v (k + 1) = mkK p q v k + (if ((p.dirty.getD v ⟨1, 0⟩).w.testBit k || (q.dirty.getD v ⟨1, 0⟩).w.testBit k) = true then 1 else 0) := by
  rw [mkK, List.range_succ, List.filter_append, List.length_append, ← mkK]
  congr 1
  rw [← Nat.testBit_or]
  by_cases h : ((p.dirty.getD v ⟨1, 0⟩).w ||| (q.dirty.getD v ⟨1, 0⟩).w).testBit k = true
  · rw [if_pos h, List.filter_cons_of_pos h]; rfl
  · rw [if_neg h, List.filter_cons_of_neg h]; rfl
theorem mkK_le (p q : Pt) (v k : Nat) : mkK p q v k ≤ k := by
  have := List.length_filter_le (fun i => ((p.dirty.getD v ⟨1, 0⟩).w ||| (q.dirty.getD v ⟨1, 0⟩).w).testBit i) (List.range k)
  rwa [List.length_range] at this
theorem mkK_all {p q : Pt} {v n : Nat} (h : (p.dirty.getD v ⟨1, 0⟩).n = n) : mkK p q v n = (mkL p q v).length := by
  rw [mkK, mkL, elsN, h]
end Go.Proofs.YtgoofldhelffdaaGreatDoor
namespace Go.Proofs.YtgoofldhelffdaaGreatDoor
open Go.Proofs
theorem same22_cc (H : Hp) (V : List Nat) (x y : List Wr) (hl : x.length ≤ 1000000000) (hw : WrS x) : CC Tryz.prog 10 [.sl .sh 3 (x.map wrC), .sl .sh 3 (y.map wrC)] H V (Pu (cb (decide (x = y))) H V) := by
  refine CC.of_swp Tryz.func10 rfl (by kernel_rfl) (by rw [Tryz.ntmps10]; exact len_le _ _ rfl) fun hok hokH => ?_
  clear hok
  refine SWp.seq (Wp.s ?_)
  simp -implicitDefEqProofs [go_sem, args0]
  refine SWp.seq (Wp.s ?_)
  simp -implicitDefEqProofs [go_sem]
  refine CC.mono (SameWrs_cc _ _ .sh .sh x y hl hw) ?_
  rintro _ _ _ ⟨rfl, rfl, rfl⟩
  simp -implicitDefEqProofs [go_sem]
  refine Wp.s ?_
  simp -implicitDefEqProofs [go_sem]
  exact Fin.bool rfl hokH (by simp) (by simp)
def st5 : Pst := ⟨0, 0, 0, 0, 5⟩
def pA : Pt := ppF 0 im0 [st5] 1 2
def pB : Pt := ppF 1 im0 [] 1 1
def w5 : List Wr := [⟨0, 0, [⟨[5, 0, 0, 0, 0, 0, 0, 0], rfl⟩]⟩]
theorem trT_5 : trT pA pB 2 = w5 := by kernel_rfl
theorem pAB_ok : PtsOk [pA, pB] pz := ⟨by decide, by decide, fun p hp => by
  rcases List.mem_cons.1 hp with rfl | hp
  · exact ppF_ok (by decide) im0_sz fun _ => by decide
  · obtain rfl : p = pB := by simpa using hp
    exact ppF_ok (by decide) im0_sz fun _ => by decide, fun p hp => by
  rcases List.mem_cons.1 hp with rfl | hp
  · exact ppI_sz im0_sz _
  · obtain rfl : p = pB := by simpa using hp
    exact ppI_sz im0_sz _⟩
set_option maxRecDepth 8000 in
set_option maxHeartbeats 1600000 in
theorem playCompared_cc (H : Hp) (V : List Nat)  : CC Tryz.prog 6 [] H V (Pu (cb true) H V) := by
  refine CC.of_swp Tryz.func6 rfl (by kernel_rfl) (by rw [Tryz.ntmps6]; exact len_le _ _ rfl) fun hok hokH => ?_
  clear hok
  have hzl := zI_len pz
  refine SWp.seq (Wp.s ?_)
  simp -implicitDefEqProofs [go_sem, args0]
  refine SWp.seq (Wp.s ?_)
  simp -implicitDefEqProofs [go_sem]
  refine CC.mono (playSizes_cc _ _) ?_
  rintro _ _ _ ⟨rfl, rfl, rfl⟩
  simp -implicitDefEqProofs [go_sem]
  refine CC.mono (New_cc _ _ .sh (zI pz) (by rw [hzl]; decide)) ?_
  rintro _ _ _ ⟨rfl, rfl, rfl⟩
  rw [pz_ok.sizes]
  simp -implicitDefEqProofs [go_sem]
  refine SWp.seq (SWp.seq (Wp.s ?_))
  simp -implicitDefEqProofs [go_sem]
  refine Wp.s ?_
  simp -implicitDefEqProofs [go_sem]
  refine SWp.seq (Wp.s ?_)
  simp -implicitDefEqProofs [go_sem]
  refine CC.le (.cons (.refl _) (.cons (.refl _) (.cons (.sh _ _ _) (.cons (.refl _) (.cons (.refl _) .nil))))) ?_
  refine CC.mono (playPoint_cc _ _ 0 im0 [st5] 1 2 (by decide) im0_sz (by decide) (fun _ => by decide)) ?_
  rintro _ _ _ ⟨rfl, rfl, rfl⟩
  rw [show ppF 0 im0 [st5] 1 2 = pA from rfl]
  simp -implicitDefEqProofs [go_sem]
  refine SWp.seq (Wp.s ?_)
  simp -implicitDefEqProofs [go_sem]
  refine CC.le (.cons (.refl _) (.cons (.refl _) (.cons (.nil 5 (by decide)) (.cons (.refl _) (.cons (.refl _) .nil))))) ?_
  refine CC.mono (playPoint_cc _ _ 1 im0 [] 1 1 (by decide) im0_sz (by decide) (fun _ => by decide)) ?_
  rintro _ _ _ ⟨rfl, rfl, rfl⟩
  rw [show ppF 1 im0 [] 1 1 = pB from rfl]
  simp -implicitDefEqProofs [go_sem]
  refine SWp.seq (Wp.s ?_)
  simp -implicitDefEqProofs [go_sem]
  refine SWp.seq (Wp.s ?_)
  simp -implicitDefEqProofs [go_sem]
  refine CC.le (.cons (.sh _ _ _) (.cons (.sh _ _ _) .nil)) ?_
  refine CC.mono (choose_cc _ _ [pA, pB] pz [false, false] pAB_ok rfl) ?_
  rintro _ _ _ ⟨hr, rfl, rfl⟩
  have hr' : ∀ r : CV, ((r = .tup [ci 0, er 17] ∧ ∀ j, j < [false, false].length → [false, false][j]? = some true) ∨ ∃ j : Nat, r = .tup [ci j, er 0] ∧ j < [false, false].length ∧ [false, false][j]? = some false ∧ ∃ p, [pA, pB][j]? = some p ∧ ∀ j' q, j' < [false, false].length → [false, false][j']? = some false → [pA, pB][j']? = some q → lexLe (hdF q.lin) (hdF p.lin)) → r = .tup [ci 0, er 0] := by
    rintro r (⟨_, h⟩ | ⟨j, rfl, hj, _, p, hp, h⟩)
    · have := h 0 (by decide)
      simp at this
    · have hj' : j = 0 ∨ j = 1 := by simp at hj; omega
      rcases hj' with rfl | rfl
      · rfl
      · obtain rfl : pB = p := by simpa using hp
        have := h 0 pA (by decide) rfl rfl
        rw [show hdF pA.lin = (1, 2) from rfl, show hdF pB.lin = (1, 1) from rfl] at this
        simp [lexLe] at this
  obtain rfl := hr' _ hr
  clear hr hr'
  simp -implicitDefEqProofs [go_sem]
  refine SWp.seq (Wp.s ?_)
  simp -implicitDefEqProofs [go_sem]
  refine CC.le (.cons (.sh _ _ _) (.cons (.refl _) (.cons (.refl _) .nil))) ?_
  refine CC.mono (transfer_cc _ _ [pA, pB] pz 0 1 pAB_ok (by decide) (by decide) (by decide)) ?_
  rintro _ _ _ ⟨rfl, rfl, rfl⟩
  rw [show trT ([pA, pB][0]) ([pA, pB][1]) ([pA, pB][0]).dirty.length = w5 from trT_5]
  simp -implicitDefEqProofs [go_sem]
  refine SWp.seq (Wp.s ?_)
  simp -implicitDefEqProofs [go_sem]
  refine CC.le (.cons (.refl _) (.cons (.sle _ _ (.cons (.cons (.refl _) (.cons (.refl _) (.cons (.sh _ _ _) .nil))) .nil)) .nil)) ?_
  refine CC.mono (same22_cc _ _ w5 w5 (by decide) (fun w hw => by
    obtain rfl : w = _ := by simpa [w5] using hw
    decide)) ?_
  rintro _ _ _ ⟨rfl, rfl, rfl⟩
  simp -implicitDefEqProofs [go_sem]
  refine Wp.s ?_
  simp -implicitDefEqProofs [go_sem]
  exact Fin.bool (by simp) hokH (by simp) (by simp)
end Go.Proofs.YtgoofldhelffdaaGreatDoor
namespace Go.Proofs.YtgoofldhelffdaaGreatDoor
open Go.Proofs
set_option maxRecDepth 8000 in
set_option maxHeartbeats 3200000 in
theorem Least_law (H : Hp) (V : List Nat) (x : Psx) (hb : x.base.length ≤ 9223372036854775807) (hw : ∀ i, i < 3 → (wsAt x i).length ≤ 9223372036854775807) : CC Tryz.prog 4 [.agg (psxC x)] H V (Pu (cb true) H V) := by
  refine CC.of_swp Tryz.func4 rfl (by kernel_rfl) (by rw [Tryz.ntmps4]; exact len_le _ _ rfl) fun hok hokH => ?_
  clear hok
  refine SWp.seq (Wp.s ?_)
  simp -implicitDefEqProofs [go_sem, args0]
  refine SWp.seq (Wp.s ?_)
  simp -implicitDefEqProofs [go_sem]
  refine CC.mono (playPoints_cc _ _ x hb hw) ?_
  rintro _ _ _ ⟨rfl, rfl, rfl⟩
  rw [ppsV]
  by_cases hok : okPs x = true
  case neg =>
    rw [if_neg hok]
    simp -implicitDefEqProofs [go_sem]
    refine SWp.seq (SWp.seq (Wp.s ?_))
    simp -implicitDefEqProofs [go_sem]
    refine Wp.s ?_
    simp -implicitDefEqProofs [go_sem]
    refine SWp.seq (SWp.seq (Wp.s ?_))
    simp -implicitDefEqProofs [go_sem]
    refine Wp.s ?_
    simp -implicitDefEqProofs [go_sem]
    refine CC.mono (playCompared_cc _ _) ?_
    rintro _ _ _ ⟨rfl, rfl, rfl⟩
    simp -implicitDefEqProofs [go_sem]
    exact Fin.bool rfl hokH (by simp) (by simp)
  rw [if_pos hok]
  have hpo := ptsF_ok x
  have hpl := ptsF_len x 3
  have hll := losF_len x 3
  have hcv := ptsF_cov x
  generalize ptsF x 3 = pts at hpo hpl hcv ⊢
  generalize losF x 3 = los at hll ⊢
  generalize baseI x = bI at hcv
  simp -implicitDefEqProofs [go_sem]
  refine SWp.seq (SWp.seq (Wp.s ?_))
  simp -implicitDefEqProofs [go_sem]
  refine Wp.s ?_
  simp -implicitDefEqProofs [go_sem]
  refine SWp.seq (SWp.seq (Wp.s ?_))
  simp -implicitDefEqProofs [go_sem, hpl]
  refine Wp.s ?_
  simp -implicitDefEqProofs [go_sem]
  refine SWp.seq (Wp.s ?_)
  simp -implicitDefEqProofs [go_sem]
  refine CC.mono (choose_cc _ _ pts pz los hpo (by omega)) ?_
  rintro _ _ _ ⟨hr, rfl, rfl⟩
  rcases hr with ⟨rfl, hall⟩ | ⟨j, rfl, hj, hjl, -⟩
  · have l0 : los[0]'(by omega) = true := by have := hall 0 (by omega); rw [List.getElem?_eq_getElem (by omega)] at this; simpa using this
    have l1 : los[1]'(by omega) = true := by have := hall 1 (by omega); rw [List.getElem?_eq_getElem (by omega)] at this; simpa using this
    have l2 : los[2]'(by omega) = true := by have := hall 2 (by omega); rw [List.getElem?_eq_getElem (by omega)] at this; simpa using this
    simp -implicitDefEqProofs [go_sem]
    refine SWp.seq (SWp.seq (Wp.s ?_))
    simp -implicitDefEqProofs [go_sem]
    refine Wp.s ?_
    simp -implicitDefEqProofs [go_sem, hll, boL, l0, l1, l2]
    refine CC.mono (playCompared_cc _ _) ?_
    rintro _ _ _ ⟨rfl, rfl, rfl⟩
    simp -implicitDefEqProofs [go_sem]
    exact Fin.bool rfl hokH (by simp) (by simp)
  have hj3 : j < 3 := by omega
  have hlo : los[j]'(by omega) = false := by rw [List.getElem?_eq_getElem hj] at hjl; simpa using hjl
  simp -implicitDefEqProofs [go_sem]
  refine SWp.seq (SWp.seq (Wp.s ?_))
  simp -implicitDefEqProofs [go_sem]
  refine Wp.s ?_
  simp -implicitDefEqProofs [go_sem]
  refine SWp.seq (SWp.seq (Wp.s ?_))
  have j1 : ¬ (j : Int) < 0 := by omega
  have j2 : ¬ (2 : Int) < j := by omega
  simp -implicitDefEqProofs [go_sem, j1, j2, boL, hj, hlo]
  refine Wp.s ?_
  simp -implicitDefEqProofs [go_sem]
  have hjp : j < pts.length := by omega
  have hpz : pz.length = 2 := rfl
  refine SWp.join (α := Unit) (fun _ => ([], H, V)) (fun _ => True) ?_ ?_
  · refine SWp.seq (Wp.s ?_)
    simp -implicitDefEqProofs [go_sem]
    refine SWp.block ?_
    refine SWp.loop (α := Nat) (fun i => ([(3, .sl .sh 4 (pts.map ptC)), (6, ci j), (8, ci i)], H, V)) (fun i => i ≤ 3) (fun i => 3 - i) 0 (Nat.zero_le _) ?_ ?_
    · exact Sh.trim0 (by simp [go_sem]) (by simp [go_sem, okE_pts]) hokH (Nat.le_refl _) (by simp) (by simp)
    intro i hi
    dsimp only
    refine SWp.seq (SWp.seq (Wp.s ?_))
    simp -implicitDefEqProofs [go_sem]
    refine Wp.s ?_
    simp -implicitDefEqProofs [go_sem]
    refine ⟨fun h0 => ?_, fun h0 => ?_⟩
    case refine_2 =>
      exact Sh.forget (by simp [go_sem]) rfl rfl
    have hil : i < pts.length := by omega
    have hP2 : Pt2 pts[j] pts[i] := ⟨hpo.ok _ (List.getElem_mem hjp), hpo.ok _ (List.getElem_mem hil), (hpo.sz _ (List.getElem_mem hjp)).trans (hpo.sz _ (List.getElem_mem hil)).symm⟩
    have hCov := CovP.of (hcv _ (List.getElem_mem hjp)) (hcv _ (List.getElem_mem hil))
    have hsj := hpo.sz _ (List.getElem_mem hjp)
    have hsi := hpo.sz _ (List.getElem_mem hil)
    refine SWp.seq (SWp.block (SWp.seq (Wp.s ?_)))
    simp -implicitDefEqProofs [go_sem]
    refine CC.mono (transfer_cc _ _ pts pz j i hpo hjp hil (by decide)) ?_
    rintro _ _ _ ⟨rfl, rfl, rfl⟩
    have hdl : pts[j].dirty.length = 2 := by
      have := congrArg List.length hsj
      rw [List.length_map, hpz] at this
      rw [hP2.hp.len, this]
    have hjl2 : pts[j].im.length = 2 := by rw [← hP2.hp.len]; exact hdl
    have hil2 : pts[i].im.length = 2 := by
      have := congrArg List.length hsi
      rwa [List.length_map, hpz] at this
    have hs63 : ∀ v ∈ pts[j].im, v.length ≤ 63 := fun v hv => by
      have : v.length ∈ pz := by rw [← hsj]; exact List.mem_map.2 ⟨v, hv, rfl⟩
      exact (pz_ok.ok _ this).2
    have hsi63 : ∀ v ∈ pts[i].im, v.length ≤ 63 := fun v hv => by
      have : v.length ∈ pz := by rw [← hsi]; exact List.mem_map.2 ⟨v, hv, rfl⟩
      exact (pz_ok.ok _ this).2
    have hsm := trT_small hP2 hs63
    have hln := trT_len hP2 (by omega) pts[j].dirty.length (Nat.le_refl _)
    have hap := trT_apply hP2 hCov
    have hse := trT_sec hP2 hCov
    have hmk := trT_mk pts[j] pts[i] _ (Nat.le_refl _)
    rw [hdl] at hsm hln hap hse hmk ⊢
    have hdn : ∀ v, v < 2 → (pts[j].dirty.getD v ⟨1, 0⟩).n = pz.getD v 0 := fun v hv => by
      rw [hP2.dirtyN v (by omega), imAt, List.getD_eq_getElem?_getD, List.getElem?_eq_getElem (by omega)]
      have := congrArg (fun l : List Nat => l.getD v 0) hsj
      simpa [List.getD_eq_getElem?_getD, hjl2, hv] using this
    have hbit : ∀ v (h1 : v < pts[j].dirty.length) (h2 : v < pts[i].dirty.length), BmOk pts[j].dirty[v] ∧ BmOk pts[i].dirty[v] ∧ pts[j].dirty[v].n = pts[i].dirty[v].n := fun v h1 h2 => hP2.n v h1 h2
    have hdl2 : pts[i].dirty.length = 2 := by rw [← hP2.len]; exact hdl
    simp -implicitDefEqProofs [go_sem]
    refine SWp.seq (Wp.s ?_)
    simp -implicitDefEqProofs [go_sem, hil]
    refine CC.mono (imApply_cc _ _ .sh pts[i].im (trT pts[j] pts[i] 2) (by omega) (by omega) (fun w hw => Nat.le_trans (hsm w hw) (by decide))) ?_
    rintro _ _ _ ⟨rfl, rfl, rfl⟩
    rw [hap, show apV (pts[j].im, 0, 0) = .tup [imV pts[j].im, ci 0, er 0] from rfl]
    simp -implicitDefEqProofs [go_sem]
    refine SWp.seq (SWp.seq (SWp.drawnT [] [] (.s 0 .pl <| .s 1 .pl <| .s 2 .pl <| .s 3 .pl <| .s 4 .pl <| .s 5 .pl <| .s 6 .pl <| .s 7 .pl <| .s 8 .pl <| .s 9 .pl <| .s 10 .pl <| .s 11 .pl <| .s 12 .pl <| .s 13 .pl <| .s 14 .pl <| .s 15 .pl <| .s 16 .pl <| .s 17 .pl <| .s 19 .pl <| .s 20 .pl <| .s 21 .pl <| .s 22 .pl <| .s 23 .pl <| .s 24 .pl <| .s 25 .pl <| .s 26 .pl <| .s 27 .pl <| .s 28 .pl <| .s 18 .pl <| .s 29 .pl <| .s 30 .pl <| .s 31 .pl <| .n) (by kernel_rfl) (by kernel_rfl) ?_))
    simp -implicitDefEqProofs [go_sem, hil, hjp]
    refine CC.mono (SameImg_cc _ _ .sh .sh pts[j].im pts[j].im (by omega) (fun v hv => Nat.le_trans (hs63 v hv) (by decide))) ?_
    rintro _ _ _ ⟨rfl, rfl, rfl⟩
    rw [show decide (pts[j].im = pts[j].im) = true by simp]
    simp -implicitDefEqProofs [go_sem, hil, hjp]
    refine CC.mono (sectors22_cc _ _ (trT pts[j] pts[i] 2) (by omega) (fun w hw => Nat.le_trans (hsm w hw) (by decide))) ?_
    rintro _ _ _ ⟨rfl, rfl, rfl⟩
    simp -implicitDefEqProofs [go_sem]
    refine CC.mono (playDiff_cc _ _ pts[i].im pts[j].im (by omega) (hsi.trans hsj.symm) hsi63) ?_
    rintro _ _ _ ⟨rfl, rfl, rfl⟩
    rw [← hse]
    simp -implicitDefEqProofs [go_sem]
    refine Wp.s ?_
    simp -implicitDefEqProofs [go_sem]
    refine SWp.seq (Wp.s ?_)
    simp -implicitDefEqProofs [go_sem]
    refine SWp.join (α := Unit) (fun _ => ([(3, .sl .sh 4 (pts.map ptC)), (6, ci j), (8, ci i), (9, .sl .sh 3 ((trT pts[j] pts[i] 2).map wrC)), (14, ci (mkN pts[j] pts[i] 2 : Nat))], H, V)) (fun _ => True) ?_ ?_
    · refine SWp.seq (Wp.s ?_)
      simp -implicitDefEqProofs [go_sem]
      refine SWp.block ?_
      refine SWp.loop (α := Nat) (fun v => ([(3, .sl .sh 4 (pts.map ptC)), (6, ci j), (8, ci i), (9, .sl .sh 3 ((trT pts[j] pts[i] 2).map wrC)), (14, ci (mkN pts[j] pts[i] v : Nat)), (15, ci v)], H, V)) (fun v => v ≤ 2 ∧ mkN pts[j] pts[i] v ≤ v * 63) (fun v => 2 - v) 0 ⟨Nat.zero_le _, by simp [mkN]⟩ (Sh.forget (by simp [go_sem, mkN]) rfl rfl) ?_
      rintro v ⟨hv, hmv⟩
      dsimp only
      refine SWp.seq (SWp.seq (Wp.s ?_))
      simp -implicitDefEqProofs [go_sem]
      refine Wp.s ?_
      simp -implicitDefEqProofs [go_sem]
      refine ⟨fun v0 => ?_, fun v0 => ?_⟩
      case refine_2 =>
        obtain rfl : v = 2 := by omega
        exact Sh.forget (by simp [go_sem]) rfl rfl
      have hv2 : v < 2 := by omega
      have hvj : v < pts[j].dirty.length := by omega
      have hvi : v < pts[i].dirty.length := by omega
      obtain ⟨b1, b2, b3⟩ := hbit v hvj hvi
      have gj : pts[j].dirty.getD v ⟨1, 0⟩ = pts[j].dirty[v] := by rw [List.getD_eq_getElem?_getD, List.getElem?_eq_getElem hvj]; rfl
      have gi : pts[i].dirty.getD v ⟨1, 0⟩ = pts[i].dirty[v] := by rw [List.getD_eq_getElem?_getD, List.getElem?_eq_getElem hvi]; rfl
      have hvz : v < pz.length := hv2
      have hvzI : v < (zI pz).length := by rw [zI_len]; exact hvz
      have hzI : (zI pz)[v] = (pz[v] : Int) := zI_get _ _ _
      have hnz : pts[j].dirty[v].n = pz[v] := by
        have := hdn v hv2
        rw [gj] at this
        rw [this, List.getD_eq_getElem?_getD, List.getElem?_eq_getElem hvz]; rfl
      have hzb := (pz_ok.ok _ (List.getElem_mem hvz)).2
      have hsu := mkN_succ pts[j] pts[i] v
      have hma := mkK_all (q := pts[i]) (show (pts[j].dirty.getD v ⟨1, 0⟩).n = pz[v] by rw [gj]; exact hnz)
      rw [← hma] at hsu
      generalize pz[v] = n at hzI hnz hzb hsu
      refine SWp.seq (SWp.block (SWp.seq (Wp.s ?_)))
      simp -implicitDefEqProofs [go_sem]
      refine SWp.block ?_
      refine SWp.loop (α := Nat) (fun k => ([(3, .sl .sh 4 (pts.map ptC)), (6, ci j), (8, ci i), (9, .sl .sh 3 ((trT pts[j] pts[i] 2).map wrC)), (14, ci (mkN pts[j] pts[i] v + mkK pts[j] pts[i] v k : Nat)), (15, ci v), (16, ci k)], H, V)) (fun k => k ≤ n) (fun k => n - k) 0 (Nat.zero_le _) (Sh.forget (by simp [go_sem, mkK]) rfl rfl) ?_
      intro k hk
      dsimp only
      have hkl := mkK_le pts[j] pts[i] v k
      have hks := mkK_succ pts[j] pts[i] v k
      rw [gj, gi] at hks
      refine SWp.seq (SWp.seq (Wp.s ?_))
      simp -implicitDefEqProofs [go_sem]
      refine CC.mono (playSizes_cc _ _) ?_
      rintro _ _ _ ⟨rfl, rfl, rfl⟩
      simp -implicitDefEqProofs [go_sem, hvzI, hzI]
      refine Wp.s ?_
      simp -implicitDefEqProofs [go_sem]
      refine ⟨fun k0 => ?_, fun k0 => ?_⟩
      case refine_2 =>
        obtain rfl : k = n := by omega
        refine Wp.s ?_
        simp -implicitDefEqProofs [go_sem]
        refine ⟨v + 1, ⟨by omega, by omega⟩, by omega, ?_⟩
        rw [hsu]
        refine Sh.forget ?_ rfl rfl
        simp [go_sem, wrap_succ (show v ≤ 1000000000 by omega)]
      have hkn : k < pts[j].dirty[v].n := by omega
      have hkn2 : k < pts[i].dirty[v].n := by omega
      refine SWp.seq (SWp.block (SWp.seq (Wp.s ?_)))
      simp -implicitDefEqProofs [go_sem, hjp, hil, hvj, hvi]
      refine CC.mono (bmGet_cc _ _ pts[j].dirty[v] k b1 hkn) ?_
      rintro _ _ _ ⟨rfl, rfl, rfl⟩
      have w1 : IntKind.i64.wrap ((mkN pts[j] pts[i] v : Int) + mkK pts[j] pts[i] v k + 1) = (mkN pts[j] pts[i] v : Int) + (mkK pts[j] pts[i] v k + 1) := by rw [IntWalk.i64_in _ ⟨by omega, by omega⟩]; omega
      cases hb1 : pts[j].dirty[v].w.testBit k with
      | true =>
        rw [hb1] at hks
        simp only [Bool.true_or, if_true] at hks
        simp -implicitDefEqProofs [go_sem]
        refine Wp.s ?_
        simp -implicitDefEqProofs [go_sem, w1]
        refine Wp.s ?_
        simp -implicitDefEqProofs [go_sem]
        refine ⟨k + 1, by omega, by omega, ?_⟩
        rw [hks]
        refine Sh.forget ?_ rfl rfl
        simp [go_sem, wrap_succ (show k ≤ 1000000000 by omega)]
      | false =>
        rw [hb1] at hks
        simp -implicitDefEqProofs [go_sem, hjp, hil, hvj, hvi]
        refine CC.mono (bmGet_cc _ _ pts[i].dirty[v] k b2 hkn2) ?_
        rintro _ _ _ ⟨rfl, rfl, rfl⟩
        cases hb2 : pts[i].dirty[v].w.testBit k with
        | true =>
          rw [hb2] at hks
          simp only [Bool.false_or, if_true] at hks
          simp -implicitDefEqProofs [go_sem]
          refine Wp.s ?_
          simp -implicitDefEqProofs [go_sem, w1]
          refine Wp.s ?_
          simp -implicitDefEqProofs [go_sem]
          refine ⟨k + 1, by omega, by omega, ?_⟩
          rw [hks]
          refine Sh.forget ?_ rfl rfl
          simp [go_sem, wrap_succ (show k ≤ 1000000000 by omega)]
        | false =>
          rw [hb2] at hks
          simp only [Bool.or_false, Bool.false_eq_true, if_false, Nat.add_zero] at hks
          simp -implicitDefEqProofs [go_sem]
          refine Wp.s ?_
          simp -implicitDefEqProofs [go_sem]
          refine Wp.s ?_
          simp -implicitDefEqProofs [go_sem]
          refine ⟨k + 1, by omega, by omega, ?_⟩
          rw [hks]
          refine Sh.forget ?_ rfl rfl
          simp [go_sem, wrap_succ (show k ≤ 1000000000 by omega)]
    rintro _ -
    dsimp only
    refine SWp.seq (Wp.s ?_)
    simp -implicitDefEqProofs [go_sem]
    refine CC.mono (sectors22_cc _ _ (trT pts[j] pts[i] 2) (by omega) (fun w hw => Nat.le_trans (hsm w hw) (by decide))) ?_
    rintro _ _ _ ⟨rfl, rfl, rfl⟩
    have hgt : ¬ (mkN pts[j] pts[i] 2 : Int) < secN (trT pts[j] pts[i] 2) := by omega
    have hgt' : ¬ mkN pts[j] pts[i] 2 < secN (trT pts[j] pts[i] 2) := by omega
    simp -implicitDefEqProofs [go_sem, hgt, hgt']
    refine Wp.s ?_
    simp -implicitDefEqProofs [go_sem]
    refine Wp.s ?_
    simp -implicitDefEqProofs [go_sem]
    refine ⟨i + 1, by omega, by omega, Sh.forget ?_ rfl rfl⟩
    simp [go_sem, wrap_succ (show i ≤ 1000000000 by omega)]
  rintro _ -
  dsimp only
  refine SWp.seq (Wp.s ?_)
  simp -implicitDefEqProofs [go_sem]
  refine CC.mono (playCompared_cc _ _) ?_
  rintro _ _ _ ⟨rfl, rfl, rfl⟩
  simp -implicitDefEqProofs [go_sem]
  refine Wp.s ?_
  simp -implicitDefEqProofs [go_sem]
  exact Fin.bool rfl hokH (by simp) (by simp)
end Go.Proofs.YtgoofldhelffdaaGreatDoor
namespace Go.Proofs.YtgoofldhelffdaaGreatDoor
open Go.Proofs
def ptFl (l : List Pt) : List CV := (l.map ptC).flatten
theorem ptFl_len : ∀ (l : List Pt), (ptFl l).length = l.length * 4
  | [] => rfl
  | b :: l => by rw [ptFl, List.map_cons, List.flatten_cons, ← ptFl, List.length_append, ptFl_len l, ptC_len, List.length_cons]; omega
theorem chunks_ptFl : ∀ (l : List Pt), chunks 4 l.length (ptFl l) = l.map ptC
  | [] => rfl
  | o :: B => by
    rw [List.length_cons, chunks, ptFl, List.map_cons, List.flatten_cons, ← ptFl]
    rw [show (ptC o ++ ptFl B).take 4 = ptC o from rfl, show (ptC o ++ ptFl B).drop 4 = ptFl B from rfl, chunks_ptFl B]
def ptI (p : Pt) (im : Img) : Pt := ⟨p.site, p.lin, p.dirty, im⟩
def ptD (p : Pt) (d : List Bm) : Pt := ⟨p.site, p.lin, d, p.im⟩
theorem ptFl_setI : ∀ (l : List Pt) (i : Nat) (im : Img) (h : i < l.length), (ptFl l).take (i * 4 + 3) ++ .sl .sh 1 (im.map imE) :: (ptFl l).drop (i * 4 + 3 + 1) = ptFl (l.set i (ptI l[i] im))
  | b :: l, 0, im, h => rfl
  | b :: l, i + 1, im, h => by
    have := ptFl_setI l i im (by simpa using h)
    rw [show ptFl (b :: l) = ptC b ++ ptFl l from rfl, show (i + 1) * 4 + 3 = i * 4 + 3 + 4 by omega, show i * 4 + 3 + 4 + 1 = i * 4 + 3 + 1 + 4 by omega, List.set_cons_succ]
    rw [show ptFl (b :: l.set i (ptI (b :: l)[i + 1] im)) = ptC b ++ ptFl (l.set i (ptI (l[i]'(by simpa using h)) im)) from rfl, ← this]
    rfl
theorem ptFl_setD : ∀ (l : List Pt) (i : Nat) (d : List Bm) (h : i < l.length), (ptFl l).take (i * 4 + 2) ++ .sl .sh 2 (d.map bmC) :: (ptFl l).drop (i * 4 + 2 + 1) = ptFl (l.set i (ptD l[i] d))
  | b :: l, 0, d, h => rfl
  | b :: l, i + 1, d, h => by
    have := ptFl_setD l i d (by simpa using h)
    rw [show ptFl (b :: l) = ptC b ++ ptFl l from rfl, show (i + 1) * 4 + 2 = i * 4 + 2 + 4 by omega, show i * 4 + 2 + 4 + 1 = i * 4 + 2 + 1 + 4 by omega, List.set_cons_succ]
    rw [show ptFl (b :: l.set i (ptD (b :: l)[i + 1] d)) = ptC b ++ ptFl (l.set i (ptD (l[i]'(by simpa using h)) d)) from rfl, ← this]
    rfl
def o3C (o0 o1 o2 : UInt8) : List CV := [u8v o0, u8v o1, u8v o2]
@[go_sem, simp] theorem o3C_len (a b c : UInt8) : (o3C a b c).length = 3 := rfl
@[go_sem, simp] theorem o3C_all (a b c : UInt8) : allOne (o3C a b c) = true := rfl
@[go_sem, simp] theorem o3C_take (a b c : UInt8) : (o3C a b c).take 3 = o3C a b c := rfl
@[go_sem, simp] theorem o3C_0 (a b c : UInt8) (h : 0 < (o3C a b c).length) : (o3C a b c)[0] = .v (.int .u8 (a.toNat : Int)) := rfl
theorem pair_facts {pts : List Pt} {bI : Img} (hpo : PtsOk pts pz) (hcv : ∀ p ∈ pts, Cov bI p.dirty p.im) (j i : Nat) (hj : j < pts.length) (hi : i < pts.length) :
    pts[j].dirty.length = 2 ∧ (∀ w ∈ trT pts[j] pts[i] 2, w.data.length ≤ 63) ∧ (trT pts[j] pts[i] 2).length ≤ 2 * 3969 ∧ apR pts[i].im (trT pts[j] pts[i] 2) = (pts[j].im, 0, 0) ∧ pts[i].im.length = 2 := by
  have hP2 : Pt2 pts[j] pts[i] := ⟨hpo.ok _ (List.getElem_mem hj), hpo.ok _ (List.getElem_mem hi), (hpo.sz _ (List.getElem_mem hj)).trans (hpo.sz _ (List.getElem_mem hi)).symm⟩
  have hCov := CovP.of (hcv _ (List.getElem_mem hj)) (hcv _ (List.getElem_mem hi))
  have hsj := hpo.sz _ (List.getElem_mem hj)
  have hsi := hpo.sz _ (List.getElem_mem hi)
  have hpz : pz.length = 2 := rfl
  have hdl : pts[j].dirty.length = 2 := by
    have := congrArg List.length hsj
    rw [List.length_map, hpz] at this
    rw [hP2.hp.len, this]
  have hs63 : ∀ v ∈ pts[j].im, v.length ≤ 63 := fun v hv => by
    have : v.length ∈ pz := by rw [← hsj]; exact List.mem_map.2 ⟨v, hv, rfl⟩
    exact (pz_ok.ok _ this).2
  have hsm := trT_small hP2 hs63
  have hln := trT_len hP2 (by omega) pts[j].dirty.length (Nat.le_refl _)
  have hap := trT_apply hP2 hCov
  rw [hdl] at hsm hln hap
  refine ⟨hdl, hsm, hln, hap, ?_⟩
  have := congrArg List.length hsi
  rwa [List.length_map, hpz] at this
theorem now_ok {pts : List Pt} {z : List Nat} (h : PtsOk pts z) (a j : Nat) (ha : a < pts.length) (hj : j < pts.length) (nw : List Pt) (hn : nw = (pts.set a (ptI pts[a] pts[j].im)).set a (ptD ((pts.set a (ptI pts[a] pts[j].im))[a]'(by rw [List.length_set]; exact ha)) pts[j].dirty)) :
    PtsOk nw z ∧ ∃ h1 : a < nw.length, nw[a].im = pts[j].im ∧ nw[a].dirty = pts[j].dirty ∧ ∀ b (hb : b < pts.length) (h2 : b < nw.length), b ≠ a → nw[b] = pts[b] := by
  have e0 : (pts.set a (ptI pts[a] pts[j].im))[a]'(by rw [List.length_set]; exact ha) = ptI pts[a] pts[j].im := by simp
  rw [e0, List.set_set] at hn
  subst hn
  obtain ⟨x, hx⟩ : ∃ x, x = ptD (ptI pts[a] pts[j].im) pts[j].dirty := ⟨_, rfl⟩
  rw [← hx]
  have hpj := h.ok _ (List.getElem_mem hj)
  have hpa := h.ok _ (List.getElem_mem ha)
  have hxo : PtOk x := by
    rw [hx]
    exact ⟨hpa.site, hpa.lin, hpj.im, hpj.len, hpj.dirty, hpj.few⟩
  have hxs : x.im.map List.length = z := by
    rw [hx]
    show pts[j].im.map List.length = z
    exact h.sz _ (List.getElem_mem hj)
  refine ⟨⟨by rw [List.length_set]; exact h.lo, by rw [List.length_set]; exact h.hi, fun p hp => ?_, fun p hp => ?_⟩, by rw [List.length_set]; exact ha, by rw [List.getElem_set_self, hx]; rfl, by rw [List.getElem_set_self, hx]; rfl, fun b hb h2 hne => by rw [List.getElem_set_ne (fun e => hne e.symm)]⟩
  · rcases List.mem_or_eq_of_mem_set hp with hp | rfl
    · exact h.ok p hp
    · exact hxo
  · rcases List.mem_or_eq_of_mem_set hp with hp | rfl
    · exact h.sz p hp
    · exact hxs
set_option maxRecDepth 8000 in
set_option maxHeartbeats 3200000 in
theorem Forward_law (H : Hp) (V : List Nat) (x : Psx) (o0 o1 o2 : UInt8) (hb : x.base.length ≤ 9223372036854775807) (hw : ∀ i, i < 3 → (wsAt x i).length ≤ 9223372036854775807) : CC Tryz.prog 3 [.agg (psxC x), .agg (o3C o0 o1 o2)] H V (Pu (cb true) H V) := by
  refine CC.of_swp Tryz.func3 rfl (by kernel_rfl) (by rw [Tryz.ntmps3]; exact len_le _ _ rfl) fun hok hokH => ?_
  clear hok
  refine SWp.seq (Wp.s ?_)
  simp -implicitDefEqProofs [go_sem, args0]
  refine SWp.seq (Wp.s ?_)
  simp -implicitDefEqProofs [go_sem]
  refine CC.mono (playPoints_cc _ _ x hb hw) ?_
  rintro _ _ _ ⟨rfl, rfl, rfl⟩
  rw [ppsV]
  by_cases hok : okPs x = true
  case neg =>
    rw [if_neg hok]
    simp -implicitDefEqProofs [go_sem]
    refine SWp.seq (SWp.seq (Wp.s ?_))
    simp -implicitDefEqProofs [go_sem]
    refine Wp.s ?_
    simp -implicitDefEqProofs [go_sem]
    refine SWp.seq (SWp.seq (Wp.s ?_))
    simp -implicitDefEqProofs [go_sem]
    refine Wp.s ?_
    simp -implicitDefEqProofs [go_sem]
    refine CC.mono (playCompared_cc _ _) ?_
    rintro _ _ _ ⟨rfl, rfl, rfl⟩
    simp -implicitDefEqProofs [go_sem]
    exact Fin.bool rfl hokH (by simp) (by simp)
  rw [if_pos hok]
  have hpo := ptsF_ok x
  have hpl := ptsF_len x 3
  have hll := losF_len x 3
  have hcv := ptsF_cov x
  generalize ptsF x 3 = pts at hpo hpl hcv ⊢
  generalize losF x 3 = los at hll ⊢
  generalize baseI x = bI at hcv
  simp -implicitDefEqProofs [go_sem]
  refine SWp.seq (SWp.seq (Wp.s ?_))
  simp -implicitDefEqProofs [go_sem]
  refine Wp.s ?_
  simp -implicitDefEqProofs [go_sem]
  refine SWp.seq (SWp.seq (Wp.s ?_))
  simp -implicitDefEqProofs [go_sem, hpl]
  refine Wp.s ?_
  simp -implicitDefEqProofs [go_sem]
  refine SWp.seq (Wp.s ?_)
  simp -implicitDefEqProofs [go_sem]
  refine CC.mono (choose_cc _ _ pts pz los hpo (by omega)) ?_
  rintro _ _ _ ⟨hr, rfl, rfl⟩
  rcases hr with ⟨rfl, hall⟩ | ⟨j, rfl, hj, hjl, -⟩
  · simp -implicitDefEqProofs [go_sem]
    refine SWp.seq (SWp.seq (Wp.s ?_))
    simp -implicitDefEqProofs [go_sem]
    refine Wp.s ?_
    simp -implicitDefEqProofs [go_sem]
    refine CC.mono (playCompared_cc _ _) ?_
    rintro _ _ _ ⟨rfl, rfl, rfl⟩
    simp -implicitDefEqProofs [go_sem]
    exact Fin.bool rfl hokH (by simp) (by simp)
  have hj3 : j < 3 := by omega
  simp -implicitDefEqProofs [go_sem]
  refine SWp.seq (SWp.seq (Wp.s ?_))
  simp -implicitDefEqProofs [go_sem]
  refine Wp.s ?_
  simp -implicitDefEqProofs [go_sem]
  have ho := o0.toNat_lt
  obtain ⟨o, ho1⟩ : ∃ o, o = o0.toNat % 2 := ⟨_, rfl⟩
  have ho2 : o < 2 := by omega
  obtain ⟨a, ha⟩ : ∃ a, a = (j + 1 + o) % 3 := ⟨_, rfl⟩
  obtain ⟨b, hb'⟩ : ∃ b, b = (j + 2 - o) % 3 := ⟨_, rfl⟩
  have ha3 : a < 3 := by omega
  have hb3 : b < 3 := by omega
  have haj : a ≠ j := by omega
  have hbj : b ≠ j := by omega
  have hab : a ≠ b := by omega
  have t1 : ((o0.toNat : Int)).tmod 2 = (o : Int) := by rw [Int.tmod_eq_emod_of_nonneg (by omega)]; omega
  have w1 : IntKind.i64.wrap (o : Int) = o := IntWalk.i64_in _ ⟨by omega, by omega⟩
  have w2 : IntKind.i64.wrap ((j : Int) + 1) = (j : Int) + 1 := IntWalk.i64_in _ ⟨by omega, by omega⟩
  have w3 : IntKind.i64.wrap ((j : Int) + 2) = (j : Int) + 2 := IntWalk.i64_in _ ⟨by omega, by omega⟩
  have w4 : IntKind.i64.wrap ((j : Int) + 1 + o) = (j : Int) + 1 + o := IntWalk.i64_in _ ⟨by omega, by omega⟩
  have w5 : IntKind.i64.wrap ((j : Int) + 2 - o) = (j : Int) + 2 - o := IntWalk.i64_in _ ⟨by omega, by omega⟩
  have t2 : ((j : Int) + 1 + o).tmod 3 = (a : Int) := by rw [Int.tmod_eq_emod_of_nonneg (by omega)]; omega
  have t3 : ((j : Int) + 2 - o).tmod 3 = (b : Int) := by rw [Int.tmod_eq_emod_of_nonneg (by omega)]; omega
  refine SWp.seq (SWp.drawnT [] [] (.s 0 .pl <| .s 1 .pl <| .s 2 .pl <| .s 3 .pl <| .s 4 .pl <| .s 5 .pl <| .s 6 .pl <| .s 7 .pl <| .s 8 .pl <| .s 9 .pl <| .s 10 .pl <| .s 11 .pl <| .s 12 .pl <| .s 13 .pl <| .s 14 .pl <| .s 15 .pl <| .s 16 .pl <| .s 17 .pl <| .n) (by kernel_rfl) (by kernel_rfl) ?_)
  simp -implicitDefEqProofs [go_sem, t1, w1, w2, w3, w4, w5, t2, t3]
  clear t1 w1 w2 w3 w4 w5 t2 t3 ho1 ho2 ho
  have hjp : j < pts.length := by omega
  have hap : a < pts.length := by omega
  have hbp : b < pts.length := by omega
  clear ha hb'
  obtain ⟨d1, d2, d3, d4, d5⟩ := pair_facts hpo hcv j a hjp hap
  obtain ⟨e1, e2, e3, e4, e5⟩ := pair_facts hpo hcv j b hjp hbp
  refine SWp.seq (Wp.s ?_)
  simp -implicitDefEqProofs [go_sem]
  refine CC.mono (transfer_cc _ _ pts pz j a hpo hjp hap (by decide)) ?_
  rintro _ _ _ ⟨rfl, rfl, rfl⟩
  rw [d1]
  simp -implicitDefEqProofs [go_sem]
  refine SWp.seq (Wp.s ?_)
  simp -implicitDefEqProofs [go_sem, hap]
  refine CC.mono (imApply_cc _ _ .sh pts[a].im (trT pts[j] pts[a] 2) (by omega) (by omega) (fun w hw => Nat.le_trans (d2 w hw) (by decide))) ?_
  rintro _ _ _ ⟨rfl, rfl, rfl⟩
  rw [d4, show apV (pts[j].im, 0, 0) = .tup [imV pts[j].im, ci 0, er 0] from rfl]
  simp -implicitDefEqProofs [go_sem]
  refine SWp.seq (SWp.seq (Wp.s ?_))
  simp -implicitDefEqProofs [go_sem]
  refine Wp.s ?_
  simp -implicitDefEqProofs [go_sem]
  refine SWp.seq (Wp.s ?_)
  simp -implicitDefEqProofs [go_sem]
  refine CC.mono (transfer_cc _ _ pts pz j b hpo hjp hbp (by decide)) ?_
  rintro _ _ _ ⟨rfl, rfl, rfl⟩
  rw [e1]
  simp -implicitDefEqProofs [go_sem]
  refine SWp.seq (SWp.opx (pre := [_, _]) (post := [_]) rfl (by intro c e; cases e) ?_)
  simp -implicitDefEqProofs [go_sem]
  refine ⟨_, _, _, appbox (sz := 4) (tk := .sh) (ys := pts.map ptC) slTy28 slTy28 rfl rfl (by intro e; have := congrArg List.length e; rw [List.length_map] at this; simp at this; rw [this] at hpl; simp at hpl) (by rw [List.length_map]; omega), ?_⟩
  rw [show (pts.map ptC).flatten = ptFl pts from rfl]
  have hfl := ptFl_len pts
  have hsI := ptFl_setI pts a pts[j].im hap
  obtain ⟨p1, hp1⟩ : ∃ p1, p1 = pts.set a (ptI pts[a] pts[j].im) := ⟨_, rfl⟩
  rw [← hp1] at hsI
  have hp1l : p1.length = pts.length := by rw [hp1, List.length_set]
  have hap1 : a < p1.length := by omega
  have hfl1 := ptFl_len p1
  have hsD := ptFl_setD p1 a pts[j].dirty hap1
  have haa : (a : Int) < pts.length := by omega
  simp -implicitDefEqProofs [go_sem]
  refine SWp.seq (Wp.s ?_)
  simp -implicitDefEqProofs [go_sem, hjp, hap, haa, hfl, hsI, hfl1, hsD]
  refine ⟨by omega, by omega, ?_⟩
  obtain ⟨nw, hnw⟩ : ∃ nw, nw = p1.set a (ptD p1[a] pts[j].dirty) := ⟨_, rfl⟩
  rw [← hnw]
  obtain ⟨hno, hna, g1, g2, g3⟩ := now_ok hpo a j hap hjp nw (by rw [hnw]; subst hp1; rfl)
  have hnl : nw.length = pts.length := by rw [hnw, List.length_set, hp1l]
  have hnb : b < nw.length := by omega
  have g4 := g3 b hbp hnb (fun e => hab e.symm)
  clear hsI hsD hnw hfl hfl1
  refine SWp.seq (Wp.s ?_)
  simp -implicitDefEqProofs [go_sem]
  refine CC.le (.cons (.bsa _ _ _) (.cons (.refl _) (.cons (.refl _) .nil))) ?_
  have hfy := Fy.bsl (b := H.length + 2) (cs := ptFl nw) 0 pts.length 4 (by rw [ptFl_len, hnl]; omega)
  have hch : chunks 4 pts.length (ptFl nw) = nw.map ptC := by rw [← hnl]; exact chunks_ptFl nw
  rw [List.drop_zero, hch] at hfy
  refine CC.let_go [.sl .sh 4 (nw.map ptC), ci a, ci b] (H.length + 2) (ptFl nw) (hget _ _ 2) (.cons hfy (.cons (.refl _) (.cons (.refl _) .nil))) ?_
  refine CC.mono (transfer_cc _ _ nw pz a b hno hna hnb (by decide)) ?_
  rintro _ _ _ ⟨rfl, rfl, rfl⟩
  rw [trT_congr g1 g2, g2, d1, g4]
  simp -implicitDefEqProofs [go_sem]
  refine SWp.seq (Wp.s ?_)
  simp -implicitDefEqProofs [go_sem]
  refine CC.mono (same22_cc _ _ (trT pts[j] pts[b] 2) (trT pts[j] pts[b] 2) (by omega) (fun w hw => Nat.le_trans (e2 w hw) (by decide))) ?_
  rintro _ _ _ ⟨rfl, rfl, rfl⟩
  rw [show decide (trT pts[j] pts[b] 2 = trT pts[j] pts[b] 2) = true by simp]
  simp -implicitDefEqProofs [go_sem]
  refine CC.mono (playCompared_cc _ _) ?_
  rintro _ _ _ ⟨rfl, rfl, rfl⟩
  simp -implicitDefEqProofs [go_sem]
  refine Wp.s ?_
  simp -implicitDefEqProofs [go_sem]
  exact Fin.bool rfl hokH (by simp) (by simp)
end Go.Proofs.YtgoofldhelffdaaGreatDoor
namespace Go.Proofs.YtgoofldhelffdaaGreatDoor
open Go.Proofs
end Go.Proofs.YtgoofldhelffdaaGreatDoor
namespace Go.Proofs.YtgoofldhelffdaaGreatDoor
open Go.Proofs
end Go.Proofs.YtgoofldhelffdaaGreatDoor
namespace Go.Proofs.YtgoofldhelffdaaGreatDoor
open Go.RowKit

def gh0 (w : World) : Gh where
  lim k := match w.heap[k]? with
    | some (.cells c _ _) => c.size
    | _ => 0
  box := []
  tip := []

theorem gh0_inv (w : World) (hg : Glob (gh0 w) w) : Inv (gh0 w) w [] [] where
  glob := hg
  boxlen := rfl
  tiplen := rfl
  limv k h := by
    simp only [gh0] at h ⊢
    split at h
    · rename_i c e fr hc
      exact ⟨c, e, fr, hc, by simp⟩
    · omega
  tips := by intro t k h; simp [gh0] at h
  boxes := by intro b k h; simp [gh0] at h
  uniq := by intro b b' k cs cs' h; simp at h
  live := by intro b cs h; simp at h

theorem gh0_lim {w : World} {k o : Nat} {u : Value} (h : w.cell? ⟨k, o, none⟩ = some u) : o < (gh0 w).lim k := by
  simp only [World.cell?] at h
  simp only [gh0]
  split at h
  · rename_i c e fr hc
    simp only [hc]
    simp at h
    obtain ⟨h, _⟩ := Array.getElem?_eq_some_iff.1 h
    exact h
  · cases h

theorem law_calls {P : Program} {f : FuncId} {args : Array Value} {W : World} {cs : List CV} {R : CV → Hp → List Nat → Prop} (hglob : Glob (gh0 W) W) (hrel : RelL (gh0 W) W [] cs args.toList) (h : CC P f cs [] [] R)
    (hR : ∀ r H V, R r H V → r = .v (.bool true)) : Calls P f args W fun e W' => e = .returned (.bool true) ∧ Below W.heap.size W W' := by
  have := h.2 (gh0 W) W args.toList (gh0_inv W hglob) hrel
  rw [Array.toArray_toList] at this
  refine this.mono ?_
  rintro e w' ⟨u, m', r, H', V', rfl, hr, _, hu, hx⟩
  obtain rfl := hR _ _ _ hr
  rw [RelV] at hu
  subst hu
  exact ⟨rfl, hx.os, hx.tape, hx.output, hx.size, fun k hk => hx.same k hk (by simp [gh0]) (by simp [gh0])⟩

def Opens (P : Program) (t : TypeId) (S : List CV → Prop) : Prop :=
  ∀ (H : Type) (enc : TypeId × Value → H) (w : World) (base : Nat) (spare : Nat → Bool) (held : Bool) (fuel : Nat) (us : List Value) (x : DataW H × List MemPlace),
    DataW.trod enc P w base spare held fuel t us = some x → ∃ cs, S cs ∧ RelL (gh0 w) w [] cs us ∧ ∀ u ∈ us, u.oneCell' = true

theorem relL_one {m : Gh} {w : World} {V : List Nat} {c : CV} {u : Value} (h : RelV m w V c u) : RelL m w V [c] [u] := by
  rw [RelL]; exact ⟨u, [], rfl, h, by rw [RelL]⟩

theorem relL_nil {m : Gh} {w : World} {V : List Nat} : RelL m w V [] [] := by rw [RelL]
theorem relL_mk2 {m : Gh} {w : World} {V : List Nat} {c : CV} {u : Value} {cs : List CV} {us : List Value} (h : RelV m w V c u) (h2 : RelL m w V cs us) : RelL m w V (c :: cs) (u :: us) := by
  rw [RelL]; exact ⟨u, us, rfl, h, h2⟩
variable {P : Program} {t e : TypeId}
theorem Opens.int {k : IntKind} (ht : P.underlying t = some (.int k)) : Opens P t fun cs => ∃ n, cs = [.v (.int k n)] ∧ (Lit.int k n).wf = true := by
  intro H enc w base spare held fuel us x h
  obtain ⟨n, rfl, _, hw⟩ := DataW.trod_int ht h
  exact ⟨_, ⟨n, rfl, hw⟩, relL_one (by rw [RelV]), by simp [Value.oneCell']⟩

theorem Opens.bool (ht : P.underlying t = some .bool) : Opens P t fun cs => ∃ b, cs = [.v (.bool b)] := by
  intro H enc w base spare held fuel us x h
  obtain ⟨n, rfl, _⟩ := DataW.trod_bool ht h
  exact ⟨_, ⟨n, rfl⟩, relL_one (by rw [RelV]), by simp [Value.oneCell']⟩

theorem cells_get {w : World} {base : Nat} {a : Addr} {n : Nat} {us : List Value} (h : w.cells? base a n = some us) : us.length = n ∧ ∀ j, j < n → w.cell? (a.add j) = us[j]? := by
  unfold World.cells? at h
  split at h
  · exact ⟨by simpa using mapM_some_length h, fun j hj => mapM_some_get h j j (by simp [hj])⟩
  · cases h

theorem add_none {a : Addr} (ha : a.spot = none) (i : Nat) : a.add i = ⟨a.block, a.off + i, none⟩ := by
  cases a with
  | mk b o s =>
    simp only at ha
    subst ha
    unfold Addr.add
    split <;> simp_all

theorem Opens.slice {sz : Nat} {S : List CV → Prop} (ht : P.underlying t = some (.slice e)) (hs : P.cellsOf e = sz) (h0 : 0 < sz) (he : Opens P e S) :
    Opens P t fun cs => ∃ xs, cs = [.sl .sh sz xs] ∧ xs.length ≤ maxLen ∧ ∀ x ∈ xs, S x := by
  intro H enc w base spare held fuel us x h
  rcases DataW.trod_slice ht h with ⟨rfl, _⟩ | ⟨a, len, cap, elems, rest, n, _, rfl, rfl, hb, hl, hm, hlen, hel, hsp, hns⟩
  · refine ⟨_, ⟨[], rfl, by simp, by simp⟩, relL_one ?_, by simp [Value.oneCell']⟩
    rw [RelV]
    exact ⟨none, 0, rfl, by simp, trivial, h0, .inl rfl⟩
  · have key : ∀ i, i < len → ∃ (cs : List CV) (vs : List Value), S cs ∧ RelL (gh0 w) w [] cs vs ∧ (∀ u ∈ vs, u.oneCell' = true) ∧ vs.length = sz ∧ ∀ j, j < sz → w.cell? ((a.add (i * sz)).add j) = vs[j]? := by
      intro i hi
      have h1 := hel i hi
      rw [List.getElem?_eq_getElem (by omega)] at h1
      obtain ⟨vs, h2, h3⟩ := Option.bind_eq_some_iff.1 h1
      obtain ⟨cs, h4, h5, h6⟩ := he _ enc w base spare held n vs _ h3
      rw [hs] at h2
      obtain ⟨h7, h8⟩ := cells_get h2
      exact ⟨cs, vs, h4, h5, h6, h7, h8⟩
    by_cases hz : len = 0
    · subst hz
      refine ⟨_, ⟨[], rfl, by simp, by simp⟩, relL_one ?_, by simp [Value.oneCell']⟩
      rw [RelV]
      exact ⟨some a, cap, rfl, by simp, trivial, h0, .inl rfl⟩
    · have hsp : a.spot = none := by
        obtain ⟨cs, vs, _, _, _, h7, h8⟩ := key 0 (by omega)
        have h9 := h8 0 h0
        rw [List.getElem?_eq_getElem (by omega)] at h9
        have : (a.add (0 * sz)).add 0 = a := by simp [Addr.add]
        rw [this] at h9
        simp only [World.cell?] at h9
        split at h9
        · split at h9
          · cases h9
          · rename_i h; simpa using h
        · cases h9
      let g : Nat → List CV := fun i => if h : i < len then Classical.choose (key i h) else []
      have hg : ∀ i (h : i < len), ∃ (vs : List Value), S (g i) ∧ RelL (gh0 w) w [] (g i) vs ∧ (∀ u ∈ vs, u.oneCell' = true) ∧ vs.length = sz ∧ ∀ j, j < sz → w.cell? ((a.add (i * sz)).add j) = vs[j]? := by
        intro i h
        have := Classical.choose_spec (key i h)
        simp only [g, h, dif_pos]
        exact this
      have cell : ∀ i j, i < len → j < sz → ∃ u, w.cell? ⟨a.block, a.off + i * sz + j, none⟩ = some u := by
        intro i j hi hj
        obtain ⟨vs, _, _, _, h7, h8⟩ := hg i hi
        have h9 := h8 j hj
        rw [List.getElem?_eq_getElem (by omega), add_none hsp, add_none rfl] at h9
        exact ⟨_, h9⟩
      refine ⟨_, ⟨(List.range len).map g, rfl, by simp; omega, ?_⟩, relL_one ?_, by simp [Value.oneCell']⟩
      · intro x hx
        obtain ⟨i, hi, rfl⟩ := List.mem_map.1 hx
        obtain ⟨_, h4, _⟩ := hg i (by simpa using hi)
        exact h4
      · rw [RelV]
        refine ⟨some a, cap, by simp, by simp; omega, trivial, h0, .inr ⟨a.block, a.off, by cases a; simp_all, ?_, relE_mk fun j c hc => ?_⟩⟩
        · obtain ⟨u, hu⟩ := cell (len - 1) (sz - 1) (by omega) (by omega)
          have := gh0_lim hu
          simp only [List.length_map, List.length_range]
          have h1 : len * sz = (len - 1) * sz + sz := by
            rw [← Nat.succ_mul]; congr 1; omega
          omega
        · simp only [List.getElem?_map, Option.map_eq_some_iff] at hc
          obtain ⟨i, hi, rfl⟩ := hc
          obtain ⟨hi', hi⟩ := List.getElem?_eq_some_iff.1 hi
          simp at hi hi'
          subst hi
          obtain ⟨vs, h4, h5, h6, h7, h8⟩ := hg j hi'
          have hl := relL_length h5
          refine ⟨by omega, relC_mk fun q c hc => ?_⟩
          obtain ⟨u, hu, hv⟩ := relL_get h5 q c hc
          have hq : q < sz := by
            have := (List.getElem?_eq_some_iff.1 hc).1
            omega
          have h9 := h8 q hq
          rw [hu, add_none hsp, add_none rfl] at h9
          exact ⟨u, h9, hv, h6 u (List.mem_of_getElem? hu)⟩

def OpensF (P : Program) (N : Nat) (fs : List Field) (o : Nat) (S : List CV → Prop) : Prop :=
  ∀ (H : Type) (enc : TypeId × Value → H) (w : World) (base : Nat) (spare : Nat → Bool) (held : Bool) (fuel : Nat) (us : List Value), us.length = N →
    (∀ f ∈ fs, ∃ x, DataW.trod enc P w base spare held fuel f.type ((us.drop f.offset).take (P.cellsOf f.type)) = some x) →
    ∃ cs, S cs ∧ RelL (gh0 w) w [] cs (us.drop o) ∧ ∀ u ∈ us.drop o, u.oneCell' = true

theorem OpensF.nil {N : Nat} : OpensF P N [] N fun cs => cs = [] := by
  intro H enc w base spare held fuel us hl h
  subst hl
  exact ⟨_, rfl, by rw [List.drop_length, RelL], by simp⟩

theorem OpensF.cons {N : Nat} {f : Field} {fs : List Field} {o n : Nat} {S S' : List CV → Prop} (ho : f.offset = o) (hn : P.cellsOf f.type = n) (h1 : Opens P f.type S) (h2 : OpensF P N fs (o + n) S') :
    OpensF P N (f :: fs) o fun cs => ∃ a b, cs = a ++ b ∧ S a ∧ S' b := by
  intro H enc w base spare held fuel us hl h
  obtain ⟨x, hx⟩ := h f (by simp)
  rw [ho, hn] at hx
  obtain ⟨a, ha, ra, oa⟩ := h1 _ enc w base spare held fuel _ _ hx
  obtain ⟨b, hb, rb, ob⟩ := h2 _ enc w base spare held fuel us hl fun g hg => h g (List.mem_cons_of_mem _ hg)
  have hd : us.drop o = (us.drop o).take n ++ us.drop (o + n) := by
    rw [← List.drop_drop, List.take_append_drop]
  refine ⟨_, ⟨a, b, rfl, ha, hb⟩, ?_, ?_⟩
  · rw [hd]; exact relL_append ra rb
  · rw [hd]
    intro u hu
    rcases List.mem_append.1 hu with h | h
    · exact oa u h
    · exact ob u h

theorem Opens.struct {fs : Array Field} {S : List CV → Prop} (ht : P.underlying t = some (.struct fs)) {N : Nat} (hN : P.cellsOf t = N) (h : OpensF P N fs.toList 0 S) : Opens P t S := by
  intro H enc w base spare held fuel us x hx
  obtain ⟨xs, n, _, _, hl, hl2, hf⟩ := DataW.trod_struct ht hx
  obtain ⟨cs, h1, h2, h3⟩ := h _ enc w base spare held n us (by omega) (by
    intro f hf'
    obtain ⟨i, hi⟩ := List.getElem?_of_mem hf'
    have := hf i f (by simpa using hi)
    have hi' : i < fs.size := by
      have := (List.getElem?_eq_some_iff.1 hi).1
      simpa using this
    rw [this, List.getElem?_eq_getElem (by omega)]
    exact ⟨_, rfl⟩)
  exact ⟨cs, h1, by simpa using h2, by simpa using h3⟩

theorem Opens.array {n sz : Nat} {S : List CV → Prop} (ht : P.underlying t = some (.array n e)) (hs : P.cellsOf e = sz) (hN : P.cellsOf t = n * sz) (he : Opens P e S) :
    Opens P t fun cs => ∃ xs : List (List CV), cs = xs.flatten ∧ xs.length = n ∧ ∀ x ∈ xs, S x := by
  intro H enc w base spare held fuel us x hx
  obtain ⟨xs, m, _, _, hl, hl2, hf⟩ := DataW.trod_array ht hx
  rw [hN] at hl
  rw [hs] at hf
  have key : ∀ q, q ≤ n → ∃ ys : List (List CV), ys.length = q ∧ (∀ x ∈ ys, S x) ∧ RelL (gh0 w) w [] ys.flatten (us.drop ((n - q) * sz)) ∧ ∀ u ∈ us.drop ((n - q) * sz), u.oneCell' = true := by
    intro q
    induction q with
    | zero =>
      intro _
      refine ⟨[], rfl, by simp, ?_, ?_⟩
      · rw [Nat.sub_zero, List.drop_of_length_le (by omega), List.flatten_nil, RelL]
      · rw [Nat.sub_zero, List.drop_of_length_le (by omega)]; simp
    | succ q ih =>
      intro hq
      obtain ⟨ys, h1, h2, h3, h4⟩ := ih (by omega)
      have hx := hf (n - (q + 1)) (by omega)
      rw [List.getElem?_eq_getElem (by omega)] at hx
      obtain ⟨a, ha, ra, oa⟩ := he _ enc w base spare held m _ _ hx
      have hd : us.drop ((n - (q + 1)) * sz) = (us.drop ((n - (q + 1)) * sz)).take sz ++ us.drop ((n - q) * sz) := by
        have : (n - q) * sz = (n - (q + 1)) * sz + sz := by
          rw [← Nat.succ_mul]; congr 1; omega
        rw [this, ← List.drop_drop, List.take_append_drop]
      refine ⟨a :: ys, by simp [h1], by simpa using ⟨ha, h2⟩, ?_, ?_⟩
      · rw [hd, List.flatten_cons]; exact relL_append ra h3
      · rw [hd]
        intro u hu
        rcases List.mem_append.1 hu with h | h
        · exact oa u h
        · exact h4 u h
  obtain ⟨ys, h1, h2, h3, h4⟩ := key n (Nat.le_refl _)
  rw [Nat.sub_self, Nat.zero_mul, List.drop_zero] at h3 h4
  exact ⟨_, ⟨ys, rfl, h1, h2⟩, h3, h4⟩

theorem Opens.mono {S S' : List CV → Prop} (h : Opens P t S) (hs : ∀ cs, S cs → S' cs) : Opens P t S' := by
  intro H enc w base spare held fuel us x hx
  obtain ⟨cs, h1, h2, h3⟩ := h _ enc w base spare held fuel us x hx
  exact ⟨cs, hs cs h1, h2, h3⟩

variable {H : Type} {enc : TypeId × Value → H} {w : World} {base : Nat} {spare : Nat → Bool} {held : Bool}
theorem Opens.args {S : List CV → Prop} (h : Opens P t S) {us : Array Value} {d : DataW H} {p : List MemPlace} (hd : DataW.Trod enc P w base spare held t (.agg us) d p) :
    ∃ cs, S cs ∧ RelV (gh0 w) w [] (.agg cs) (.agg us) := by
  obtain ⟨fuel, hf⟩ := hd
  obtain ⟨cs, h1, h2, _⟩ := h _ enc w base spare held fuel _ _ hf
  refine ⟨cs, h1, ?_⟩
  rw [RelV]
  refine ⟨us.toList, by simp, ?_⟩
  simpa [Value.cells] using h2

theorem trodAll_below (hl : laidOutB P = true) {W W' : World} (hb : Below W.heap.size W W') : ∀ {ts : List TypeId} {vs : List Value} {ds : List (DataW H)} {p : List MemPlace},
    (ts.all fun t => P.readableRec t && decide (t < P.types.size)) = true → DataW.TrodAll enc P W 0 (fun _ => true) true ts vs ds p → DataW.TrodAll enc P W' 0 (fun b => decide (b < W.heap.size)) true ts vs ds p
  | [], [], [], p, _, h => h
  | t :: ts, v :: vs, d :: ds, p, ht, h => by
    obtain ⟨p, q, h1, h2, rfl⟩ := h
    simp only [List.all_cons, Bool.and_eq_true, decide_eq_true_eq] at ht
    refine ⟨p, q, Below.trod hl ht.1.1 ht.1.2 h1 hb ?_, trodAll_below hl hb ht.2 h2, rfl⟩
    obtain ⟨m, hm⟩ := h1
    exact DataW.trod_lt m _ _ _ hm
  | [], [], _ :: _, _, _, h => h.elim
  | [], _ :: _, _, _, _, h => h.elim
  | _ :: _, [], _, _, _, h => h.elim
  | _ :: _, _ :: _, [], _, _, h => h.elim
end Go.Proofs.YtgoofldhelffdaaGreatDoor
namespace Go.Proofs.YtgoofldhelffdaaGreatDoor
open Go.Proofs
theorem exMapF {α : Type} {f : α → List CV} : ∀ {xs : List (List CV)}, (∀ x ∈ xs, ∃ a, x = f a) → ∃ ys : List α, xs = ys.map f
  | [], _ => ⟨[], rfl⟩
  | x :: xs, h => by
    obtain ⟨a, rfl⟩ := h x (by simp)
    obtain ⟨ys, rfl⟩ := exMapF fun y hy => h y (List.mem_cons_of_mem _ hy)
    exact ⟨a :: ys, rfl⟩
theorem opens_u8 : Opens Tryz.prog 5 fun cs => ∃ b, cs = u8 b :=
  (Opens.int Tryz.underlying5).mono fun _ ⟨n, h, hw⟩ => ⟨byt n, by
    simp only [Lit.wf, Bool.and_eq_true, decide_eq_true_eq] at hw
    have h1 : 0 ≤ n := hw.1
    have h2 : n ≤ 255 := hw.2
    rw [h, u8, byt_toNat, Int.emod_eq_of_lt h1 (by omega)]⟩
theorem opens_sl {t e sz : Nat} {α : Type} {f : α → List CV} (ht : Tryz.prog.underlying t = some (.slice e)) (hs : Tryz.prog.cellsOf e = sz) (h0 : 0 < sz) (he : Opens Tryz.prog e fun cs => ∃ a, cs = f a) :
    Opens Tryz.prog t fun cs => ∃ l : List α, cs = [.sl .sh sz (l.map f)] ∧ l.length ≤ maxLen :=
  (Opens.slice ht hs h0 he).mono fun _ ⟨xs, h, hl, hx⟩ => by
    obtain ⟨ys, rfl⟩ := exMapF hx
    exact ⟨ys, h, by simpa using hl⟩
end Go.Proofs.YtgoofldhelffdaaGreatDoor
namespace Go.Proofs.YtgoofldhelffdaaGreatDoor
open Go.Proofs
theorem opens_a3 {t e sz : Nat} {α : Type} {f : α → List CV} (ht : Tryz.prog.underlying t = some (.array 3 e)) (hs : Tryz.prog.cellsOf e = sz) (hN : Tryz.prog.cellsOf t = 3 * sz) (he : Opens Tryz.prog e fun cs => ∃ a, cs = f a) :
    Opens Tryz.prog t fun cs => ∃ a b c, cs = f a ++ (f b ++ f c) :=
  (Opens.array ht hs hN he).mono fun _ ⟨xs, h, hl, hx⟩ => by
    obtain ⟨l, rfl⟩ := exMapF hx
    match l, hl with
    | [a, b, c], _ => exact ⟨a, b, c, by rw [h]; simp⟩
theorem opens_pst : Opens Tryz.prog 64 fun cs => ∃ x, cs = pstC x :=
  (Opens.struct Tryz.underlying64 (N := 5) (by kernel_rfl) (.cons rfl (n := 1) (by kernel_rfl) opens_u8 (.cons rfl (n := 1) (by kernel_rfl) opens_u8 (.cons rfl (n := 1) (by kernel_rfl) opens_u8 (.cons rfl (n := 1) (by kernel_rfl) opens_u8 (.cons rfl (n := 1) (by kernel_rfl) opens_u8 .nil)))))).mono fun cs h => by
    obtain ⟨_, _, rfl, ⟨a, rfl⟩, _, _, rfl, ⟨b, rfl⟩, _, _, rfl, ⟨c, rfl⟩, _, _, rfl, ⟨d, rfl⟩, _, _, rfl, ⟨e, rfl⟩, rfl⟩ := h
    exact ⟨⟨a, b, c, d, e⟩, rfl⟩
theorem opens_psts : Opens Tryz.prog 22 fun cs => ∃ l : {l : List Pst // l.length ≤ 9223372036854775807}, cs = [.sl .sh 5 (l.1.map pstC)] := (opens_sl Tryz.underlying22 (by kernel_rfl) (by decide) opens_pst).mono fun cs ⟨l, h, hl⟩ => ⟨⟨l, Nat.le_trans hl (by decide)⟩, h⟩
theorem opens_boolP : Opens Tryz.prog 4 fun cs => ∃ b, cs = [.v (.bool b)] := Opens.bool Tryz.underlying4
theorem opens_o3 : Opens Tryz.prog 24 fun cs => ∃ x : UInt8 × UInt8 × UInt8, cs = o3C x.1 x.2.1 x.2.2 := (opens_a3 (sz := 1) Tryz.underlying24 (by kernel_rfl) (by kernel_rfl) opens_u8).mono fun _ ⟨a, b, c, h⟩ => ⟨(a, b, c), h⟩
theorem opens_b3 : Opens Tryz.prog 25 fun cs => ∃ a b c, cs = [cb a, cb b, cb c] := opens_a3 (sz := 1) Tryz.underlying25 (by kernel_rfl) (by kernel_rfl) opens_boolP
theorem opens_s3 : Opens Tryz.prog 23 fun cs => ∃ a b c : {l : List Pst // l.length ≤ 9223372036854775807}, cs = [stsV a.1, stsV b.1, stsV c.1] := opens_a3 (sz := 1) Tryz.underlying23 (by kernel_rfl) (by kernel_rfl) opens_psts
theorem opens_psx : Opens Tryz.prog 27 fun cs => ∃ x : Psx, cs = psxC x ∧ x.base.length ≤ 9223372036854775807 ∧ ∀ i, i < 3 → (wsAt x i).length ≤ 9223372036854775807 :=
  (Opens.struct Tryz.underlying27 (N := 13) (by kernel_rfl) (.cons rfl (n := 1) (by kernel_rfl) opens_psts (.cons rfl (n := 3) (by kernel_rfl) opens_s3 (.cons rfl (n := 3) (by kernel_rfl) opens_o3 (.cons rfl (n := 3) (by kernel_rfl) opens_o3 (.cons rfl (n := 3) (by kernel_rfl) opens_b3 .nil)))))).mono fun cs h => by
    obtain ⟨_, _, rfl, ⟨a, rfl⟩, _, _, rfl, ⟨w0, w1, w2, rfl⟩, _, _, rfl, ⟨e, rfl⟩, _, _, rfl, ⟨c, rfl⟩, _, _, rfl, ⟨l0, l1, l2, rfl⟩, rfl⟩ := h
    refine ⟨⟨a.1, w0.1, w1.1, w2.1, e.1, e.2.1, e.2.2, c.1, c.2.1, c.2.2, l0, l1, l2⟩, rfl, a.2, fun i hi => ?_⟩
    match i, hi with
    | 0, _ => exact w0.2
    | 1, _ => exact w1.2
    | 2, _ => exact w2.2
theorem okWide_array {P : Program} {w : World} {r : Reach} {base t n e : Nat} {v : Value} (ht : P.underlying t = some (.array n e)) (h : Value.okWide P w r base t v) : ∃ cs, v = .agg cs ∧ cs.size = P.cellsOf t := by
  simp only [Value.okWide, ht] at h
  obtain ⟨cs, h1, h2, _⟩ := h
  exact ⟨cs, h1, h2⟩
theorem glob_of_laid {W : World} (h : laidMetH Tryz.prog [("math/bits.deBruijn64tab", Go.Proofs.YtgoofldhelffdaaGreatDoor.Rows.laid_math_bits_deBruijn64tab)] W) : Glob (gh0 W) W := by
  rw [MakeChecks.laidMetH_plain _ _ _ (by kernel_rfl)] at h
  obtain ⟨g, t, cs, fuel, p, hg, hty, hvar, hd⟩ := Lib.laidMet.reads h (.head _)
  obtain rfl := Option.some.inj ((show Tryz.prog.globalNamed "math/bits.deBruijn64tab" = some 0 by kernel_rfl).symm.trans hg)
  obtain rfl := Option.some.inj ((show (Tryz.prog.globals[0]?).map (·.type) = some 153 by kernel_rfl).symm.trans hty)
  have hcs := Lib.cells_of_tab (k := .u8) (zs := dbT.map fun (n : Nat) => (n : Int)) Tryz.underlying153 Tryz.underlying5 (by kernel_rfl) (by kernel_rfl) hd
  have key : ∀ (j n : Nat), dbT[j]? = some n → W.cell? ⟨0, j, none⟩ = some (.int .u8 (n : Int)) := fun j n hj => by
    rw [World.var?_cell hg hvar j, ← Array.getElem?_toList, hcs]
    simp [hj]
  intro g ns hgt
  match g, hgt with
  | 0, hgt =>
    obtain rfl := Option.some.inj hgt
    have := gh0_lim (key 63 6 rfl)
    exact ⟨by rw [dbT_len]; omega, key⟩
end Go.Proofs.YtgoofldhelffdaaGreatDoor
