import Derived.Test.YtpedbpbmnchllaaGreatDoorD4
import Derived.Test.YtpedbpbmnchllaaGreatDoorD3
import Derived.Shelf.SortM.Plain
import Derived.Shelf.SortM.SortNone
set_option linter.unusedSimpArgs false
set_option linter.unusedVariables false
set_option linter.unusedSectionVars false
namespace Go.Proofs.YtpedbpbmnchllaaGreatDoor
open Go.Proofs
end Go.Proofs.YtpedbpbmnchllaaGreatDoor
namespace Go.Proofs.YtpedbpbmnchllaaGreatDoor
open Go.Proofs
end Go.Proofs.YtpedbpbmnchllaaGreatDoor
namespace Go.Proofs.YtpedbpbmnchllaaGreatDoor
open Go.Proofs
end Go.Proofs.YtpedbpbmnchllaaGreatDoor
namespace Go.Proofs.YtpedbpbmnchllaaGreatDoor
open Go.Proofs
theorem take_hget {H G L : Hp} {n : Nat} (h : G.take (H.length + n) = H ++ L) (k : Nat) (hk : k < n) : G[H.length + k]? = L[k]? := by
  have := congrArg (fun l : Hp => l[H.length + k]?) h
  rw [List.getElem?_take, if_pos (by omega), hget] at this
  exact this
end Go.Proofs.YtpedbpbmnchllaaGreatDoor
namespace Go.Proofs.YtpedbpbmnchllaaGreatDoor
open Go.Proofs
structure Spn where
  ep : Int
  lo : Int
  hi : Int
def spC (s : Spn) : List CV := [ci s.ep, ci s.lo, ci s.hi]
@[go_sem, simp] theorem spC_len (s : Spn) : (spC s).length = 3 := rfl
@[go_sem, simp] theorem spC_all (s : Spn) : allOne (spC s) = true := rfl
@[go_sem, simp] theorem spC_take (s : Spn) : (spC s).take 3 = spC s := rfl
@[go_sem, simp] theorem spC_drop (s : Spn) : (spC s).drop 3 = [] := rfl
@[go_sem, simp] theorem spC_0 (s : Spn) (h : 0 < (spC s).length) : (spC s)[0] = ci s.ep := rfl
@[go_sem, simp] theorem spC_1 (s : Spn) (h : 1 < (spC s).length) : (spC s)[1] = ci s.lo := rfl
@[go_sem, simp] theorem spC_2 (s : Spn) (h : 2 < (spC s).length) : (spC s)[2] = ci s.hi := rfl
@[go_sem] theorem okL_spC (jb jv : Nat) (s : Spn) : okL jb jv (spC s) = True := by simp [spC, okL, okV]
theorem okE_sps (jb jv : Nat) : ∀ (l : List Spn), okE jb jv (l.map spC)
  | [] => trivial
  | e :: l => by rw [List.map_cons, okE]; exact ⟨by simp [spC, okL, okV], okE_sps jb jv l⟩
theorem okE_bms (jb jv : Nat) : ∀ (l : List Bm), okE jb jv (l.map bmC)
  | [] => trivial
  | e :: l => by rw [List.map_cons, okE]; exact ⟨by rw [okL_bmC]; trivial, okE_bms jb jv l⟩
structure Pt where
  site : Int
  lin : List Spn
  dirty : List Bm
  im : Img
def ptC (p : Pt) : List CV := [ci p.site, .sl .sh 3 (p.lin.map spC), .sl .sh 2 (p.dirty.map bmC), .sl .sh 1 (p.im.map imE)]
@[go_sem, simp] theorem ptC_len (p : Pt) : (ptC p).length = 4 := rfl
@[go_sem, simp] theorem ptC_all (p : Pt) : allOne (ptC p) = true := rfl
@[go_sem, simp] theorem ptC_take (p : Pt) : (ptC p).take 4 = ptC p := rfl
@[go_sem, simp] theorem ptC_drop (p : Pt) : (ptC p).drop 4 = [] := rfl
@[go_sem, simp] theorem ptC_0 (p : Pt) (h : 0 < (ptC p).length) : (ptC p)[0] = ci p.site := rfl
@[go_sem, simp] theorem ptC_1 (p : Pt) (h : 1 < (ptC p).length) : (ptC p)[1] = .sl .sh 3 (p.lin.map spC) := rfl
@[go_sem, simp] theorem ptC_2 (p : Pt) (h : 2 < (ptC p).length) : (ptC p)[2] = .sl .sh 2 (p.dirty.map bmC) := rfl
@[go_sem, simp] theorem ptC_3 (p : Pt) (h : 3 < (ptC p).length) : (ptC p)[3] = .sl .sh 1 (p.im.map imE) := rfl
@[go_sem] theorem okL_ptC (jb jv : Nat) (p : Pt) : okL jb jv (ptC p) = True := by
  simp [ptC, okL, okV, go_sem, okE_sps, okE_bms, okE_ims]
theorem okE_pts (jb jv : Nat) : ∀ (l : List Pt), okE jb jv (l.map ptC)
  | [] => trivial
  | e :: l => by rw [List.map_cons, okE]; exact ⟨by rw [okL_ptC]; trivial, okE_pts jb jv l⟩
def inD (n low : Int) : Bool := decide (low ≤ n) && decide (n ≤ 1073741824)
theorem dIn_cc (H : Hp) (V : List Nat) (n low : Int) : CC Tryz.prog 92 [ci n, ci low] H V (Pu (cb (inD n low)) H V) := by
  refine CC.of_swp Tryz.func92 rfl (by kernel_rfl) (by rw [Tryz.ntmps92]; exact len_le _ _ rfl) fun hok hokH => ?_
  clear hok
  refine SWp.seq (Wp.s ?_)
  simp -implicitDefEqProofs [go_sem, args0]
  by_cases h : low ≤ n
  · refine SWp.seq (Wp.s ?_)
    simp -implicitDefEqProofs [go_sem, h]
    refine Wp.s ?_
    simp -implicitDefEqProofs [go_sem]
    exact Fin.bool (by simp [inD, h]) hokH (by simp) (by simp)
  · refine SWp.seq (Wp.s ?_)
    simp -implicitDefEqProofs [go_sem, h]
    refine Wp.s ?_
    simp -implicitDefEqProofs [go_sem]
    exact Fin.bool (by simp [inD, h]) hokH (by simp) (by simp)
def spZ : Spn := ⟨0, 0, 0⟩
def spAt (l : List Spn) (i : Nat) : Spn := (spZ :: l).getD i spZ
theorem spAt_succ (l : List Spn) (i : Nat) (h : i < l.length) : spAt l (i + 1) = l[i] := by
  simp [spAt, List.getD_eq_getElem?_getD, h]
structure LinOk (l : List Spn) : Prop where
  few : l.length ≤ 1000
  ok : ∀ i (h : i < l.length), l[i].lo = (spAt l i).hi + 1 ∧ l[i].lo ≤ l[i].hi ∧ l[i].hi ≤ 1073741824 ∧ inD l[i].ep 1 = true ∧ (spAt l i).ep < l[i].ep
theorem LinOk.bd {l : List Spn} (h : LinOk l) : ∀ i, i ≤ l.length → 0 ≤ (spAt l i).hi ∧ (spAt l i).hi ≤ 1073741824
  | 0, _ => by simp [spAt, spZ]
  | i + 1, hi => by
    obtain ⟨a, b, c, d, e⟩ := h.ok i (by omega)
    obtain ⟨f, g⟩ := LinOk.bd h i (by omega)
    rw [spAt_succ l i (by omega)]; omega
set_option maxRecDepth 8000 in
theorem correct_cc (H : Hp) (V : List Nat) (l : List Spn) (hl : LinOk l) : CC Tryz.prog 79 [.sl .sh 3 (l.map spC)] H V (Pu (cb true) H V) := by
  refine CC.of_swp Tryz.func79 rfl (by kernel_rfl) (by rw [Tryz.ntmps79]; exact len_le _ _ rfl) fun hok hokH => ?_
  clear hok
  have hfew := hl.few
  refine SWp.seq (Wp.s ?_)
  simp -implicitDefEqProofs [go_sem, args0]
  refine SWp.seq (Wp.s ?_)
  simp -implicitDefEqProofs [go_sem]
  refine SWp.join (α := Unit) (fun _ => ([], H, V)) (fun _ => True) ?_ ?_
  · refine SWp.seq (Wp.s ?_)
    simp -implicitDefEqProofs [go_sem]
    refine SWp.block ?_
    refine SWp.loop (α := Nat) (fun i => ([(3, .ptr H.length 0), (7, .sl .sh 3 (l.map spC)), (8, ci l.length), (9, ci i)], H ++ [some (spC (spAt l i))], V)) (fun i => i ≤ l.length) (fun i => l.length - i) 0 (Nat.zero_le _) (Sh.forget (by simp [go_sem]) (by simp [spAt, spZ, spC]) rfl) ?_
    intro i hi
    dsimp only
    refine SWp.seq (Wp.s ?_)
    simp -implicitDefEqProofs [go_sem]
    refine SWp.seq (Wp.s ?_)
    simp -implicitDefEqProofs [go_sem]
    refine ⟨fun h => ?_, fun h => Sh.trim0 (by simp [go_sem]) (by simp [go_sem]) hokH (Nat.le_refl _) (by simp) (by simp)⟩
    obtain ⟨a, b, c, d, e⟩ := hl.ok i h
    obtain ⟨f, g⟩ := hl.bd i hi
    have w1 : IntKind.i64.wrap ((spAt l i).hi + 1) = l[i].lo := by rw [IntWalk.i64_in _ ⟨by omega, by omega⟩]; omega
    refine SWp.seq (SWp.block (SWp.seq (Wp.s ?_)))
    simp -implicitDefEqProofs [go_sem, h]
    refine SWp.seq (SWp.seq (Wp.s ?_))
    simp -implicitDefEqProofs [go_sem, w1, show ¬ l[i].hi < l[i].lo by omega, show ¬ (1073741824 : Int) < l[i].hi by omega]
    refine CC.mono (dIn_cc _ _ l[i].ep 1) ?_
    rintro _ _ _ ⟨rfl, rfl, rfl⟩
    rw [d]
    simp -implicitDefEqProofs [go_sem, show ¬ l[i].ep ≤ (spAt l i).ep by omega]
    refine Wp.s ?_
    simp -implicitDefEqProofs [go_sem]
    refine Wp.s ?_
    simp -implicitDefEqProofs [go_sem]
    refine Wp.s ?_
    simp -implicitDefEqProofs [go_sem]
    refine ⟨i + 1, by omega, by omega, ?_⟩
    rw [spAt_succ l i h]
    refine Sh.trim (L := [some (spC l[i])]) ?_ (by simp [go_sem, okE_sps]) hokH (by rw [okH_some, okL_spC]; exact ⟨trivial, trivial⟩) (Nat.le_refl _) (by simp) (by simp)
    simp [go_sem, wrap_succ (show i ≤ 1000000000 by omega)]
  rintro _ -
  dsimp only
  refine SWp.seq (Wp.s ?_)
  simp -implicitDefEqProofs [go_sem]
  refine Wp.s ?_
  simp -implicitDefEqProofs [go_sem]
  exact Fin.bool rfl hokH (by simp) (by simp)
structure PtOk (p : Pt) : Prop where
  site : inD p.site 0 = true
  lin : LinOk p.lin
  im : sizesE (imgSz p.im) = 0
  len : p.dirty.length = p.im.length
  dirty : ∀ v (h : v < p.dirty.length) (h2 : v < p.im.length), BmOk p.dirty[v] ∧ p.dirty[v].n = p.im[v].length
  few : p.im.length ≤ 1000
set_option maxRecDepth 8000 in
theorem ptCheck_cc (H : Hp) (V : List Nat) (p : Pt) (hp : PtOk p) : CC Tryz.prog 52 [.agg (ptC p)] H V (Pu (er 0) H V) := by
  refine CC.of_swp Tryz.func52 rfl (by kernel_rfl) (by rw [Tryz.ntmps52]; exact len_le _ _ rfl) fun hok hokH => ?_
  clear hok
  have hfew := hp.few
  have hlen := hp.len
  refine SWp.seq (Wp.s ?_)
  simp -implicitDefEqProofs [go_sem, args0]
  refine SWp.seq (SWp.block (SWp.seq (Wp.s ?_)))
  simp -implicitDefEqProofs [go_sem]
  refine CC.mono (dIn_cc _ _ p.site 0) ?_
  rintro _ _ _ ⟨rfl, rfl, rfl⟩
  rw [hp.site]
  simp -implicitDefEqProofs [go_sem]
  refine Wp.s ?_
  simp -implicitDefEqProofs [go_sem]
  refine CC.mono (correct_cc _ _ p.lin hp.lin) ?_
  rintro _ _ _ ⟨rfl, rfl, rfl⟩
  simp -implicitDefEqProofs [go_sem]
  refine SWp.seq (SWp.seq (Wp.s ?_))
  simp -implicitDefEqProofs [go_sem]
  refine CC.mono (iCheck_cc _ _ .sh p.im (by omega)) ?_
  rintro _ _ _ ⟨rfl, rfl, rfl⟩
  rw [hp.im]
  simp -implicitDefEqProofs [go_sem]
  refine Wp.s ?_
  simp -implicitDefEqProofs [go_sem]
  refine SWp.seq (SWp.seq (Wp.s ?_))
  simp -implicitDefEqProofs [go_sem, show ((p.dirty.length : Nat) : Int) = p.im.length by omega, hlen]
  refine Wp.s ?_
  simp -implicitDefEqProofs [go_sem]
  refine SWp.join (α := Unit) (fun _ => ([], H, V)) (fun _ => True) ?_ ?_
  · refine SWp.seq (Wp.s ?_)
    simp -implicitDefEqProofs [go_sem]
    refine SWp.block ?_
    refine SWp.loop (α := Nat) (fun i => ([(1, .ptr H.length 0), (31, .sl .sh 2 (p.dirty.map bmC)), (32, ci p.im.length), (33, ci i)], H ++ [some (ptC p)], V)) (fun i => i ≤ p.im.length) (fun i => p.im.length - i) 0 (Nat.zero_le _) (Sh.forget (by simp [go_sem, hlen]) rfl rfl) ?_
    intro i hi
    dsimp only
    refine SWp.seq (Wp.s ?_)
    simp -implicitDefEqProofs [go_sem]
    refine SWp.seq (Wp.s ?_)
    simp -implicitDefEqProofs [go_sem]
    refine ⟨fun h => ?_, fun h => Sh.trim0 (by simp [go_sem]) (by simp [go_sem]) hokH (Nat.le_refl _) (by simp) (by simp)⟩
    have h2 : i < p.dirty.length := by omega
    obtain ⟨d1, d2⟩ := hp.dirty i h2 h
    refine SWp.seq (SWp.block (SWp.seq (Wp.s ?_)))
    simp -implicitDefEqProofs [go_sem, h2, h]
    refine SWp.seq (SWp.seq (Wp.s ?_))
    simp -implicitDefEqProofs [go_sem]
    refine CC.mono (bmCheck_cc _ _ p.dirty[i] d1) ?_
    rintro _ _ _ ⟨rfl, rfl, rfl⟩
    simp -implicitDefEqProofs [go_sem]
    refine Wp.s ?_
    simp -implicitDefEqProofs [go_sem]
    refine SWp.seq (SWp.drawnT [] [] (.s 0 .pl <| .s 1 .pl <| .s 2 .pl <| .s 3 .pl <| .s 4 .pl <| .s 5 .pl <| .s 6 .pl <| .s 7 .pl <| .s 8 .pl <| .n) (by kernel_rfl) (by kernel_rfl) ?_)
    simp -implicitDefEqProofs [go_sem, h, d2]
    refine Wp.s ?_
    simp -implicitDefEqProofs [go_sem]
    refine Wp.s ?_
    simp -implicitDefEqProofs [go_sem]
    refine ⟨i + 1, by omega, by omega, ?_⟩
    refine Sh.trim (L := [some (ptC p)]) ?_ (by simp [go_sem, okE_bms]) hokH (by rw [okH_some, okL_ptC]; exact ⟨trivial, trivial⟩) (Nat.le_refl _) (by simp) (by simp)
    simp [go_sem, wrap_succ (show i ≤ 1000000000 by omega)]
  rintro _ -
  dsimp only
  refine SWp.seq (Wp.s ?_)
  simp -implicitDefEqProofs [go_sem]
  refine Wp.s ?_
  simp -implicitDefEqProofs [go_sem]
  exact Fin.er rfl hokH (by simp) (by simp)
theorem alike1_cc (H : Hp) (V : List Nat) (x y : List Sec) (h : x.length = y.length) : CC Tryz.prog 116 [secsV x, secsV y] H V (Pu (cb true) H V) := by
  refine CC.of_swp Tryz.func116 rfl (by kernel_rfl) (by rw [Tryz.ntmps116]; exact len_le _ _ rfl) fun hok hokH => ?_
  clear hok
  refine SWp.seq (Wp.s ?_)
  simp -implicitDefEqProofs [go_sem, args0]
  refine SWp.seq (Wp.s ?_)
  simp -implicitDefEqProofs [go_sem, h]
  refine Wp.s ?_
  simp -implicitDefEqProofs [go_sem]
  exact Fin.bool rfl hokH (by simp) (by simp)
theorem eqAl_cc (H : Hp) (V : List Nat) (t1 t2 : Tk) (x y : Img) (hl : x.length ≤ 1000) (he : x.map List.length = y.map List.length) : CC Tryz.prog 56 [.sl t1 1 (x.map imE), .sl t2 1 (y.map imE), .fn 116 []] H V (Pu (cb true) H V) := by
  refine CC.of_swp Tryz.func56 rfl (by kernel_rfl) (by rw [Tryz.ntmps56]; exact len_le _ _ rfl) fun hok hokH => ?_
  clear hok
  have hlen : x.length = y.length := by simpa using congrArg List.length he
  refine SWp.seq (Wp.s ?_)
  simp -implicitDefEqProofs [go_sem, args0]
  refine SWp.seq (SWp.seq (Wp.s ?_))
  simp -implicitDefEqProofs [go_sem, hlen]
  refine Wp.s ?_
  simp -implicitDefEqProofs [go_sem, hlen]
  refine SWp.join (α := Unit) (fun _ => ([], H, V)) (fun _ => True) ?_ ?_
  · refine SWp.seq (Wp.s ?_)
    simp -implicitDefEqProofs [go_sem]
    refine SWp.block ?_
    refine SWp.loop (α := Nat) (fun i => ([(1, .sl t2 1 (y.map imE)), (2, .fn 116 []), (15, .sl t1 1 (x.map imE)), (16, ci x.length), (17, ci i)], H, V)) (fun i => i ≤ x.length) (fun i => x.length - i) 0 (Nat.zero_le _) (Sh.forget (by simp [go_sem, hlen]) rfl rfl) ?_
    rintro i hi
    dsimp only
    refine SWp.seq (Wp.s ?_)
    simp -implicitDefEqProofs [go_sem]
    refine SWp.seq (Wp.s ?_)
    simp -implicitDefEqProofs [go_sem]
    refine ⟨fun h => ?_, fun h => Sh.forget (by simp [go_sem]) rfl rfl⟩
    have h2 : i < y.length := by omega
    have he1 : x[i].length = y[i].length := by
      have := congrArg (fun l : List Nat => l[i]?) he
      simpa [h, h2] using this
    refine SWp.seq (SWp.block (SWp.seq (Wp.s ?_)))
    simp -implicitDefEqProofs [go_sem, h]
    refine SWp.seq (Wp.s ?_)
    simp -implicitDefEqProofs [go_sem, h2]
    refine SWp.seq (Wp.s ?_)
    simp -implicitDefEqProofs [go_sem]
    refine CC.mono (alike1_cc _ _ x[i] y[i] he1) ?_
    rintro _ _ _ ⟨rfl, rfl, rfl⟩
    simp -implicitDefEqProofs [go_sem]
    refine Wp.s ?_
    simp -implicitDefEqProofs [go_sem]
    refine Wp.s ?_
    simp -implicitDefEqProofs [go_sem]
    refine ⟨i + 1, by omega, by omega, Sh.forget ?_ rfl rfl⟩
    simp [go_sem, wrap_succ (show i ≤ 1000000000 by omega)]
  · rintro _ -
    dsimp only
    refine Wp.s ?_
    simp -implicitDefEqProofs [go_sem]
    exact Fin.bool rfl hokH (by simp) (by simp)
theorem alike_cc (H : Hp) (V : List Nat) (t1 t2 : Tk) (x y : Img) (hl : x.length ≤ 1000) (he : x.map List.length = y.map List.length) : CC Tryz.prog 77 [.sl t1 1 (x.map imE), .sl t2 1 (y.map imE)] H V (Pu (cb true) H V) := by
  refine CC.of_swp Tryz.func77 rfl (by kernel_rfl) (by rw [Tryz.ntmps77]; exact len_le _ _ rfl) fun hok hokH => ?_
  clear hok
  refine SWp.seq (Wp.s ?_)
  simp -implicitDefEqProofs [go_sem, args0]
  refine SWp.seq (Wp.s ?_)
  simp -implicitDefEqProofs [go_sem]
  refine CC.mono (eqAl_cc _ _ t1 t2 x y hl he) ?_
  rintro _ _ _ ⟨rfl, rfl, rfl⟩
  simp -implicitDefEqProofs [go_sem]
  refine Wp.s ?_
  simp -implicitDefEqProofs [go_sem]
  exact Fin.bool rfl hokH (by simp) (by simp)
end Go.Proofs.YtpedbpbmnchllaaGreatDoor
namespace Go.Proofs.YtpedbpbmnchllaaGreatDoor
open Go.Proofs
theorem Kp_one (H L L' : Hp) (k : Nat) (h : L[k]? = L'[k]?) : Kp [H.length + k] (H ++ L) (H ++ L') := Kp.keep fun b hb => by
  obtain rfl : b = H.length + k := by simpa using hb
  rw [hget, hget, h]
end Go.Proofs.YtpedbpbmnchllaaGreatDoor
namespace Go.Proofs.YtpedbpbmnchllaaGreatDoor
open Go.Proofs
end Go.Proofs.YtpedbpbmnchllaaGreatDoor
namespace Go.Proofs.YtpedbpbmnchllaaGreatDoor
open Go.Proofs
end Go.Proofs.YtpedbpbmnchllaaGreatDoor
namespace Go.Proofs.YtpedbpbmnchllaaGreatDoor
open Go.Proofs
end Go.Proofs.YtpedbpbmnchllaaGreatDoor
namespace Go.Proofs.YtpedbpbmnchllaaGreatDoor
open Go.Proofs
end Go.Proofs.YtpedbpbmnchllaaGreatDoor
namespace Go.Proofs.YtpedbpbmnchllaaGreatDoor
open Go.Proofs
end Go.Proofs.YtpedbpbmnchllaaGreatDoor
namespace Go.Proofs.YtpedbpbmnchllaaGreatDoor
open Go.Proofs
theorem vcloneInt_cc (H : Hp) (V : List Nat) (tk : Tk) (xs : List Int) (hx : xs.length ≤ 1000000000) : CC Tryz.prog 38 [.sl tk 1 (xs.map ic)] H V (Pu (.sl .sh 1 (xs.map ic)) H V) := by
  refine CC.of_swp Tryz.func38 rfl (by kernel_rfl) (by rw [Tryz.ntmps38]; exact len_le _ _ rfl) fun hok hokH => Wp.s ?_
  simp -implicitDefEqProofs [go_sem, args0]
  refine ⟨⟨by omega, ?_⟩, fun h => ?_⟩
  · exact Fin.pu (.sh ..) (by simp [go_sem, okE_ints]) hokH (by simp) (by simp)
  · obtain rfl : xs = [] := by simpa using h
    exact Fin.pu (.nil 1 (by decide)) (by simp [go_sem]) hokH (by simp) (by simp)
theorem vcloneSec_cc (H : Hp) (V : List Nat) (tk : Tk) (xs : List Sec) (hx : xs.length ≤ 1000000000) : CC Tryz.prog 39 [.sl tk 8 (xs.map secC)] H V (Pu (secsV xs) H V) := by
  refine CC.of_swp Tryz.func39 rfl (by kernel_rfl) (by rw [Tryz.ntmps39]; exact len_le _ _ rfl) fun hok hokH => Wp.s ?_
  simp -implicitDefEqProofs [go_sem, args0]
  refine ⟨⟨by omega, ?_⟩, fun h => ?_⟩
  · exact Fin.pu (.sh ..) (by simp [go_sem, okE_secs]) hokH (by simp) (by simp)
  · obtain rfl : xs = [] := by simpa using h
    exact Fin.pu (.nil 8 (by decide)) (by simp [go_sem]) hokH (by simp) (by simp)
end Go.Proofs.YtpedbpbmnchllaaGreatDoor
namespace Go.Proofs.YtpedbpbmnchllaaGreatDoor
open Go.Proofs
end Go.Proofs.YtpedbpbmnchllaaGreatDoor
namespace Go.Proofs.YtpedbpbmnchllaaGreatDoor
open Go.Proofs
end Go.Proofs.YtpedbpbmnchllaaGreatDoor
namespace Go.Proofs.YtpedbpbmnchllaaGreatDoor
open Go.Proofs
end Go.Proofs.YtpedbpbmnchllaaGreatDoor
namespace Go.Proofs.YtpedbpbmnchllaaGreatDoor
open Go.Proofs
theorem rNew_cc (H : Hp) (V : List Nat) (l : List Int) (hl : l.length ≤ 9223372036854775807) : CC Tryz.prog 61 [.sl .sh 1 (l.map ic)] H V (Pu (.tup [imV (if sizesE l ≠ 0 then [] else imOf l), er (sizesE l)]) H V) := by
  refine CC.of_swp Tryz.func61 rfl (by kernel_rfl) (by rw [Tryz.ntmps61]; exact len_le _ _ rfl) fun hok hokH => ?_
  clear hok
  refine SWp.seq (Wp.s ?_)
  simp -implicitDefEqProofs [go_sem, args0]
  refine SWp.seq (SWp.seq (Wp.s ?_))
  simp -implicitDefEqProofs [go_sem]
  refine CC.mono (refSizes_cc _ _ .sh l hl) ?_
  rintro _ _ _ ⟨rfl, rfl, rfl⟩
  simp -implicitDefEqProofs [go_sem]
  refine SWp.seq (Wp.s ?_)
  by_cases h0 : sizesE l = 0
  case neg =>
    simp -implicitDefEqProofs [go_sem, h0]
    refine Wp.s ?_
    simp -implicitDefEqProofs [go_sem]
    exact Fin.pu (.tup (.cons (.nil 1 (by decide)) (.cons (.refl _) .nil))) (by simp [go_sem, okE]) hokH (by simp) (by simp)
  obtain ⟨s1, s2, s3⟩ := sizesE_0 h0
  simp -implicitDefEqProofs [go_sem, h0]
  refine Wp.s ?_
  simp -implicitDefEqProofs [go_sem]
  refine SWp.seq (Wp.s ?_)
  simp -implicitDefEqProofs [go_sem]
  have hil : (imOf l).length = l.length := imOf_len l
  refine SWp.join (α := Unit) (fun _ => ([(5, .sl (.own V.length l.length) 1 (bxs H.length (imOf l)))], H ++ imH (imOf l), V ++ [l.length])) (fun _ => True) ?_ ?_
  · refine SWp.seq (Wp.s ?_)
    simp -implicitDefEqProofs [go_sem]
    refine SWp.block ?_
    refine SWp.loop (α := Nat) (fun i => ([(0, .sl .sh 1 (l.map ic)), (5, .sl (.own V.length i) 1 (bxs H.length ((imOf l).take i))), (6, ci i)], H ++ imH ((imOf l).take i), V ++ [i])) (fun i => i ≤ l.length) (fun i => l.length - i) 0 (Nat.zero_le _) (Sh.tokT (by simp [go_sem, bxs]) (by simp [imH]) rfl) ?_
    intro i hi
    dsimp only
    refine SWp.seq (SWp.seq (Wp.s ?_))
    simp -implicitDefEqProofs [go_sem]
    refine Wp.s ?_
    simp -implicitDefEqProofs [go_sem]
    refine ⟨fun h => ?_, fun h => ?_⟩
    case refine_2 =>
      obtain rfl : i = l.length := by omega
      exact Sh.forget (by rw [List.take_of_length_le (by omega)]; simp [go_sem]) (by rw [List.take_of_length_le (by omega)]) rfl
    have hn := s3 _ (List.getElem_mem h)
    refine SWp.seq (SWp.block (Wp.s ?_))
    have hmn : min i l.length = i := Nat.min_eq_left (by omega)
    simp -implicitDefEqProofs [go_sem, -List.reduceReplicate, h, hmn]
    refine ⟨by omega, by omega, by omega, ?_⟩
    have hz2 := zeros_secs l[i].toNat
    simp only [List.map_cons, List.map_nil] at hz2
    rw [hz2]
    have w5 : IntKind.i64.wrap ((i : Int) + 1) = (i : Int) + 1 := IntWalk.i64_in _ ⟨by omega, by omega⟩
    have htk : (imOf l).take (i + 1) = (imOf l).take i ++ [zer l[i].toNat] := by
      rw [List.take_succ_eq_append_getElem (by omega)]; simp [imOf]
    refine Wp.s ?_
    simp -implicitDefEqProofs [go_sem, w5]
    refine ⟨i + 1, by omega, by omega, Sh.forget ?_ ?_ (by simp)⟩
    · rw [htk, bxs_snoc]; simp [go_sem, hmn]
    · rw [htk, imH, imH, List.map_append]; rfl
  rintro _ -
  dsimp only
  refine Wp.s ?_
  simp -implicitDefEqProofs [go_sem]
  obtain ⟨H', h1, h2⟩ := gst_bxs (n := 1) (nb := H.length) (nv := V.length) (b := H.length) (V := V ++ [l.length]) (cs := [er 0]) (imOf l) [] (H ++ imH (imOf l)) (.own V.length l.length) (fun j hj => imH_get H _ j hj)
  refine ⟨_, H, V, Gst.trans h2 ?_, ⟨rfl, rfl, rfl⟩⟩
  rw [List.take_left] at h1
  have := Gst.cut (n := 1) (nb := H.length) (nv := V.length) (T := [(0, .tup [imV (imOf l), er 0])]) (H := H') (V := V ++ [l.length]) H.length V.length (Nat.le_refl _) (Nat.le_refl _) (fun p hp => by simp at hp; subst hp; simp [go_sem, okL, okV]) (by rw [h1]; exact hokH)
  rwa [h1, List.take_left] at this
end Go.Proofs.YtpedbpbmnchllaaGreatDoor
namespace Go.Proofs.YtpedbpbmnchllaaGreatDoor
open Go.Proofs
end Go.Proofs.YtpedbpbmnchllaaGreatDoor
namespace Go.Proofs.YtpedbpbmnchllaaGreatDoor
open Go.Proofs
theorem SameVol_cc (H : Hp) (V : List Nat) (t1 t2 : Tk) (x y : List Sec) (hl : x.length ≤ 1000000000) : CC Tryz.prog 72 [.sl t1 8 (x.map secC), .sl t2 8 (y.map secC)] H V (Pu (.v (.bool (decide (x = y)))) H V) := by
  refine CC.of_swp Tryz.func72 rfl (by kernel_rfl) (by rw [Tryz.ntmps72]; exact len_le _ _ rfl) fun hok hokH => ?_
  clear hok
  refine SWp.seq (Wp.s ?_)
  simp -implicitDefEqProofs [go_sem, args0]
  refine SWp.seq (SWp.seq (Wp.s ?_))
  by_cases hlen : x.length = y.length
  case neg =>
    have hlen' : ¬ (x.length : Int) = (y.length : Int) := by omega
    simp -implicitDefEqProofs [go_sem, hlen']
    refine Wp.s ?_
    simp -implicitDefEqProofs [go_sem, hlen, hlen']
    exact Fin.bool (by simp [show x ≠ y from fun e => hlen (by rw [e])]) hokH (by simp) (by simp)
  simp -implicitDefEqProofs [go_sem, hlen]
  refine Wp.s ?_
  simp -implicitDefEqProofs [go_sem, hlen]
  refine SWp.join (α := Unit) (fun _ => ([], H, V)) (fun _ => x = y) ?_ ?_
  · refine SWp.seq (Wp.s ?_)
    simp -implicitDefEqProofs [go_sem]
    refine SWp.block ?_
    refine SWp.loop (α := Nat) (fun i => ([(0, .sl t1 8 (x.map secC)), (1, .sl t2 8 (y.map secC)), (5, ci i)], H, V)) (fun i => i ≤ x.length ∧ x.take i = y.take i) (fun i => x.length - i) 0 ⟨Nat.zero_le _, rfl⟩ (Sh.forget (by simp [go_sem]) rfl rfl) ?_
    rintro i ⟨hi, hp⟩
    dsimp only
    refine SWp.seq (SWp.seq (Wp.s ?_))
    simp -implicitDefEqProofs [go_sem]
    refine Wp.s ?_
    simp -implicitDefEqProofs [go_sem]
    refine ⟨fun h => ?_, fun h => ⟨eq_of_take hlen h hp, Sh.forget (by simp [go_sem]) rfl rfl⟩⟩
    have h2 : i < y.length := by omega
    refine SWp.seq (SWp.block (SWp.seq (SWp.drawnT [] [] (.s 0 .pl <| .s 1 .pl <| .s 2 .pl <| .s 3 .pl <| .s 4 .pl <| .s 5 .pl <| .s 6 .pl <| .s 7 .pl <| .s 8 .pl <| .n) (by kernel_rfl) (by kernel_rfl) ?_)))
    simp -implicitDefEqProofs [go_sem, h, h2]
    refine ⟨_, flatSec, fits_secW _, fits_secW _, fun he => ?_, fun he => ?_⟩
    · refine Wp.s ?_
      simp -implicitDefEqProofs [go_sem]
      exact Fin.bool (by simp [ne_at h h2 (fun e => he (by rw [e]))]) hokH (by simp) (by simp)
    · refine Wp.s ?_
      simp -implicitDefEqProofs [go_sem]
      refine Wp.s ?_
      simp -implicitDefEqProofs [go_sem]
      refine ⟨i + 1, ⟨by omega, take_eq_succ h h2 hp (secC_inj he)⟩, by omega, Sh.forget ?_ rfl rfl⟩
      simp [go_sem, wrap_succ (show i ≤ 1000000000 by omega)]
  · rintro _ he
    dsimp only
    refine Wp.s ?_
    simp -implicitDefEqProofs [go_sem]
    exact Fin.bool (by simp [he]) hokH (by simp) (by simp)
theorem SameImg_cc (H : Hp) (V : List Nat) (t1 t2 : Tk) (x y : Img) (hl : x.length ≤ 1000000000) (hs : ∀ v ∈ x, v.length ≤ 1000000000) : CC Tryz.prog 22 [.sl t1 1 (x.map imE), .sl t2 1 (y.map imE)] H V (Pu (.v (.bool (decide (x = y)))) H V) := by
  refine CC.of_swp Tryz.func22 rfl (by kernel_rfl) (by rw [Tryz.ntmps22]; exact len_le _ _ rfl) fun hok hokH => ?_
  clear hok
  refine SWp.seq (Wp.s ?_)
  simp -implicitDefEqProofs [go_sem, args0]
  refine SWp.seq (SWp.seq (Wp.s ?_))
  by_cases hlen : x.length = y.length
  case neg =>
    have hlen' : ¬ (x.length : Int) = (y.length : Int) := by omega
    simp -implicitDefEqProofs [go_sem, hlen']
    refine Wp.s ?_
    simp -implicitDefEqProofs [go_sem, hlen, hlen']
    exact Fin.bool (by simp [show x ≠ y from fun e => hlen (by rw [e])]) hokH (by simp) (by simp)
  simp -implicitDefEqProofs [go_sem, hlen]
  refine Wp.s ?_
  simp -implicitDefEqProofs [go_sem, hlen]
  refine SWp.join (α := Unit) (fun _ => ([], H, V)) (fun _ => x = y) ?_ ?_
  · refine SWp.seq (Wp.s ?_)
    simp -implicitDefEqProofs [go_sem]
    refine SWp.block ?_
    refine SWp.loop (α := Nat) (fun i => ([(0, .sl t1 1 (x.map imE)), (1, .sl t2 1 (y.map imE)), (5, ci i)], H, V)) (fun i => i ≤ x.length ∧ x.take i = y.take i) (fun i => x.length - i) 0 ⟨Nat.zero_le _, rfl⟩ (Sh.forget (by simp [go_sem]) rfl rfl) ?_
    rintro i ⟨hi, hp⟩
    dsimp only
    refine SWp.seq (SWp.seq (Wp.s ?_))
    simp -implicitDefEqProofs [go_sem]
    refine Wp.s ?_
    simp -implicitDefEqProofs [go_sem]
    refine ⟨fun h => ?_, fun h => ⟨eq_of_take hlen h hp, Sh.forget (by simp [go_sem]) rfl rfl⟩⟩
    have h2 : i < y.length := by omega
    refine SWp.seq (SWp.block (SWp.seq (SWp.drawnT [] [] (.s 0 .pl <| .s 1 .pl <| .s 2 .pl <| .s 3 .pl <| .s 4 .pl <| .s 5 .pl <| .s 6 .pl <| .s 7 .pl <| .s 8 .pl <| .s 9 .pl <| .n) (by kernel_rfl) (by kernel_rfl) ?_)))
    simp -implicitDefEqProofs [go_sem, h, h2]
    refine CC.mono (SameVol_cc _ _ .sh .sh x[i] y[i] (hs _ (List.getElem_mem h))) ?_
    rintro _ _ _ ⟨rfl, rfl, rfl⟩
    by_cases he : x[i] = y[i]
    · simp -implicitDefEqProofs [go_sem, he]
      refine Wp.s ?_
      simp -implicitDefEqProofs [go_sem]
      refine Wp.s ?_
      simp -implicitDefEqProofs [go_sem]
      refine ⟨i + 1, ⟨by omega, take_eq_succ h h2 hp he⟩, by omega, Sh.forget ?_ rfl rfl⟩
      simp [go_sem, wrap_succ (show i ≤ 1000000000 by omega)]
    · simp -implicitDefEqProofs [go_sem, he]
      refine Wp.s ?_
      simp -implicitDefEqProofs [go_sem]
      exact Fin.bool (by simp [ne_at h h2 he]) hokH (by simp) (by simp)
  · rintro _ he
    dsimp only
    refine Wp.s ?_
    simp -implicitDefEqProofs [go_sem]
    exact Fin.bool (by simp [he]) hokH (by simp) (by simp)
end Go.Proofs.YtpedbpbmnchllaaGreatDoor
namespace Go.Proofs.YtpedbpbmnchllaaGreatDoor
open Go.Proofs
def difS (v : Int) (l : List Wr) (i : Nat) (s : Sec) : List Wr :=
  match l.getLast? with
  | some w => if w.start + w.data.length = i then l.dropLast ++ [⟨w.volume, w.start, w.data ++ [s]⟩] else l ++ [⟨v, i, [s]⟩]
  | none => [⟨v, i, [s]⟩]
theorem difS_nil (v : Int) (i : Nat) (s : Sec) : difS v [] i s = [⟨v, i, [s]⟩] := rfl
theorem difS_snoc (v : Int) (l : List Wr) (w : Wr) (i : Nat) (s : Sec) : difS v (l ++ [w]) i s = if w.start + w.data.length = i then l ++ [⟨w.volume, w.start, w.data ++ [s]⟩] else l ++ [w] ++ [⟨v, i, [s]⟩] := by
  simp [difS]
def difStep (v : Int) (a b : List Sec) (l : List Wr) (i : Nat) : List Wr := if a.getD i sec0 = b.getD i sec0 then l else difS v l i (a.getD i sec0)
def difX (v : Int) (a b : List Sec) (s c : Nat) : List Wr := (List.range' s c).foldl (difStep v a b) []
theorem difX_zero (v : Int) (a b : List Sec) (s : Nat) : difX v a b s 0 = [] := rfl
theorem difX_succ (v : Int) (a b : List Sec) (s c : Nat) : difX v a b s (c + 1) = difStep v a b (difX v a b s c) (s + c) := by
  rw [difX, List.range'_1_concat, List.foldl_append]; rfl
end Go.Proofs.YtpedbpbmnchllaaGreatDoor
namespace Go.Proofs.YtpedbpbmnchllaaGreatDoor
open Go.Proofs
@[go_sem, simp] theorem exC_take (e : Nat × Nat) : (exC e).take 2 = exC e := rfl
@[go_sem, simp] theorem exC_drop (e : Nat × Nat) : (exC e).drop 2 = [] := rfl
def mxsE (l : List (Nat × Nat)) : List CV := [.sl .sh 2 (l.map exC)]
@[go_sem, simp] theorem mxsE_len (l : List (Nat × Nat)) : (mxsE l).length = 1 := rfl
@[go_sem, simp] theorem mxsE_all (l : List (Nat × Nat)) : allOne (mxsE l) = true := rfl
@[go_sem, simp] theorem mxsE_0 (l : List (Nat × Nat)) (h : 0 < (mxsE l).length) : (mxsE l)[0] = .sl .sh 2 (l.map exC) := rfl
theorem okL_mxsE (jb jv : Nat) (l : List (Nat × Nat)) : okL jb jv (mxsE l) := by simp [mxsE, okL, go_sem, okE_exs]
theorem okE_exss (jb jv : Nat) : ∀ (l : List (List (Nat × Nat))), okE jb jv (l.map mxsE)
  | [] => trivial
  | e :: l => by rw [List.map_cons, okE]; exact ⟨okL_mxsE jb jv e, okE_exss jb jv l⟩
def mk1 (a b : Bm) : List (Nat × Nat) := runsN (elsN a.n (a.w ||| b.w))
def mkd (p q : Pt) : List (List (Nat × Nat)) := (List.range p.dirty.length).map fun v => mk1 (p.dirty.getD v ⟨1, 0⟩) (q.dirty.getD v ⟨1, 0⟩)
theorem mkd_len (p q : Pt) : (mkd p q).length = p.dirty.length := by simp [mkd]
theorem mkd_get (p q : Pt) (v : Nat) (h : v < (mkd p q).length) (h1 : v < p.dirty.length) (h2 : v < q.dirty.length) : (mkd p q)[v] = mk1 p.dirty[v] q.dirty[v] := by
  simp [mkd, List.getD_eq_getElem?_getD, h1, h2]
def mkB (n : Nat) (l : List (List (Nat × Nat))) : List CV := (l.map mxsE).flatten ++ List.replicate (n - l.length) (.v (.slice none 0 0))
theorem flat_mxsE : ∀ (l : List (List (Nat × Nat))), ((l.map mxsE).flatten).length = l.length
  | [] => rfl
  | e :: l => by rw [List.map_cons, List.flatten_cons, List.length_append, flat_mxsE l, List.length_cons]; show 1 + _ = _; omega
@[go_sem, simp] theorem mkB_len {n : Nat} {l : List (List (Nat × Nat))} (h : l.length ≤ n) : (mkB n l).length = n := by
  rw [mkB, List.length_append, flat_mxsE, List.length_replicate]; omega
theorem mkB_set {n : Nat} (l : List (List (Nat × Nat))) (e : List (Nat × Nat)) (h : l.length < n) : (mkB n l).take l.length ++ .sl .sh 2 (e.map exC) :: (mkB n l).drop (l.length + 1) = mkB n (l ++ [e]) := by
  rw [mkB, List.take_append, flat_mxsE, Nat.sub_self, List.take_zero, List.append_nil, List.take_of_length_le (by rw [flat_mxsE]; omega), List.drop_append, flat_mxsE, List.drop_eq_nil_of_le (by rw [flat_mxsE]; omega), List.nil_append, List.drop_replicate, mkB, List.map_append, List.flatten_append]
  rw [show n - l.length - (l.length + 1 - l.length) = n - (l ++ [e]).length by simp; omega]
  simp [mxsE]
theorem chunks_mxsE : ∀ (l : List (List (Nat × Nat))), chunks 1 l.length (l.map mxsE).flatten = l.map mxsE
  | [] => rfl
  | o :: B => by
    rw [List.length_cons, chunks, List.map_cons, List.flatten_cons]
    rw [show (mxsE o ++ (B.map mxsE).flatten).take 1 = mxsE o from rfl, show (mxsE o ++ (B.map mxsE).flatten).drop 1 = (B.map mxsE).flatten from rfl, chunks_mxsE B]
theorem okL_mkB (jb jv n : Nat) (l : List (List (Nat × Nat))) : okL jb jv (mkB n l) := by
  refine okL_app ?_ ?_
  · induction l with
    | nil => trivial
    | cons e l ih => rw [List.map_cons, List.flatten_cons]; exact okL_app (okL_mxsE _ _ _) ih
  · generalize n - l.length = m
    induction m with
    | zero => trivial
    | succ m ih => rw [List.replicate_succ, okL]; exact ⟨by rw [okV]; trivial, ih⟩
structure Pt2 (p q : Pt) : Prop where
  hp : PtOk p
  hq : PtOk q
  sz : p.im.map List.length = q.im.map List.length
theorem Pt2.len {p q : Pt} (h : Pt2 p q) : p.dirty.length = q.dirty.length := by
  have := congrArg List.length h.sz
  rw [List.length_map, List.length_map] at this
  rw [h.hp.len, h.hq.len, this]
theorem Pt2.n {p q : Pt} (h : Pt2 p q) (v : Nat) (h1 : v < p.dirty.length) (h2 : v < q.dirty.length) : BmOk p.dirty[v] ∧ BmOk q.dirty[v] ∧ p.dirty[v].n = q.dirty[v].n := by
  have l1 := h.hp.len
  have l2 := h.hq.len
  obtain ⟨a, b⟩ := h.hp.dirty v h1 (by omega)
  obtain ⟨c, d⟩ := h.hq.dirty v h2 (by omega)
  refine ⟨a, c, ?_⟩
  rw [b, d]
  have := congrArg (fun l : List Nat => l[v]?) h.sz
  simpa [show v < p.im.length by omega, show v < q.im.length by omega] using this
set_option maxRecDepth 8000 in
theorem marked_cc (H : Hp) (V : List Nat) (p q : Pt) (h : Pt2 p q) : CC Tryz.prog 78 [.agg (ptC p), .agg (ptC q)] H V (Pu (.sl .sh 1 ((mkd p q).map mxsE)) H V) := by
  refine CC.of_swp Tryz.func78 rfl (by kernel_rfl) (by rw [Tryz.ntmps78]; exact len_le _ _ rfl) fun hok hokH => ?_
  clear hok
  have hlen := h.len
  have hfew : p.dirty.length ≤ 1000 := by rw [h.hp.len]; exact h.hp.few
  have hml := mkd_len p q
  refine SWp.seq (Wp.s ?_)
  simp -implicitDefEqProofs [go_sem, args0]
  refine SWp.seq (Wp.s ?_)
  simp -implicitDefEqProofs [go_sem, show ((p.dirty.length : Nat) : Int) ≤ 1099511627776 by omega]
  refine SWp.join (α := Unit) (fun _ => ([(5, .bsl (H.length + 2) 0 p.dirty.length 1)], H ++ [some (ptC p), some (ptC q), some (mkB p.dirty.length (mkd p q))], V)) (fun _ => True) ?_ ?_
  · refine SWp.seq (Wp.s ?_)
    simp -implicitDefEqProofs [go_sem]
    refine SWp.block ?_
    refine SWp.loop (α := Nat) (fun i => ([(2, .ptr H.length 0), (3, .ptr (H.length + 1) 0), (5, .bsl (H.length + 2) 0 p.dirty.length 1), (14, ci p.dirty.length), (15, ci i)], H ++ [some (ptC p), some (ptC q), some (mkB p.dirty.length ((mkd p q).take i))], V)) (fun i => i ≤ p.dirty.length) (fun i => p.dirty.length - i) 0 (Nat.zero_le _) (Sh.forget (by simp [go_sem]) (by simp [mkB]) rfl) ?_
    intro i hi
    dsimp only
    refine SWp.seq (Wp.s ?_)
    simp -implicitDefEqProofs [go_sem]
    refine SWp.seq (Wp.s ?_)
    simp -implicitDefEqProofs [go_sem]
    refine ⟨fun hil => ?_, fun hil => ?_⟩
    case refine_2 =>
      rw [List.take_of_length_le (by omega)]
      exact Sh.forget (by simp [go_sem]) rfl rfl
    have h2 : i < q.dirty.length := by omega
    obtain ⟨n1, n2, n3⟩ := h.n i hil h2
    refine SWp.seq (SWp.block (SWp.seq (Wp.s ?_)))
    simp -implicitDefEqProofs [go_sem]
    refine SWp.seq (SWp.drawnT [] [15] (.s 0 .pl <| .s 1 .pl <| .s 2 .pl <| .s 3 .pl <| .s 4 .pl <| .s 5 .pl <| .s 6 .pl <| .s 7 .pl <| .s 8 .pl <| .s 9 .pl <| .c 10 <| .s 11 .pl <| .s 12 .pl <| .s 13 .pl <| .s 14 .pl <| .s 15 .st <| .s 16 .pl <| .n) (by kernel_rfl) (by kernel_rfl) ?_)
    simp -implicitDefEqProofs [go_sem, hil, h2]
    refine ⟨.tup [.agg (bmC (orB p.dirty[i] q.dirty[i])), er 0], fun H V => bmOr_cc H V p.dirty[i] q.dirty[i] n1 n2 n3, ?_⟩
    simp -implicitDefEqProofs [go_sem]
    refine Wp.s ?_
    simp -implicitDefEqProofs [go_sem]
    refine CC.mono (extents_cc _ _ (orB p.dirty[i] q.dirty[i]) (orB_ok n1 n2 n3)) ?_
    rintro _ _ _ ⟨rfl, rfl, rfl⟩
    have htl : ((mkd p q).take i).length = i := by rw [List.length_take]; omega
    have hmg : mk1 p.dirty[i] q.dirty[i] = (mkd p q)[i]'(by omega) := (mkd_get p q i (by omega) hil h2).symm
    have hst := mkB_set ((mkd p q).take i) (mk1 p.dirty[i] q.dirty[i]) (n := p.dirty.length) (by omega)
    have hbl : (mkB p.dirty.length ((mkd p q).take i)).length = p.dirty.length := mkB_len (by omega)
    rw [htl, hmg, ← List.take_succ_eq_append_getElem (by omega)] at hst
    rw [show runsN (elsN (orB p.dirty[i] q.dirty[i]).n (orB p.dirty[i] q.dirty[i]).w) = (mkd p q)[i]'(by omega) from hmg]
    simp -implicitDefEqProofs [go_sem, hbl, hil]
    refine ⟨by omega, ?_⟩
    refine Wp.s ?_
    simp -implicitDefEqProofs [go_sem]
    refine ⟨i + 1, by omega, by omega, ?_⟩
    rw [← hst]
    refine Sh.trim (L := [some (ptC p), some (ptC q), some ((mkB p.dirty.length ((mkd p q).take i)).take i ++ .sl .sh 2 (((mkd p q)[i]'(by omega)).map exC) :: (mkB p.dirty.length ((mkd p q).take i)).drop (i + 1))]) ?_ (by simp [go_sem, okE_exs]) hokH ?_ (Nat.le_refl _) (by simp) (by simp)
    · simp [go_sem, wrap_succ (show i ≤ 1000000000 by omega)]
    · rw [hst, okH_some, okL_ptC, okH_some, okL_ptC, okH_some]
      exact ⟨trivial, trivial, okL_mkB _ _ _ _, trivial⟩
  rintro _ -
  dsimp only
  refine SWp.seq (Wp.s ?_)
  simp -implicitDefEqProofs [go_sem]
  refine Wp.s ?_
  simp -implicitDefEqProofs [go_sem]
  exact Fin.froz (b := H.length + 2) (cs := mkB p.dirty.length (mkd p q)) (o := 0) (n := p.dirty.length) (sz := 1) (xs := (mkd p q).map mxsE) ⟨rfl, rfl, rfl⟩ (.refl _) (hget _ _ 2) (by rw [List.drop_zero, mkB, hml, Nat.sub_self, List.replicate_zero, List.append_nil, ← hml, chunks_mxsE]) (by rw [mkB_len (by omega)]; omega) (by omega) (okE_exss _ _ _) hokH (by simp) (by simp)
def trV' (v : Nat) (a b : List Sec) (l : List (Nat × Nat)) : List Wr := l.flatMap fun e => difX v a b e.1 e.2
def imAt (k : Img) (v : Nat) : List Sec := k.getD v []
def trT (p q : Pt) (n : Nat) : List Wr := (List.range n).flatMap fun v => trV' v (imAt p.im v) (imAt q.im v) ((mkd p q).getD v [])
theorem trT_succ (p q : Pt) (n : Nat) : trT p q (n + 1) = trT p q n ++ trV' n (imAt p.im n) (imAt q.im n) ((mkd p q).getD n []) := by
  rw [trT, List.range_succ, List.flatMap_append]; simp [trT]
theorem mk1_len {a b : Bm} (ha : BmOk a) : (mk1 a b).length ≤ 63 := by
  have h1 := runsN_len (elsN a.n (a.w ||| b.w))
  have h2 := elsN_len a.n (a.w ||| b.w)
  have := ha.hi
  rw [mk1]; omega
theorem mk1_bd {a b : Bm} : ∀ e ∈ mk1 a b, e.1 + e.2 ≤ a.n := runsN_bd fun x hx => (elsN_mem.1 hx).1
end Go.Proofs.YtpedbpbmnchllaaGreatDoor
namespace Go.Proofs.YtpedbpbmnchllaaGreatDoor
open Go.Proofs
theorem chunks_ci : ∀ ys : List Int, chunks 1 ys.length (ys.map ci) = ys.map ic
  | [] => rfl
  | y :: ys => by
    rw [List.length_cons, chunks]
    exact congrArg (_ :: ·) (chunks_ci ys)
end Go.Proofs.YtpedbpbmnchllaaGreatDoor
namespace Go.Proofs.YtpedbpbmnchllaaGreatDoor
open Go.Proofs Go.Shelf Go.Sort
def sortRen : Go.Shelf.Ren := ⟨fun | 5 => 148 | 8 => 154 | 7 => 153 | 19 => 164 | 20 => 165 | 10 => 155 | 11 => 156 | 12 => 157 | 13 => 158 | 14 => 159 | 15 => 160 | 16 => 161 | 17 => 162 | 18 => 163 | 30 => 166 | 31 => 167 | 32 => 168 | 33 => 169 | 34 => 170 | 35 => 171 | 40 => 172 | n => n, fun | 23 => 33 | 25 => 3 | 3 => 3 | 32 => 216 | 22 => 33 | 0 => 0 | 44 => 232 | 46 => 116 | 4 => 4 | 36 => 225 | 35 => 224 | 41 => 229 | 5 => 5 | 9 => 9 | 53 => 233 | 57 => 237 | 63 => 239 | 64 => 88 | n => n, fun | n => n⟩
theorem sortLay : SlLaysM.n5 Tryz.prog sortRen := {
  mixed := by kernel_rfl
  f5 := ⟨Tryz.f148.name, by decide, Tryz.func148.trans (congrArg some (by kernel_rfl))⟩
  f7 := ⟨Tryz.f153.name, by decide, Tryz.func153.trans (congrArg some (by kernel_rfl))⟩
  f8 := Tryz.func154.trans (congrArg some (by kernel_rfl))
  f10 := ⟨Tryz.f155.name, by decide, Tryz.func155.trans (congrArg some (by kernel_rfl))⟩
  f11 := ⟨Tryz.f156.name, by decide, Tryz.func156.trans (congrArg some (by kernel_rfl))⟩
  f12 := ⟨Tryz.f157.name, by decide, Tryz.func157.trans (congrArg some (by kernel_rfl))⟩
  f13 := ⟨Tryz.f158.name, by decide, Tryz.func158.trans (congrArg some (by kernel_rfl))⟩
  f14 := ⟨Tryz.f159.name, by decide, Tryz.func159.trans (congrArg some (by kernel_rfl))⟩
  f15 := ⟨Tryz.f160.name, by decide, Tryz.func160.trans (congrArg some (by kernel_rfl))⟩
  f16 := ⟨Tryz.f161.name, by decide, Tryz.func161.trans (congrArg some (by kernel_rfl))⟩
  f17 := ⟨Tryz.f162.name, by decide, Tryz.func162.trans (congrArg some (by kernel_rfl))⟩
  f18 := ⟨Tryz.f163.name, by decide, Tryz.func163.trans (congrArg some (by kernel_rfl))⟩
  f19 := Tryz.func164.trans (congrArg some (by kernel_rfl))
  f20 := Tryz.func165.trans (congrArg some (by kernel_rfl))
  f30 := ⟨Tryz.f166.name, by decide, Tryz.func166.trans (congrArg some (by kernel_rfl))⟩
  f31 := Tryz.func167.trans (congrArg some (by kernel_rfl))
  f32 := Tryz.func168.trans (congrArg some (by kernel_rfl))
  f33 := ⟨Tryz.f169.name, by decide, Tryz.func169.trans (congrArg some (by kernel_rfl))⟩
  f34 := ⟨Tryz.f170.name, by decide, Tryz.func170.trans (congrArg some (by kernel_rfl))⟩
  f35 := ⟨Tryz.f171.name, by decide, Tryz.func171.trans (congrArg some (by kernel_rfl))⟩
  f40 := ⟨Tryz.f172.name, by decide, Tryz.func172.trans (congrArg some (by kernel_rfl))⟩
  t0 := Tryz.underlying0
  a0 := Tryz.isAgg0
  z0 := Tryz.sizeOf0
  v0 := Tryz.zeroValue0
  t3 := Tryz.underlying3
  a3 := Tryz.isAgg3
  z3 := Tryz.sizeOf3
  v3 := Tryz.zeroValue3
  t4 := Tryz.underlying4
  a4 := Tryz.isAgg4
  z4 := Tryz.sizeOf4
  v4 := Tryz.zeroValue4
  t5 := Tryz.underlying5
  a5 := Tryz.isAgg5
  z5 := Tryz.sizeOf5
  v5 := Tryz.zeroValue5
  t9 := Tryz.underlying9
  a9 := Tryz.isAgg9
  z9 := Tryz.sizeOf9
  v9 := Tryz.zeroValue9
  t22 := Tryz.underlying33
  a22 := Tryz.isAgg33
  z22 := Tryz.sizeOf33
  v22 := Tryz.zeroValue33
  t23 := Tryz.underlying33
  a23 := Tryz.isAgg33
  z23 := Tryz.sizeOf33
  v23 := Tryz.zeroValue33
  t25 := Tryz.underlying3
  a25 := Tryz.isAgg3
  z25 := Tryz.sizeOf3
  v25 := Tryz.zeroValue3
  t32 := Tryz.underlying216
  a32 := Tryz.isAgg216
  z32 := Tryz.sizeOf216
  v32 := Tryz.zeroValue216
  t35 := Tryz.underlying224
  a35 := Tryz.isAgg224
  z35 := Tryz.sizeOf224
  v35 := Tryz.zeroValue224
  t36 := Tryz.underlying225
  a36 := Tryz.isAgg225
  z36 := Tryz.sizeOf225
  v36 := Tryz.zeroValue225
  t41 := Tryz.underlying229
  a41 := Tryz.isAgg229
  z41 := Tryz.sizeOf229
  v41 := Tryz.zeroValue229
  t44 := Tryz.underlying232
  a44 := Tryz.isAgg232
  z44 := Tryz.sizeOf232
  v44 := Tryz.zeroValue232
  t46 := Tryz.underlying116
  a46 := Tryz.isAgg116
  z46 := Tryz.sizeOf116
  v46 := Tryz.zeroValue116
  t53 := Tryz.underlying233
  a53 := Tryz.isAgg233
  z53 := Tryz.sizeOf233
  v53 := Tryz.zeroValue233
  t57 := Tryz.underlying237
  a57 := Tryz.isAgg237
  z57 := Tryz.sizeOf237
  v57 := Tryz.zeroValue237
  t63 := Tryz.underlying239
  a63 := Tryz.isAgg239
  z63 := Tryz.sizeOf239
  v63 := Tryz.zeroValue239
  t64 := Tryz.underlying88
  a64 := Tryz.isAgg88
  z64 := Tryz.sizeOf88
  v64 := Tryz.zeroValue88 }

theorem Inv.more {m : Gh} {w w' : World} {H : List (Option (List CV))} {V : List Nat} (hi : Inv m w H V) (h1 : w'.os = w.os) (h2 : w'.tape = w.tape) (h3 : w'.output = w.output) (h4 : w.heap.size ≤ w'.heap.size) (h5 : ∀ j, j < w.heap.size → w'.heap[j]? = w.heap[j]?) :
    Inv m w' H V ∧ Ext m w V m w' V := by
  have hlt : ∀ {k : Nat} {x : Obj}, w.heap[k]? = some x → w'.heap[k]? = some x := fun h => by
    rw [h5 _ (Array.getElem?_eq_some_iff.1 h).1]; exact h
  have hx : Ext m w V m w' V := by
    refine ⟨h1, h2, h3, h4, fun k c e fr h => ⟨c, hlt h, rfl⟩, fun _ => Nat.le_refl _, fun k o ho => ?_, fun k ds h => hlt h, fun k hk _ _ => h5 k hk, fun _ _ h => h, fun b _ h => .inl ⟨b, h⟩, fun _ _ h => .inl h, fun _ v h => ⟨v, h, Nat.le_refl _, fun _ => ⟨rfl, fun _ _ => rfl⟩⟩⟩
    rcases Nat.lt_or_ge k w.heap.size with h | h
    · exact World.cell?_of_block (w := w) (a := ⟨k, o, none⟩) (h5 k h)
    · rw [hi.lim_new h] at ho; omega
  refine ⟨⟨hi.glob.mono hx, hi.boxlen, hi.tiplen, fun k hk => ?_, fun t k h => ?_, fun b k h => Nat.lt_of_lt_of_le (hi.boxes b k h) h4, hi.uniq, fun b cs h => (hi.live b cs h).mono hx fun k hk => ⟨h5 k (hi.boxes b k hk), rfl⟩⟩, hx⟩
  · obtain ⟨c, e, fr, q1, q2⟩ := hi.limv k hk
    exact ⟨c, e, fr, hlt q1, q2⟩
  · obtain ⟨⟨c, e, q1⟩, q2, q3⟩ := hi.tips t k h
    exact ⟨⟨c, e, hlt q1⟩, q2, q3⟩
theorem relL_cis (m : Gh) (w : World) (V : List Nat) : ∀ ys : List Int, RelL m w V (ys.map ci) (ys.map (Value.int .i64))
  | [] => by rw [List.map_nil, RelL]; rfl
  | y :: ys => by rw [List.map_cons, RelL]; exact ⟨_, _, rfl, by rw [RelV], relL_cis m w V ys⟩
theorem step_sorted {m : Gh} {w : World} {H : List (Option (List CV))} {V : List Nat} {b k : Nat} {xs ys : List Int} {c : Array Value} {e : TypeId} (hi : Inv m w H V) (hb : H[b]? = some (some (xs.map ci))) (hk : m.box[b]? = some k)
    (hc : w.heap[k]? = some (.cells c e (0, 0))) (hl : ys.length = xs.length) (n : Nat) (os : Array Obj) :
    let w' := grow (putRow (Value.int .i64) (Sort.ahead w n) k 0 ys.toArray) os
    Inv m w' (H.set b (some (ys.map ci))) V ∧ Ext m w V m w' V := by
  intro w'
  have hkl := (Array.getElem?_eq_some_iff.1 hc).1
  have hcl : xs.length ≤ c.size := by
    obtain ⟨c', e', g1, g2, _⟩ := hi.alive hb hk ⟨c, e, _, hc⟩
    rw [hc] at g1; cases g1
    simpa using g2
  obtain ⟨s1, s2⟩ := step_store (o := 0) (us := ys.map (Value.int .i64)) (ds := ys.map ci) hi hb hk hc (relL_cis _ _ _ _) (fun u hu => by obtain ⟨z, _, rfl⟩ := List.mem_map.1 hu; rfl) (by simp; omega)
  have hnew := setRow_heap w k c ((c.toList.take 0 ++ ys.map (Value.int .i64) ++ c.toList.drop (0 + (ys.map (Value.int .i64)).length)).toArray) e (0, 0) hc
  have hoth := fun j hj => setRow_other w k j ((c.toList.take 0 ++ ys.map (Value.int .i64) ++ c.toList.drop (0 + (ys.map (Value.int .i64)).length)).toArray) hj
  have he : H.set b (some ((xs.map ci).take 0 ++ ys.map ci ++ (xs.map ci).drop (0 + (ys.map ci).length))) = H.set b (some (ys.map ci)) := by
    congr 2
    rw [List.drop_of_length_le (by simp; omega)]; simp
  rw [he] at s1
  obtain ⟨t1, t2⟩ := s1.more (w' := w') rfl rfl rfl (by simp [w', grow, World.setRow, putRow, mapBlock, Sort.ahead]) (fun j hj => by
    have hj' : j < w.heap.size := by simpa [World.setRow] using hj
    have hg : w'.heap[j]? = (putRow (Value.int .i64) (Sort.ahead w n) k 0 ys.toArray).heap[j]? := by
      show (_ ++ os)[j]? = _
      rw [Array.getElem?_append_left (by simpa [Sort.ahead] using hj')]
    rw [hg]
    show ((w.heap.modify k _)[j]?) = _
    rw [Array.getElem?_modify]
    by_cases hjk : k = j
    · subst hjk
      rw [if_pos rfl, hc, hnew]
      simp only [Option.map_some, onCells]
      congr 2
      apply Array.ext
      · simp [putCells]; omega
      · intro i h1 h2
        simp only [putCells, Array.getElem_mapIdx, Nat.zero_le, true_and, Nat.zero_add, List.size_toArray, List.getElem_toArray, List.take_zero, List.nil_append, List.length_map, Nat.sub_zero]
        by_cases hi2 : i < ys.length
        · rw [if_pos hi2, List.getElem_append_left (by simpa using hi2), List.getElem_map, getElem!_pos _ i (by simpa using hi2)]
          simp
        · rw [if_neg hi2, List.getElem_append_right (by simp; omega), List.getElem_drop]
          simp only [List.length_map, Array.getElem_toList]
          congr 1; omega
    · rw [if_neg hjk, hoth j (Ne.symm hjk)])
  exact ⟨t1, s2.trans t2⟩
end Go.Proofs.YtpedbpbmnchllaaGreatDoor
namespace Go.Proofs.YtpedbpbmnchllaaGreatDoor
open Go.Proofs
def zI (z : List Nat) : List Int := z.map fun (n : Nat) => (n : Int)
theorem zI_len (z : List Nat) : (zI z).length = z.length := List.length_map ..
theorem zI_get (z : List Nat) (i : Nat) (h : i < (zI z).length) : (zI z)[i] = ((z[i]'(by rwa [zI_len] at h) : Nat) : Int) := by simp [zI]
structure SzOkN (z : List Nat) : Prop where
  few : z.length ≤ 8
  lo : 1 ≤ z.length
  ok : ∀ n ∈ z, 1 ≤ n ∧ n ≤ 63
theorem SzOkN.sizes {z : List Nat} (h : SzOkN z) : sizesE (zI z) = 0 := by
  have h1 := h.few
  have h2 := h.lo
  have h3 : (zI z).any badSz = false := by
    rw [List.any_eq_false]
    intro x hx
    obtain ⟨n, hn, rfl⟩ := List.mem_map.1 hx
    have := h.ok n hn
    simp [badSz]; omega
  rw [sizesE, zI_len]
  rw [if_neg (by omega), h3]; rfl
structure DirtyOk (z : List Nat) (d : List Bm) : Prop where
  len : d.length = z.length
  ok : ∀ v (h : v < d.length) (h2 : v < z.length), BmOk d[v] ∧ d[v].n = z[v]
def cleanB (z : List Nat) : List Bm := z.map fun n => ⟨n, 0⟩
theorem cleanB_ok {z : List Nat} (h : SzOkN z) : DirtyOk z (cleanB z) := ⟨by simp [cleanB], fun v h1 h2 => by
  have := h.ok z[v] (List.getElem_mem h2)
  simp only [cleanB, List.getElem_map]
  exact ⟨⟨this.1, this.2, Nat.two_pow_pos _⟩, trivial⟩⟩
theorem between_cc (H : Hp) (V : List Nat) (n low high : Int) (h1 : low ≤ n) (h2 : n ≤ high) : CC Tryz.prog 85 [ci n, ci low, ci high] H V (Pu (cb true) H V) := by
  refine CC.of_swp Tryz.func85 rfl (by kernel_rfl) (by rw [Tryz.ntmps85]; exact len_le _ _ rfl) fun hok hokH => ?_
  clear hok
  refine SWp.seq (Wp.s ?_)
  simp -implicitDefEqProofs [go_sem, args0]
  refine SWp.seq (Wp.s ?_)
  simp -implicitDefEqProofs [go_sem, h1, h2]
  refine Wp.s ?_
  simp -implicitDefEqProofs [go_sem]
  exact Fin.bool rfl hokH (by simp) (by simp)
theorem tsite_cc (H : Hp) (V : List Nat) (n : Int) (h1 : 0 ≤ n) (h2 : n ≤ 3) : CC Tryz.prog 84 [ci n] H V (Pu (cb true) H V) := by
  refine CC.of_swp Tryz.func84 rfl (by kernel_rfl) (by rw [Tryz.ntmps84]; exact len_le _ _ rfl) fun hok hokH => ?_
  clear hok
  refine SWp.seq (Wp.s ?_)
  simp -implicitDefEqProofs [go_sem, args0]
  refine SWp.seq (Wp.s ?_)
  simp -implicitDefEqProofs [go_sem]
  refine CC.mono (between_cc _ _ n 0 3 h1 h2) ?_
  rintro _ _ _ ⟨rfl, rfl, rfl⟩
  simp -implicitDefEqProofs [go_sem]
  refine Wp.s ?_
  simp -implicitDefEqProofs [go_sem]
  exact Fin.bool rfl hokH (by simp) (by simp)
theorem clean_cc (H : Hp) (V : List Nat) (z : List Nat) (hz : SzOkN z) : CC Tryz.prog 106 [.sl .sh 1 ((zI z).map ic)] H V (Pu (.tup [.sl .sh 2 ((cleanB z).map bmC), er 0]) H V) := by
  refine CC.of_swp Tryz.func106 rfl (by kernel_rfl) (by rw [Tryz.ntmps106]; exact len_le _ _ rfl) fun hok hokH => ?_
  clear hok
  have h8 := hz.few
  have hzl := zI_len z
  refine SWp.seq (Wp.s ?_)
  simp -implicitDefEqProofs [go_sem, args0]
  refine SWp.seq (Wp.s ?_)
  simp -implicitDefEqProofs [go_sem]
  refine SWp.join (α := Nat) (fun v => ([(4, .sl (.own V.length v) 2 ((cleanB z).map bmC))], H, V ++ [v])) (fun _ => True) ?_ ?_
  · refine SWp.seq (Wp.s ?_)
    simp -implicitDefEqProofs [go_sem, hzl]
    refine SWp.block ?_
    refine SWp.loop (α := Nat × Nat) (fun x => ([(4, .sl (.own V.length x.2) 2 ((cleanB (z.take x.1)).map bmC)), (9, .sl .sh 1 ((zI z).map ic)), (10, ci z.length), (11, ci x.1)], H, V ++ [x.2])) (fun x => x.1 ≤ z.length) (fun x => z.length - x.1) (0, 0) (Nat.zero_le _) (Sh.tokT (by simp [go_sem, cleanB]) rfl rfl) ?_
    rintro ⟨i, v⟩ hi
    dsimp only at hi ⊢
    refine SWp.seq (Wp.s ?_)
    simp -implicitDefEqProofs [go_sem]
    refine SWp.seq (Wp.s ?_)
    simp -implicitDefEqProofs [go_sem]
    refine ⟨fun h => ?_, fun h => ?_⟩
    case refine_2 =>
      obtain rfl : i = z.length := by omega
      rw [List.take_of_length_le (Nat.le_refl _)]
      exact ⟨v, Sh.forget (by simp [go_sem]) rfl rfl⟩
    have hiz : i < (zI z).length := by omega
    obtain ⟨n1, n2⟩ := hz.ok z[i] (List.getElem_mem h)
    refine SWp.seq (SWp.block (SWp.seq (Wp.s ?_)))
    simp -implicitDefEqProofs [go_sem, hiz, zI_get]
    refine SWp.seq (Wp.s ?_)
    simp -implicitDefEqProofs [go_sem]
    refine CC.mono (bmNew_cc _ _ z[i] n1 n2) ?_
    rintro _ _ _ ⟨rfl, rfl, rfl⟩
    simp -implicitDefEqProofs [go_sem]
    refine SWp.seq (SWp.seq (Wp.s ?_))
    simp -implicitDefEqProofs [go_sem]
    refine Wp.s ?_
    simp -implicitDefEqProofs [go_sem]
    refine Wp.s ?_
    simp -implicitDefEqProofs [go_sem]
    have hcl : (cleanB (z.take i)).length = i := by simp [cleanB]; omega
    refine ⟨by omega, ?_⟩
    refine Wp.s ?_
    simp -implicitDefEqProofs [go_sem]
    refine ⟨i + 1, by omega, by omega, v + 1, ?_⟩
    refine Sh.trim0 ?_ ?_ hokH (by simp) (by simp) (by simp)
    · rw [List.take_succ_eq_append_getElem h, show cleanB (z.take i ++ [z[i]]) = cleanB (z.take i) ++ [⟨z[i], 0⟩] by simp only [cleanB, List.map_append, List.map_cons, List.map_nil]]
      simp [go_sem, wrap_succ (show i ≤ 1000000000 by omega)]
    · simp [go_sem, okE_bms, okE_ints]
  rintro v -
  dsimp only
  refine SWp.seq (Wp.s ?_)
  simp -implicitDefEqProofs [go_sem]
  refine Wp.s ?_
  simp -implicitDefEqProofs [go_sem]
  exact Fin.pu (.tup (.cons (.sh _ _ _) (.cons (.refl _) .nil))) (by simp [go_sem, okE_bms]) hokH (by simp) (by simp)
theorem chkB1_cc (H : Hp) (V : List Nat) (b : Bm) (n : Nat) (hb : BmOk b) (hn : b.n = n) : CC Tryz.prog 124 [.agg (bmC b), ci n] H V (Pu (.tup [cb true, er 0]) H V) := by
  refine CC.of_swp Tryz.func124 rfl (by kernel_rfl) (by rw [Tryz.ntmps124]; exact len_le _ _ rfl) fun hok hokH => ?_
  clear hok
  refine SWp.seq (Wp.s ?_)
  simp -implicitDefEqProofs [go_sem, args0]
  refine SWp.seq (SWp.seq (Wp.s ?_))
  simp -implicitDefEqProofs [go_sem]
  refine CC.mono (bmCheck_cc _ _ b hb) ?_
  rintro _ _ _ ⟨rfl, rfl, rfl⟩
  simp -implicitDefEqProofs [go_sem]
  refine SWp.seq (Wp.s ?_)
  simp -implicitDefEqProofs [go_sem]
  refine Wp.s ?_
  simp -implicitDefEqProofs [go_sem]
  refine SWp.seq (SWp.seq (Wp.s ?_))
  simp -implicitDefEqProofs [go_sem, hn]
  refine Wp.s ?_
  simp -implicitDefEqProofs [go_sem]
  refine SWp.seq (Wp.s ?_)
  simp -implicitDefEqProofs [go_sem]
  refine Wp.s ?_
  simp -implicitDefEqProofs [go_sem]
  exact Fin.pu (.refl _) (by simp [go_sem]) hokH (by simp) (by simp)
theorem each_cc (H : Hp) (V : List Nat) (z : List Nat) (d : List Bm) (hd : DirtyOk z d) (hz : z.length ≤ 8) : CC Tryz.prog 123 [.sl .sh 2 (d.map bmC), .sl .sh 1 ((zI z).map ic), .fn 124 []] H V (Pu (.tup [.any, er 0]) H V) := by
  refine CC.of_swp Tryz.func123 rfl (by kernel_rfl) (by rw [Tryz.ntmps123]; exact len_le _ _ rfl) fun hok hokH => ?_
  clear hok
  have hzl := zI_len z
  have hl := hd.len
  refine SWp.seq (Wp.s ?_)
  simp -implicitDefEqProofs [go_sem, args0]
  refine SWp.seq (Wp.s ?_)
  simp -implicitDefEqProofs [go_sem]
  refine SWp.join (α := Nat) (fun v => ([(8, .any)], H, V ++ [v])) (fun _ => True) ?_ ?_
  · refine SWp.seq (Wp.s ?_)
    simp -implicitDefEqProofs [go_sem, hl]
    refine SWp.block ?_
    refine SWp.loop (α := Nat × Nat) (fun x => ([(0, .sl .sh 2 (d.map bmC)), (1, .sl .sh 1 ((zI z).map ic)), (2, .fn 124 []), (8, .sl (.own V.length x.2) 1 (List.replicate x.1 [cb true])), (13, ci z.length), (14, ci x.1)], H, V ++ [x.2])) (fun x => x.1 ≤ z.length) (fun x => z.length - x.1) (0, 0) (Nat.zero_le _) (Sh.tokT (by simp [go_sem]) rfl rfl) ?_
    rintro ⟨i, v⟩ hi
    dsimp only at hi ⊢
    refine SWp.seq (Wp.s ?_)
    simp -implicitDefEqProofs [go_sem]
    refine SWp.seq (Wp.s ?_)
    simp -implicitDefEqProofs [go_sem]
    refine ⟨fun h => ?_, fun h => ?_⟩
    case refine_2 => exact ⟨v, Sh.forget (by simp [go_sem]) rfl rfl⟩
    have hiz : i < (zI z).length := by omega
    have hid : i < d.length := by omega
    obtain ⟨n1, n2⟩ := hd.ok i hid h
    refine SWp.seq (SWp.block (SWp.seq (Wp.s ?_)))
    simp -implicitDefEqProofs [go_sem]
    refine SWp.seq (SWp.drawnT [] [] (.s 0 .pl <| .s 1 .pl <| .s 2 .pl <| .s 3 .pl <| .s 4 .pl <| .s 5 .pl <| .s 6 .pl <| .s 7 .pl <| .s 8 .pl <| .s 9 .pl <| .s 10 .pl <| .s 11 .pl <| .s 12 .pl <| .s 13 .pl <| .s 14 .pl <| .n) (by kernel_rfl) (by kernel_rfl) ?_)
    simp -implicitDefEqProofs [go_sem, hid, hiz, zI_get]
    refine CC.mono (chkB1_cc _ _ d[i] z[i] n1 n2) ?_
    rintro _ _ _ ⟨rfl, rfl, rfl⟩
    simp -implicitDefEqProofs [go_sem]
    refine SWp.seq (SWp.seq (Wp.s ?_))
    simp -implicitDefEqProofs [go_sem]
    refine Wp.s ?_
    simp -implicitDefEqProofs [go_sem]
    refine Wp.s ?_
    simp -implicitDefEqProofs [go_sem]
    refine ⟨by omega, ?_⟩
    refine Wp.s ?_
    simp -implicitDefEqProofs [go_sem]
    refine ⟨i + 1, by omega, by omega, v + 1, Sh.forget ?_ rfl (by simp)⟩
    simp [go_sem, wrap_succ (show i ≤ 1000000000 by omega), List.replicate_succ']
  rintro v -
  dsimp only
  refine SWp.seq (Wp.s ?_)
  simp -implicitDefEqProofs [go_sem]
  refine Wp.s ?_
  simp -implicitDefEqProofs [go_sem]
  exact Fin.pu (.refl _) (by simp [go_sem, okV, okL]) hokH (by simp) (by simp)
theorem chkBs_cc (H : Hp) (V : List Nat) (z : List Nat) (d : List Bm) (hd : DirtyOk z d) (hz : z.length ≤ 8) : CC Tryz.prog 86 [.sl .sh 2 (d.map bmC), .sl .sh 1 ((zI z).map ic)] H V (Pu (er 0) H V) := by
  refine CC.of_swp Tryz.func86 rfl (by kernel_rfl) (by rw [Tryz.ntmps86]; exact len_le _ _ rfl) fun hok hokH => ?_
  clear hok
  have hzl := zI_len z
  have hl := hd.len
  refine SWp.seq (Wp.s ?_)
  simp -implicitDefEqProofs [go_sem, args0]
  refine SWp.seq (SWp.seq (Wp.s ?_))
  simp -implicitDefEqProofs [go_sem, hl, hzl]
  refine Wp.s ?_
  simp -implicitDefEqProofs [go_sem]
  refine SWp.seq (Wp.s ?_)
  simp -implicitDefEqProofs [go_sem]
  refine CC.mono (each_cc _ _ z d hd hz) ?_
  rintro _ _ _ ⟨rfl, rfl, rfl⟩
  simp -implicitDefEqProofs [go_sem]
  refine Wp.s ?_
  simp -implicitDefEqProofs [go_sem]
  exact Fin.er rfl hokH (by simp) (by simp)
end Go.Proofs.YtpedbpbmnchllaaGreatDoor
namespace Go.Proofs.YtpedbpbmnchllaaGreatDoor
open Go.Proofs
structure Pee where
  site : Nat
  common : Int
  dirty : List Bm
def prC (p : Pee) : List CV := [ci p.site, ci p.common, .sl .sh 2 (p.dirty.map bmC)]
@[go_sem, simp] theorem prC_len (p : Pee) : (prC p).length = 3 := rfl
@[go_sem, simp] theorem prC_all (p : Pee) : allOne (prC p) = true := rfl
@[go_sem, simp] theorem prC_take (p : Pee) : (prC p).take 3 = prC p := rfl
@[go_sem, simp] theorem prC_drop (p : Pee) : (prC p).drop 3 = [] := rfl
@[go_sem, simp] theorem prC_0 (p : Pee) (h : 0 < (prC p).length) : (prC p)[0] = ci p.site := rfl
@[go_sem, simp] theorem prC_1 (p : Pee) (h : 1 < (prC p).length) : (prC p)[1] = ci p.common := rfl
@[go_sem, simp] theorem prC_2 (p : Pee) (h : 2 < (prC p).length) : (prC p)[2] = .sl .sh 2 (p.dirty.map bmC) := rfl
@[go_sem] theorem okL_prC (jb jv : Nat) (p : Pee) : okL jb jv (prC p) = True := by simp [prC, okL, go_sem, okE_bms]
theorem okE_prs (jb jv : Nat) : ∀ (l : List Pee), okE jb jv (l.map prC)
  | [] => trivial
  | e :: l => by rw [List.map_cons, okE]; exact ⟨by rw [okL_prC]; trivial, okE_prs jb jv l⟩
structure Trk where
  z : List Nat
  peers : List Pee
def trkC (t : Trk) : List CV := [.sl .sh 1 ((zI t.z).map ic), .sl .sh 3 (t.peers.map prC)]
@[go_sem, simp] theorem trkC_len (t : Trk) : (trkC t).length = 2 := rfl
@[go_sem, simp] theorem trkC_all (t : Trk) : allOne (trkC t) = true := rfl
@[go_sem, simp] theorem trkC_take (t : Trk) : (trkC t).take 2 = trkC t := rfl
@[go_sem, simp] theorem trkC_drop (t : Trk) : (trkC t).drop 2 = [] := rfl
@[go_sem, simp] theorem trkC_0 (t : Trk) (h : 0 < (trkC t).length) : (trkC t)[0] = .sl .sh 1 ((zI t.z).map ic) := rfl
@[go_sem, simp] theorem trkC_1 (t : Trk) (h : 1 < (trkC t).length) : (trkC t)[1] = .sl .sh 3 (t.peers.map prC) := rfl
@[go_sem] theorem okL_trkC (jb jv : Nat) (t : Trk) : okL jb jv (trkC t) = True := by simp [trkC, okL, go_sem, okE_prs, okE_ints]
structure PeeOk (z : List Nat) (p : Pee) : Prop where
  site : p.site ≤ 3
  c0 : 0 ≤ p.common
  c1 : p.common ≤ 1073741824
  dirty : DirtyOk z p.dirty
structure TrkOk (t : Trk) : Prop where
  z : SzOkN t.z
  few : t.peers.length ≤ 4
  ok : ∀ p ∈ t.peers, PeeOk t.z p
  inc : ∀ i (h : i + 1 < t.peers.length), t.peers[i].site < t.peers[i + 1].site
def siteAt (l : List Pee) (i : Nat) : Int := if h : 0 < i ∧ i ≤ l.length then ((l[i - 1]'(by omega)).site : Int) else -1
theorem siteAt_succ (l : List Pee) (i : Nat) (h : i < l.length) : siteAt l (i + 1) = ((l[i].site : Nat) : Int) := by
  rw [siteAt, dif_pos ⟨by omega, by omega⟩]; rfl
theorem siteAt_lt {t : Trk} (ht : TrkOk t) (i : Nat) (h : i < t.peers.length) : siteAt t.peers i < ((t.peers[i].site : Nat) : Int) := by
  cases i with
  | zero => rw [siteAt, dif_neg (by omega)]; omega
  | succ i => rw [siteAt_succ _ _ (by omega)]; have := ht.inc i h; omega
set_option maxRecDepth 8000 in
theorem tkCheck_cc (H : Hp) (V : List Nat) (t : Trk) (ht : TrkOk t) : CC Tryz.prog 41 [.agg (trkC t)] H V (Pu (er 0) H V) := by
  refine CC.of_swp Tryz.func41 rfl (by kernel_rfl) (by rw [Tryz.ntmps41]; exact len_le _ _ rfl) fun hok hokH => ?_
  clear hok
  have hz := ht.z.sizes
  have hf := ht.few
  have h8 := ht.z.few
  have hzl := zI_len t.z
  refine SWp.seq (Wp.s ?_)
  simp -implicitDefEqProofs [go_sem, args0]
  refine SWp.seq (SWp.seq (Wp.s ?_))
  simp -implicitDefEqProofs [go_sem]
  refine CC.mono (New_cc _ _ .sh (zI t.z) (by omega)) ?_
  rintro _ _ _ ⟨rfl, rfl, rfl⟩
  rw [hz]
  simp -implicitDefEqProofs [go_sem]
  refine SWp.seq (Wp.s ?_)
  simp -implicitDefEqProofs [go_sem]
  refine Wp.s ?_
  simp -implicitDefEqProofs [go_sem]
  refine SWp.seq (SWp.seq (Wp.s ?_))
  simp -implicitDefEqProofs [go_sem, show ¬ (4 : Int) < t.peers.length by omega, show ¬ 4 < t.peers.length by omega]
  refine Wp.s ?_
  simp -implicitDefEqProofs [go_sem]
  refine SWp.seq (Wp.s ?_)
  simp -implicitDefEqProofs [go_sem]
  refine SWp.join (α := Unit) (fun _ => ([], H, V)) (fun _ => True) ?_ ?_
  · refine SWp.seq (Wp.s ?_)
    simp -implicitDefEqProofs [go_sem]
    refine SWp.block ?_
    refine SWp.loop (α := Nat) (fun i => ([(1, .ptr H.length 0), (5, ci (siteAt t.peers i)), (23, .sl .sh 3 (t.peers.map prC)), (24, ci t.peers.length), (25, ci i)], H ++ [some (trkC t)], V)) (fun i => i ≤ t.peers.length) (fun i => t.peers.length - i) 0 (Nat.zero_le _) (Sh.forget (by simp [go_sem, siteAt]) rfl rfl) ?_
    intro i hi
    dsimp only
    refine SWp.seq (Wp.s ?_)
    simp -implicitDefEqProofs [go_sem]
    refine SWp.seq (Wp.s ?_)
    simp -implicitDefEqProofs [go_sem]
    refine ⟨fun h => ?_, fun h => Sh.trim0 (by simp [go_sem]) (by simp [go_sem]) hokH (Nat.le_refl _) (by simp) (by simp)⟩
    have hsl := siteAt_lt ht i h
    have hss := siteAt_succ t.peers i h
    obtain ⟨p1, p2, p3, p4⟩ := ht.ok t.peers[i] (List.getElem_mem h)
    refine SWp.seq (SWp.block (SWp.seq (Wp.s ?_)))
    simp -implicitDefEqProofs [go_sem, h]
    refine SWp.seq (SWp.block (SWp.seq (Wp.s ?_)))
    simp -implicitDefEqProofs [go_sem]
    refine CC.mono (tsite_cc _ _ t.peers[i].site (by omega) (by omega)) ?_
    rintro _ _ _ ⟨rfl, rfl, rfl⟩
    simp -implicitDefEqProofs [go_sem]
    have hle : ¬ ((t.peers[i].site : Nat) : Int) ≤ siteAt t.peers i := by omega
    refine Wp.s ?_
    simp -implicitDefEqProofs [go_sem, hle]
    refine CC.mono (between_cc _ _ t.peers[i].common 0 1073741824 p2 p3) ?_
    rintro _ _ _ ⟨rfl, rfl, rfl⟩
    simp -implicitDefEqProofs [go_sem]
    refine SWp.seq (SWp.seq (Wp.s ?_))
    simp -implicitDefEqProofs [go_sem]
    refine CC.mono (chkBs_cc _ _ t.z t.peers[i].dirty p4 (by omega)) ?_
    rintro _ _ _ ⟨rfl, rfl, rfl⟩
    simp -implicitDefEqProofs [go_sem]
    refine SWp.seq (Wp.s ?_)
    simp -implicitDefEqProofs [go_sem]
    refine Wp.s ?_
    simp -implicitDefEqProofs [go_sem]
    refine Wp.s ?_
    simp -implicitDefEqProofs [go_sem]
    refine Wp.s ?_
    simp -implicitDefEqProofs [go_sem]
    refine ⟨i + 1, by omega, by omega, ?_⟩
    rw [hss]
    refine Sh.trim (L := [some (trkC t)]) ?_ (by simp [go_sem, okE_prs]) hokH (by rw [okH_some, okL_trkC]; exact ⟨trivial, trivial⟩) (Nat.le_refl _) (by simp) (by simp)
    simp [go_sem, wrap_succ (show i ≤ 1000000000 by omega)]
  rintro _ -
  dsimp only
  refine SWp.seq (Wp.s ?_)
  simp -implicitDefEqProofs [go_sem]
  refine Wp.s ?_
  simp -implicitDefEqProofs [go_sem]
  exact Fin.er rfl hokH (by simp) (by simp)
theorem tkOwn_cc (H : Hp) (V : List Nat) (b : Bm) : CC Tryz.prog 142 [.agg (bmC b)] H V (Pu (.agg (bmC b)) H V) := by
  refine CC.of_swp Tryz.func142 rfl (by kernel_rfl) (by rw [Tryz.ntmps142]; exact len_le _ _ rfl) fun hok hokH => ?_
  clear hok
  refine SWp.seq (Wp.s ?_)
  simp -implicitDefEqProofs [go_sem, args0]
  refine SWp.seq (SWp.drawnT [] [6] (.s 0 .pl <| .s 1 .pl <| .s 2 .pl <| .s 3 .pl <| .s 4 .pl <| .s 5 .pl <| .s 6 .st <| .n) (by kernel_rfl) (by kernel_rfl) ?_)
  simp -implicitDefEqProofs [go_sem]
  refine CC.mono (cloneW_cc _ _ b.w) ?_
  rintro _ _ _ ⟨rfl, rfl, rfl⟩
  simp -implicitDefEqProofs [go_sem]
  refine Wp.s ?_
  simp -implicitDefEqProofs [go_sem]
  refine Fin.frozY (b := H.length + 2) (cs := [wv b.w]) (r1 := .agg [ci b.n, .bsl (H.length + 2) 0 1 1]) (r2 := .agg (bmC b)) ⟨rfl, rfl, rfl⟩ (.refl _) (hget _ _ 2) (.agg (.cons (.refl _) (.cons (.bsl 0 1 1 (by simp)) .nil))) (by omega) (by simp [go_sem]) hokH (by simp) (by simp)
def bmF (l : List Bm) : List CV := (l.map bmC).flatten
theorem bmF_len : ∀ (l : List Bm), (bmF l).length = l.length * 2
  | [] => rfl
  | b :: l => by rw [bmF, List.map_cons, List.flatten_cons, ← bmF, List.length_append, bmF_len l, bmC_len, List.length_cons]; omega
theorem bmF_snoc (l : List Bm) (b : Bm) : bmF (l ++ [b]) = bmF l ++ bmC b := by simp [bmF]
theorem chunks_bmF : ∀ (l : List Bm), chunks 2 l.length (bmF l) = l.map bmC
  | [] => rfl
  | o :: B => by
    rw [List.length_cons, chunks, bmF, List.map_cons, List.flatten_cons, ← bmF]
    rw [show (bmC o ++ bmF B).take 2 = bmC o from rfl, show (bmC o ++ bmF B).drop 2 = bmF B from rfl, chunks_bmF B]
theorem okL_bmF (jb jv : Nat) : ∀ (l : List Bm), okL jb jv (bmF l) = True
  | [] => by simp [bmF, okL]
  | b :: l => by
    have := okL_bmF jb jv l
    have h2 := okL_bmC jb jv b
    rw [bmF, List.map_cons, List.flatten_cons, ← bmF]
    exact eq_true (okL_app (of_eq_true h2) (of_eq_true this))
def OwA (h : Nat) (l : List Bm) (cv : CV) (W : Hp) : Prop :=
  (cv = .v (.slice none 0 0) ∧ l = []) ∨ ∃ j, l ≠ [] ∧ cv = .bsa (h + j) l.length 2 ∧ W[j]? = some (some (bmF l))
def OwR (l : List Bm) (H : Hp) (V : List Nat) : CV → Hp → List Nat → Prop := fun r H' V' => ∃ W, H' = H ++ W ∧ V' = V ∧ OwA H.length l r W
theorem tkOwnAll_cc (H : Hp) (V : List Nat) (l : List Bm) (hl : l.length ≤ 1000) : CC Tryz.prog 128 [.sl .sh 2 (l.map bmC)] H V (OwR l H V) := by
  refine CC.of_swp Tryz.func128 rfl (by kernel_rfl) (by rw [Tryz.ntmps128]; exact len_le _ _ rfl) fun hok hokH => ?_
  clear hok
  refine SWp.seq (Wp.s ?_)
  simp -implicitDefEqProofs [go_sem, args0]
  refine SWp.seq (Wp.s ?_)
  simp -implicitDefEqProofs [go_sem]
  refine SWp.join (α := CV × Hp) (fun x => ([(3, x.1)], H ++ x.2, V)) (fun x => OwA H.length l x.1 x.2) ?_ ?_
  · refine SWp.seq (Wp.s ?_)
    simp -implicitDefEqProofs [go_sem]
    refine SWp.block ?_
    refine SWp.loop (α := Nat × CV × Hp) (fun x => ([(3, x.2.1), (6, .sl .sh 2 (l.map bmC)), (7, ci l.length), (8, ci x.1)], H ++ x.2.2, V)) (fun x => x.1 ≤ l.length ∧ OwA H.length (l.take x.1) x.2.1 x.2.2) (fun x => l.length - x.1) (0, .v (.slice none 0 0), []) ⟨Nat.zero_le _, .inl ⟨rfl, rfl⟩⟩ (Sh.forget (by simp [go_sem]) (by simp) rfl) ?_
    rintro ⟨i, cv, W⟩ ⟨hi, hc⟩
    dsimp only at hi hc ⊢
    refine SWp.seq (Wp.s ?_)
    simp -implicitDefEqProofs [go_sem]
    refine SWp.seq (Wp.s ?_)
    simp -implicitDefEqProofs [go_sem]
    refine ⟨fun h => ?_, fun h => ?_⟩
    case refine_2 =>
      rw [List.take_of_length_le (by omega)] at hc
      exact ⟨cv, W, hc, Sh.forget (by simp [go_sem]) rfl rfl⟩
    have htk := List.take_succ_eq_append_getElem h
    refine SWp.seq (SWp.block (SWp.seq (Wp.s ?_)))
    simp -implicitDefEqProofs [go_sem, h]
    rcases hc with ⟨rfl, hln⟩ | ⟨j, hne, rfl, hj⟩
    · refine SWp.opx (pre := [_, _, _, _]) (post := [_]) rfl (by intro c e; cases e) ?_
      simp -implicitDefEqProofs [go_sem]
      refine CC.mono (tkOwn_cc _ _ l[i]) ?_
      rintro _ _ _ ⟨rfl, rfl, rfl⟩
      simp -implicitDefEqProofs [go_sem]
      refine ⟨_, _, _, appboxN (sz := 2) (tk := .ti) (ys := [bmC l[i]]) slTy30 slTy30 (by decide) rfl rfl (by simp) (by simp), ?_⟩
      simp -implicitDefEqProofs [go_sem]
      refine Wp.s ?_
      simp -implicitDefEqProofs [go_sem]
      refine ⟨i + 1, _, W ++ [some (bmC l[i]), some (bmC l[i])], ⟨by omega, .inr ⟨W.length + 1, ?_, rfl, ?_⟩⟩, by omega, Sh.forget ?_ rfl rfl⟩
      · rw [htk]; exact List.append_ne_nil_of_right_ne_nil _ (by simp)
      · rw [htk, hln, List.nil_append, List.getElem?_append_right (by omega), Nat.add_sub_cancel_left]; simp [bmF]
      · have hone : (l.take (i + 1)).length = 1 := by rw [htk, hln]; rfl
        simp only [hone]
        simp [go_sem, wrap_succ (show i ≤ 1000000000 by omega)]
    · have hjl := (List.getElem?_eq_some_iff.1 hj).1
      have hj2 : (W ++ [some (bmC l[i])])[j]? = some (some (bmF (l.take i))) := by rw [List.getElem?_append_left hjl]; exact hj
      have hj3 : (H ++ (W ++ [some (bmC l[i])]))[H.length + j]? = some (some (bmF (l.take i))) := by rw [hget]; exact hj2
      have hbl := bmF_len (l.take i)
      rw [List.length_take] at hbl
      refine Wp.s ?_
      simp -implicitDefEqProofs [go_sem]
      refine CC.mono (tkOwn_cc _ _ l[i]) ?_
      rintro _ _ _ ⟨rfl, rfl, rfl⟩
      simp -implicitDefEqProofs [go_sem, hbx_of hj2, hbx_of hj3, hbl]
      refine ⟨by omega, ?_⟩
      refine Wp.s ?_
      simp -implicitDefEqProofs [go_sem]
      refine ⟨i + 1, _, (W ++ [some (bmC l[i])]).set j none ++ [some (bmF (l.take (i + 1)))], ⟨by omega, .inr ⟨W.length + 1, ?_, rfl, ?_⟩⟩, by omega, Sh.forget ?_ ?_ rfl⟩
      · rw [htk]; exact List.append_ne_nil_of_right_ne_nil _ (by simp)
      · rw [List.getElem?_append_right (by simp)]; simp
      · simp only [htk, List.length_append, List.length_singleton, List.length_take]
        simp [go_sem, wrap_succ (show i ≤ 1000000000 by omega)]
      · rw [htk, bmF_snoc]
  rintro ⟨cv, W⟩ hc
  dsimp only at hc ⊢
  refine SWp.seq (Wp.s ?_)
  simp -implicitDefEqProofs [go_sem]
  refine Wp.s ?_
  simp -implicitDefEqProofs [go_sem]
  exact Fin.self ⟨W, rfl, rfl, hc⟩
end Go.Proofs.YtpedbpbmnchllaaGreatDoor
namespace Go.Proofs.YtpedbpbmnchllaaGreatDoor
open Go.Proofs
theorem mpTyPeers : mpTy Tryz.prog 162 = some (.agg #[.int .i64 0, .int .i64 0, .slice none 0 0]) := by kernel_rfl
@[go_sem] theorem mpTyPeers1 : (mpTy Tryz.prog 162).isSome = true := by rw [mpTyPeers]; rfl
@[go_sem] theorem withO_peers (K : Value → Prop) : withO (mpTy Tryz.prog 162) K = K (.agg #[.int .i64 0, .int .i64 0, .slice none 0 0]) := by rw [mpTyPeers]; rfl
theorem tkKeys_cc (H : Hp) (V : List Nat) (L b2 b : Nat) (ks : List Int) (vs : List CV) (I : List Nat → Hp → List Nat → Prop)
    (hb2 : H[b2]? = some (some [.mv b])) (hb : H[b]? = some (some [.objm ks vs]))
    (h0 : I [] (H ++ [some [.obji b ks.length []]]) V)
    (hI : ∀ s G W, I s G W → G[H.length]? = some (some [.obji b ks.length s]) ∧ G[b]? = some (some [.objm ks vs]) ∧ ∀ i ∈ s, i < ks.length)
    (hy : ∀ s i G W, I s G W → (h : i < ks.length) → i ∉ s → YC Tryz.prog L [ci (ks[i])] (G.set H.length (some [.obji b ks.length (s ++ [i])])) W (fun r G' W' => r = .v (.bool true) ∧ I (s ++ [i]) G' W')) :
    CC Tryz.prog 149 [.yl L, .ptr b2 0] H V (fun _ H' V' => ∃ s, I s H' V' ∧ ∀ i, i < ks.length → i ∈ s) := by
  refine CC.of_swp Tryz.func149 rfl (by kernel_rfl) (by rw [Tryz.ntmps149]; exact len_le _ _ rfl) fun hok hokH => ?_
  clear hok
  refine SWp.seq (Wp.s ?_)
  simp -implicitDefEqProofs [go_sem, args0, hbx_of hb2, hbm_some hb]
  refine SWp.block ?_
  refine SWp.loop (α := List Nat × Hp × List Nat) (fun x => ([(0, .yl L), (5, .it H.length)], x.2.1, x.2.2)) (fun x => I x.1 x.2.1 x.2.2) (fun x => uns x.1 (List.range ks.length)) ([], _, V) h0 (Sh.forget (by simp -implicitDefEqProofs [go_sem]) rfl rfl) ?_
  rintro ⟨s, G, W⟩ hi
  dsimp only at hi ⊢
  obtain ⟨g1, g2, g3⟩ := hI _ _ _ hi
  refine SWp.seq (Wp.s ?_)
  simp -implicitDefEqProofs [go_sem]
  unfold cnext
  dsimp only
  refine ⟨rfl, b, ks.length, s, ks, vs, g1, g2, rfl, g3, fun hall => ?_, fun i hil hni => ?_⟩
  · simp -implicitDefEqProofs [go_sem]
    refine SWp.seq (Wp.s ?_)
    simp -implicitDefEqProofs [go_sem]
    exact Fin.self ⟨s, hi, hall⟩
  · have hbl : b < H.length := by
      rcases Nat.lt_or_ge b H.length with h | h
      · exact h
      · rw [List.getElem?_eq_none h] at hb; cases hb
    have hql : H.length < G.length := (List.getElem?_eq_some_iff.1 g1).1
    have q1 : (G.set H.length (some [.obji b ks.length (s ++ [i])]))[H.length]? = some (some [.obji b ks.length (s ++ [i])]) := List.getElem?_set_self hql
    have q2 : (G.set H.length (some [.obji b ks.length (s ++ [i])]))[b]? = some (some [.objm ks vs]) := by rw [List.getElem?_set_ne (by omega)]; exact g2
    simp -implicitDefEqProofs [go_sem]
    refine SWp.seq (Wp.s ?_)
    simp -implicitDefEqProofs [go_sem]
    refine SWp.block (SWp.seq (Wp.s ?_))
    simp -implicitDefEqProofs [go_sem]
    unfold centry
    dsimp only
    refine ⟨b, ks.length, s, i, ks, vs, q1, q2, rfl, hil, ?_⟩
    rw [List.getElem?_eq_getElem hil, Option.getD_some]
    simp -implicitDefEqProofs [go_sem]
    refine SWp.seq (Wp.s ?_)
    simp -implicitDefEqProofs [go_sem]
    refine YC.mono (hy s i G W hi hil hni) ?_
    rintro _ G2 W2 ⟨rfl, hi2⟩
    simp -implicitDefEqProofs [go_sem]
    refine Wp.s ?_
    simp -implicitDefEqProofs [go_sem]
    exact ⟨s ++ [i], G2, W2, hi2, uns_lt s i hni _ (by simpa using hil), Sh.forget (by simp -implicitDefEqProofs [go_sem]) rfl rfl⟩
def ClA (h : Nat) (ks : List Int) (s : List Nat) (cv : CV) (xs : List Int) (W : Hp) : Prop :=
  (xs = s.map (fun i => ks.getD i 0) ∧ s.Nodup) ∧ ((cv = .sl .ti 1 [] ∧ xs = []) ∨ ∃ j, cv = .bsa (h + (j + 3)) xs.length 1 ∧ W[j]? = some (some (xs.map ci)))
def ColA (ks : List Int) (H : Hp) (V : List Nat) : CV → Hp → List Nat → Prop := fun r H' V' => ∃ (xs : List Int) (W : Hp), H' = H ++ W ∧ V' = V ∧ xs.Perm ks ∧ ((r = .sl .ti 1 [] ∧ xs = []) ∨ ∃ j, r = .bsa (H.length + j) xs.length 1 ∧ W[j]? = some (some (xs.map ci)))
theorem nodup_lenL : ∀ (s l : List Nat), s.Nodup → (∀ i ∈ s, i ∈ l) → s.length ≤ l.length
  | [], l, _, _ => Nat.zero_le _
  | x :: s, l, h, h2 => by
    rw [List.nodup_cons] at h
    have hx := h2 x (by simp)
    have := nodup_lenL s (l.erase x) h.2 fun i hi => (List.mem_erase_of_ne (fun e : i = x => h.1 (e ▸ hi))).2 (h2 i (by simp [hi]))
    rw [List.length_erase_of_mem hx] at this
    have := List.length_pos_of_mem hx
    rw [List.length_cons]; omega
theorem nodup_len {s : List Nat} {n : Nat} (h : s.Nodup) (h2 : ∀ i ∈ s, i < n) : s.length ≤ n := by
  have := nodup_lenL s (List.range n) h fun i hi => List.mem_range.2 (h2 i hi)
  rwa [List.length_range] at this
theorem seen_perm {s : List Nat} {ks : List Int} (h : s.Nodup) (h2 : ∀ i ∈ s, i < ks.length) (h3 : ∀ i, i < ks.length → i ∈ s) : (s.map (fun i => ks.getD i 0)).Perm ks := by
  have hp : s.Perm (List.range ks.length) := by
    rw [List.perm_ext_iff_of_nodup h List.nodup_range]
    intro i
    rw [List.mem_range]
    exact ⟨h2 i, h3 i⟩
  refine (hp.map _).trans (.of_eq ?_)
  refine List.ext_getElem (by simp) fun i a b => ?_
  simp [List.getD_eq_getElem?_getD, b]
theorem tkAppSeq_cc (H : Hp) (V : List Nat) (b2 b : Nat) (ks : List Int) (vs : List CV) (hb2 : H[b2]? = some (some [.mv b])) (hb : H[b]? = some (some [.objm ks vs])) (hkl : ks.length ≤ 1000000) :
    CC Tryz.prog 152 [.sl .ti 1 [], .fn 149 [.ptr b2 0]] H V (ColA ks H V) := by
  refine CC.of_swp0 Tryz.func152 rfl (by kernel_rfl) (by rw [Tryz.ntmps152]; exact len_le _ _ rfl) fun hok hokH => ?_
  have hb2l := (List.getElem?_eq_some_iff.1 hb2).1
  have hbl := (List.getElem?_eq_some_iff.1 hb).1
  refine SWp0.seq (SWp.s0 (Wp.s ?_))
  simp -implicitDefEqProofs [go_sem, args0]
  refine SWp0.join (α := CV × List Int × Option (List CV) × Hp) (fun x => ([(2, .ptr H.length 0)], H ++ (some [x.1] :: none :: x.2.2.1 :: x.2.2.2), V)) (fun x => (∃ s, ClA H.length ks s x.1 x.2.1 x.2.2.2) ∧ x.2.1.Perm ks) ?_ ?_
  · refine SWp0.seq (SWp.s0 (Wp.s ?_))
    simp -implicitDefEqProofs [go_sem]
    refine SWp0.block (SWp0.range [(2, .ptr H.length 0)] rfl (by simp -implicitDefEqProofs [go_sem]) ?_)
    simp -implicitDefEqProofs [go_sem]
    generalize hbd : Code.block 1 _ = bd
    generalize has : Code.region 2 _ _ = asg
    refine CC.mono (tkKeys_cc _ V _ b2 b ks vs (fun s G W => W = V ∧ ∃ cv xs Wg, G = H ++ (some [cv] :: some [lpc 13 #[7] asg bd [(2, .ptr H.length 0)] .ready none] :: some [.obji b ks.length s] :: Wg) ∧ ClA H.length ks s cv xs Wg ∧ (∀ i ∈ s, i < ks.length)) ?_ ?_ ?_ ?_ ?_) ?_
    · rw [List.getElem?_append_left hb2l]; exact hb2
    · rw [List.getElem?_append_left hbl]; exact hb
    · exact ⟨rfl, .sl .ti 1 [], [], [], by simp, ⟨⟨rfl, List.nodup_nil⟩, .inl ⟨rfl, rfl⟩⟩, by simp⟩
    · rintro s _ _ ⟨rfl, cv, xs, Wg, rfl, hc, hs⟩
      exact ⟨by rw [List.length_append]; exact Go.Proofs.YtpedbpbmnchllaaGreatDoor.hget H _ 2, by rw [List.getElem?_append_left hbl]; exact hb, hs⟩
    · rintro s i _ V1 ⟨rfl, cv, xs, Wg, rfl, hc, hs⟩ hil hni
      have e : List.set (H ++ (some [cv] :: some [lpc 13 #[7] asg bd [(2, .ptr H.length 0)] .ready none] :: some [.obji b ks.length s] :: Wg)) (H ++ [some [.sl .ti 1 []], some [lpc 13 #[7] asg bd [(2, .ptr H.length 0)] .ready none]]).length (some [.obji b ks.length (s ++ [i])]) =
          H ++ (some [cv] :: some [lpc 13 #[7] asg bd [(2, .ptr H.length 0)] .ready none] :: some [.obji b ks.length (s ++ [i])] :: Wg) := by
        rw [List.length_append, List.set_append_right _ _ (by omega), Nat.add_sub_cancel_left]; rfl
      rw [e]
      have hsi : ∀ j ∈ s ++ [i], j < ks.length := by
        intro j hj
        rcases List.mem_append.1 hj with hj | hj
        · exact hs j hj
        · rw [List.mem_singleton.1 hj]; exact hil
      have hsi' : ∀ j, j ∈ s ∨ j = i → j < ks.length := fun j hj => hsi j (by simpa using hj)
      have hnd : (s ++ [i]).Nodup := by
        rw [List.nodup_append]
        refine ⟨hc.1.2, by simp, fun a1 ha1 b1 hb1 e1 => ?_⟩
        rw [List.mem_singleton] at hb1
        rw [e1, hb1] at ha1; exact hni ha1
      have hxl : xs.length < ks.length := by
        have := nodup_len hnd hsi
        rw [hc.1.1, List.length_map]
        simp at this; omega
      have hget : ks.getD i 0 = ks[i] := by rw [List.getD_eq_getElem?_getD, List.getElem?_eq_getElem hil]; rfl
      refine YC.of_round (n := 13) (ps := #[7]) (bd := bd) (T := [(2, .ptr H.length 0)]) (Go.Proofs.YtpedbpbmnchllaaGreatDoor.hget _ _ 1) rfl (by decide) ?_
      subst hbd has
      refine Wp.s ?_
      simp -implicitDefEqProofs [go_sem, tps]
      generalize hlp : lpc 13 #[7] _ _ _ LoopState.busy none = lp
      generalize hqq : RQ 13 #[7] _ _ _ _ _ = QQ
      rcases hc with ⟨hx0, ⟨rfl, hxe⟩ | ⟨j, rfl, hj⟩⟩
      · refine SWp.block (SWp.opx (pre := [_, _, _]) (post := [_]) rfl (by intro c e; cases e) ?_)
        simp -implicitDefEqProofs [go_sem]
        refine ⟨_, _, _, appbox (sz := 1) (tk := .ti) (ys := [[ci ks[i]]]) slTy33 slTy33 rfl rfl (by simp) (by simp), ?_⟩
        simp -implicitDefEqProofs [go_sem]
        rw [← hqq, ← hlp]
        refine ⟨Go.Proofs.YtpedbpbmnchllaaGreatDoor.hget _ _ 1, rfl, rfl, .bsa (H.length + (Wg.length + 3)) 1 1, [ks[i]], Wg ++ [some [ci ks[i]]], ?_, ⟨⟨by have h1 := hx0.1; rw [hxe] at h1; rw [List.map_append, ← h1, List.map_singleton, hget]; rfl, hnd⟩, .inr ⟨Wg.length, rfl, by simp⟩⟩, hsi'⟩
        rw [List.set_append_right _ _ (by omega), Nat.add_sub_cancel_left]
        simp
      · refine SWp.block (Wp.s ?_)
        simp -implicitDefEqProofs [go_sem, hbx_of hj, set_W3]
        rw [← hqq, ← hlp]
        refine ⟨by omega, Go.Proofs.YtpedbpbmnchllaaGreatDoor.hget _ _ 1, rfl, rfl, .bsa (H.length + (Wg.length + 3)) (xs ++ [ks[i]]).length 1, xs ++ [ks[i]], Wg.set j none ++ [some ((xs ++ [ks[i]]).map ci)], ?_, ⟨⟨by rw [List.map_append, ← hx0.1, List.map_singleton, hget], hnd⟩, .inr ⟨Wg.length, rfl, by simp⟩⟩, hsi'⟩
        rw [List.set_append_right _ _ (by omega), Nat.add_sub_cancel_left]
        simp
    · rintro _ _ _ ⟨s, ⟨rfl, cv, xs, Wg, rfl, hc, hs⟩, hall⟩
      refine .inl ⟨Go.Proofs.YtpedbpbmnchllaaGreatDoor.hget _ _ 1, ?_⟩
      refine ⟨cv, xs, some [.obji b ks.length s], Wg, ⟨⟨s, hc⟩, by rw [hc.1.1]; exact seen_perm hc.1.2 hs hall⟩, Sh.forget (by simp -implicitDefEqProofs [go_sem]) ?_ rfl⟩
      rw [List.set_append_right _ _ (by omega), Nat.add_sub_cancel_left]; rfl
  · rintro ⟨cv, xs, ob, Wg⟩ ⟨⟨s, hc⟩, hxl⟩
    dsimp only at hc hxl ⊢
    refine SWp0.seq (SWp.s0 (Wp.s ?_))
    simp -implicitDefEqProofs [go_sem]
    refine SWp.s0 (Wp.s ?_)
    simp -implicitDefEqProofs [go_sem]
    refine Fin.self ⟨xs, _, rfl, rfl, hxl, ?_⟩
    rcases hc.2 with ⟨rfl, rfl⟩ | ⟨j, rfl, hj⟩
    · exact .inl ⟨rfl, rfl⟩
    · exact .inr ⟨j + 3, rfl, hj⟩
theorem tkCollect_cc (H : Hp) (V : List Nat) (b2 b : Nat) (ks : List Int) (vs : List CV) (hb2 : H[b2]? = some (some [.mv b])) (hb : H[b]? = some (some [.objm ks vs])) (hkl : ks.length ≤ 1000000) :
    CC Tryz.prog 147 [.fn 149 [.ptr b2 0]] H V (ColA ks H V) := by
  refine CC.of_swp Tryz.func147 rfl (by kernel_rfl) (by rw [Tryz.ntmps147]; exact len_le _ _ rfl) fun hok hokH => ?_
  clear hok
  refine SWp.seq (Wp.s ?_)
  simp -implicitDefEqProofs [go_sem, args0]
  refine SWp.seq (Wp.s ?_)
  simp -implicitDefEqProofs [go_sem]
  refine CC.le (.cons (.nilti 1 (by decide)) (.cons (.refl _) .nil)) (CC.mono (tkAppSeq_cc _ _ b2 b ks vs hb2 hb hkl) ?_)
  rintro r _ _ ⟨xs, W, rfl, rfl, h1, h2⟩
  simp -implicitDefEqProofs [go_sem]
  refine Wp.s ?_
  simp -implicitDefEqProofs [go_sem]
  exact Fin.self ⟨xs, W, rfl, rfl, h1, h2⟩
def srt (l : List Int) : List Int := l.mergeSort fun x y => decide (x ≤ y)
theorem srt_len (l : List Int) : (srt l).length = l.length := by rw [srt, List.length_mergeSort]
theorem srt_perm {l m : List Int} (h : l.Perm m) : srt l = srt m := by
  have hs : ∀ z : List Int, (srt z).Pairwise fun x y => x ≤ y := fun z => by
    have := List.pairwise_mergeSort (le := fun x y : Int => decide (x ≤ y)) (fun a b c => by simp; omega) (fun a b => by simp; omega) z
    exact this.imp fun h => by simpa using h
  refine List.Perm.eq_of_pairwise (fun a b _ _ h1 h2 => Int.le_antisymm h1 h2) (hs l) (hs m) ?_
  exact ((List.mergeSort_perm l _).trans h).trans (List.mergeSort_perm m _).symm
structure SortA : Prop where
  box : ∀ (H : Hp) (V : List Nat) (b : Nat) (xs : List Int), H[b]? = some (some (xs.map ci)) → xs.length ≤ 1000000 →
    CC Tryz.prog 148 [.bsa b xs.length 1] H V (fun _ H' V' => H' = H.set b (some ((srt xs).map ci)) ∧ V' = V)
  none : ∀ (H : Hp) (V : List Nat), CC Tryz.prog 148 [.sl .ti 1 []] H V (fun _ H' V' => H' = H ∧ V' = V)
def SrtA (ks : List Int) (H : Hp) (V : List Nat) : CV → Hp → List Nat → Prop := fun r H' V' => r = .sl .sh 1 ((srt ks).map ic) ∧ H' = H ∧ V' = V
theorem tkSorted_cc (hs : SortA) (H : Hp) (V : List Nat) (b2 b : Nat) (ks : List Int) (vs : List CV) (hb2 : H[b2]? = some (some [.mv b])) (hb : H[b]? = some (some [.objm ks vs])) (hkl : ks.length ≤ 1000000) :
    CC Tryz.prog 135 [.fn 149 [.ptr b2 0]] H V (SrtA ks H V) := by
  refine CC.of_swp Tryz.func135 rfl (by kernel_rfl) (by rw [Tryz.ntmps135]; exact len_le _ _ rfl) fun hok hokH => ?_
  clear hok
  refine SWp.seq (Wp.s ?_)
  simp -implicitDefEqProofs [go_sem, args0]
  refine SWp.seq (Wp.s ?_)
  simp -implicitDefEqProofs [go_sem]
  refine CC.mono (tkCollect_cc _ _ b2 b ks vs hb2 hb hkl) ?_
  rintro r _ _ ⟨xs, W, rfl, rfl, h1, ⟨rfl, hxe⟩ | ⟨j, rfl, hj⟩⟩
  · simp -implicitDefEqProofs [go_sem]
    refine SWp.seq (Wp.s ?_)
    simp -implicitDefEqProofs [go_sem]
    refine CC.mono (hs.none _ _) ?_
    rintro _ _ _ ⟨rfl, rfl⟩
    simp -implicitDefEqProofs [go_sem]
    refine Wp.s ?_
    simp -implicitDefEqProofs [go_sem]
    exact Fin.pure (r' := .sl .sh 1 []) ⟨by subst hxe; rw [← srt_perm h1, show srt [] = [] from List.mergeSort_nil]; rfl, rfl, rfl⟩ (by simp) (by simp) (.sh _ _ _) (by simp -implicitDefEqProofs [go_sem]) hokH
  · simp -implicitDefEqProofs [go_sem]
    refine SWp.seq (Wp.s ?_)
    simp -implicitDefEqProofs [go_sem]
    have hxl : xs.length = ks.length := h1.length_eq
    have hxs := srt_len xs
    have hj' : (H ++ W)[H.length + j]? = some (some (xs.map ci)) := by rw [hget]; exact hj
    refine CC.mono (hs.box _ _ _ xs hj' (by omega)) ?_
    rintro _ _ _ ⟨rfl, rfl⟩
    simp -implicitDefEqProofs [go_sem]
    refine Wp.s ?_
    simp -implicitDefEqProofs [go_sem]
    have hjl := (List.getElem?_eq_some_iff.1 hj').1
    refine Fin.froz (b := H.length + j) (o := 0) (n := xs.length) (sz := 1) (cs := (srt xs).map ci) (xs := (srt xs).map ic) ⟨by rw [srt_perm h1], rfl, rfl⟩ (.bsa _ _ _) (by rw [hget]; exact List.getElem?_set_self (List.getElem?_eq_some_iff.1 hj).1) ?_ ?_ (by omega) (by rw [okE_ints]; trivial) hokH ?_ (by simp)
    · rw [List.drop_zero, ← hxs, chunks_ci]
    · rw [List.length_map]; omega
    · simp
end Go.Proofs.YtpedbpbmnchllaaGreatDoor
namespace Go.Proofs.YtpedbpbmnchllaaGreatDoor
open Go.Proofs Go.Shelf Go.Sort
theorem sortA : SortA where
  box H V b xs hb hx := by
    refine ⟨⟨Tryz.f148, Tryz.func148, rfl, by kernel_rfl⟩, fun m w us hi hu => ?_⟩
    rw [RelL] at hu
    obtain ⟨u, r, rfl, h1, h2⟩ := hu
    rw [RelL] at h2; subst h2
    rw [RelV] at h1
    obtain ⟨k, cap, c, e, rfl, g1, g2, hk, hc, g3⟩ := h1
    obtain ⟨c', e', q1, q2, q3, q4⟩ := hi.alive hb hk ⟨c, e, _, hc⟩
    rw [hc] at q1; cases q1
    have hH : Holds (Value.int .i64) w k 0 xs.toArray := by
      intro j hj
      have hj' : j < xs.length := by simpa using hj
      obtain ⟨v, a1, a2, _⟩ := relC_get q4 j (ci xs[j]) (by rw [List.getElem?_map, List.getElem?_eq_getElem hj']; rfl)
      rw [RelV] at a2; subst a2
      refine ⟨by rw [a1, getElem!_pos _ j (by simpa using hj')]; simp, ?_⟩
      simp [World.frozen?, hc]
    refine (AnyM.slices_Sort_int sortLay k 0 cap xs w hH (Array.getElem?_eq_some_iff.1 hc).1 (by omega)).mono ?_
    rintro _ _ ⟨rfl, n, os, rfl⟩
    obtain ⟨s1, s2⟩ := step_sorted (ys := xs.mergeSort fun x y => decide (x ≤ y)) hi hb hk hc (by simp) n os
    exact ⟨_, m, .any, _, _, rfl, ⟨rfl, rfl⟩, s1, by rw [RelV]; trivial, s2⟩
  none H V := by
    refine ⟨⟨Tryz.f148, Tryz.func148, rfl, by kernel_rfl⟩, fun m w us hi hu => ?_⟩
    rw [RelL] at hu
    obtain ⟨u, r, rfl, h1, h2⟩ := hu
    rw [RelL] at h2; subst h2
    rw [RelV] at h1
    obtain ⟨base, cap, rfl, g1, g2, g3, g4⟩ := h1
    refine (AnyM.slices_Sort_int_none sortLay base cap w).mono ?_
    rintro _ _ ⟨rfl, rfl⟩
    exact ⟨_, m, .any, _, _, rfl, ⟨rfl, rfl⟩, hi, by rw [RelV]; trivial, Ext.refl _ _ _⟩
end Go.Proofs.YtpedbpbmnchllaaGreatDoor
namespace Go.Proofs.YtpedbpbmnchllaaGreatDoor
open Go.Proofs
theorem keysM_cc (H : Hp) (V : List Nat) (m : Nat) (hm : m < H.length) : CC Tryz.prog 136 [.mv m] H V (fun r H' V' => r = .fn 149 [.ptr H.length 0] ∧ H' = H ++ [some [.mv m]] ∧ V = V') := by
  refine CC.of_swp Tryz.func136 rfl (by kernel_rfl) (by rw [Tryz.ntmps136]; exact len_le _ _ rfl) fun hok hokH => ?_
  refine SWp.seq (Wp.s ?_)
  simp -implicitDefEqProofs [go_sem, args0]
  refine Wp.s ?_
  simp -implicitDefEqProofs [go_sem]
  refine Fin.cut (H.length + 1) V.length ⟨rfl, rfl, rfl⟩ (by omega) (Nat.le_refl _) (List.take_of_length_le (by simp)) (List.take_of_length_le (Nat.le_refl _)) (.refl _) (by simp [go_sem]) ?_
  intro b' cs hb
  rw [List.getElem?_append] at hb
  split at hb
  · exact okL_mono (by omega) (Nat.le_refl _) (hokH b' cs hb)
  · exact okH_get (i := H.length + 1) (j := V.length) (L := [some [.mv m]]) (by simp [go_sem]; exact Nat.lt_succ_of_lt hm) _ _ hb
def IncI (ks : List Int) : Prop := ∀ i (h : i + 1 < ks.length), ks[i] < ks[i + 1]
theorem IncI.lt {ks : List Int} (h : IncI ks) : ∀ (j i : Nat) (hj : j < ks.length) (hi : i < j), ks[i] < ks[j]
  | 0, i, hj, hi => absurd hi (Nat.not_lt_zero _)
  | j + 1, i, hj, hi => by
    have h1 := h j hj
    rcases Nat.lt_or_ge i j with h2 | h2
    · have := IncI.lt h j i (by omega) h2
      omega
    · obtain rfl : i = j := by omega
      exact h1
theorem IncI.keyAt {ks : List Int} (h : IncI ks) (i : Nat) (hi : i < ks.length) : keyAt ks ks[i] = some i := by
  rw [Go.Proofs.YtpedbpbmnchllaaGreatDoor.keyAt, List.findIdx?_eq_some_iff_getElem]
  refine ⟨hi, by simp, fun j hj => ?_⟩
  have := h.lt i j hi hj
  simp; omega
theorem IncI.srt {ks : List Int} (h : IncI ks) : srt ks = ks := by
  rw [Go.Proofs.YtpedbpbmnchllaaGreatDoor.srt]
  refine List.mergeSort_of_pairwise ?_
  rw [List.pairwise_iff_getElem]
  intro i j hi hj hij
  have := h.lt j i hj hij
  simp; omega
theorem okL_objm {i j : Nat} {ks : List Int} {cs : List (List CV)} (h : okL i j [.objm ks (cs.map .agg)]) : okE i j cs := by
  rw [okL, okV, okL_iff] at h
  have h1 := h.1
  clear h
  induction cs with
  | nil => trivial
  | cons c cs ih =>
    rw [okE]
    refine ⟨?_, ih fun x hx => h1 x (by simp [hx])⟩
    have := h1 (.agg c) (by simp)
    rwa [okV] at this
set_option maxRecDepth 8000 in
theorem list_cc (H : Hp) (V : List Nat) (m : Nat) (ks : List Int) (cs : List (List CV)) (hm : H[m]? = some (some [.objm ks (cs.map .agg)])) (hk : IncI ks) (hlen : cs.length = ks.length) (h3 : ∀ c ∈ cs, c.length = 3 ∧ allOne c = true) (hl : ks.length ≤ 1000) : CC Tryz.prog 107 [.mv m] H V (Fr 3 cs H V) := by
  refine CC.of_swp Tryz.func107 rfl (by kernel_rfl) (by rw [Tryz.ntmps107]; exact len_le _ _ rfl) fun hok hokH => ?_
  clear hok
  have hml := (List.getElem?_eq_some_iff.1 hm).1
  refine SWp.seq (Wp.s ?_)
  simp -implicitDefEqProofs [go_sem, args0]
  refine SWp.seq (Wp.s ?_)
  simp -implicitDefEqProofs [go_sem]
  refine SWp.join (α := Nat) (fun v => ([(3, .sl (.own V.length v) 3 cs)], H, V ++ [v])) (fun _ => True) ?_ ?_
  · refine SWp.seq (Wp.s ?_)
    simp -implicitDefEqProofs [go_sem]
    refine CC.mono (keysM_cc _ _ m hml) ?_
    rintro _ _ _ ⟨rfl, rfl, rfl⟩
    simp -implicitDefEqProofs [go_sem]
    refine CC.mono (tkSorted_cc sortA _ _ H.length m ks (cs.map .agg) (by simp) (by rw [List.getElem?_append_left hml]; exact hm) (by omega)) ?_
    rintro _ _ _ ⟨rfl, rfl, hV⟩
    rw [hk.srt, hV]
    simp -implicitDefEqProofs [go_sem]
    refine SWp.block ?_
    refine SWp.loop (α := Nat × Nat) (fun x => ([(0, .mv m), (3, .sl (.own V.length x.2) 3 (cs.take x.1)), (8, .sl .sh 1 (ks.map ic)), (9, ci ks.length), (10, ci x.1)], H, V ++ [x.2])) (fun x => x.1 ≤ ks.length) (fun x => ks.length - x.1) (0, 0) (Nat.zero_le _) ?_ ?_
    · exact Gst.trans (Sh.trim0 (T' := [(0, .mv m), (3, .v (.slice none 0 0)), (8, .sl .sh 1 (ks.map ic)), (9, ci ks.length), (10, ci 0)]) (by simp [go_sem]) (by simp [go_sem, okE_ints]; rw [okV]; exact hml) hokH (Nat.le_refl _) (by simp) (by simp)) (Sh.tokT (by simp [go_sem]) rfl rfl)
    rintro ⟨i, v⟩ hi
    dsimp only at hi ⊢
    refine SWp.seq (Wp.s ?_)
    simp -implicitDefEqProofs [go_sem]
    refine SWp.seq (Wp.s ?_)
    simp -implicitDefEqProofs [go_sem]
    refine ⟨fun h => ?_, fun h => ?_⟩
    case refine_2 =>
      rw [List.take_of_length_le (by omega)]
      exact ⟨v, Sh.forget (by simp [go_sem]) rfl rfl⟩
    have hic : i < cs.length := by omega
    obtain ⟨l3, a3⟩ := h3 cs[i] (List.getElem_mem hic)
    have hlk : ∀ z, mlook z ks (cs.map .agg) ks[i] = .agg cs[i] := fun z => by
      rw [mlook, hk.keyAt i h]; simp [hic]
    refine SWp.seq (SWp.block (SWp.seq (Wp.s ?_)))
    simp -implicitDefEqProofs [go_sem, h]
    refine Wp.s ?_
    simp -implicitDefEqProofs [go_sem, hbm_some hm, hlk, l3, a3]
    refine ⟨by omega, ?_⟩
    refine Wp.s ?_
    simp -implicitDefEqProofs [go_sem]
    refine ⟨i + 1, by omega, by omega, v + 1, Sh.forget ?_ rfl (by simp)⟩
    simp [go_sem, wrap_succ (show i ≤ 1000000000 by omega)]
  rintro v -
  dsimp only
  refine SWp.seq (Wp.s ?_)
  simp -implicitDefEqProofs [go_sem]
  refine Wp.s ?_
  simp -implicitDefEqProofs [go_sem]
  exact Fin.fr (W := []) (okL_objm (hokH _ _ hm)) hokH (by simp)
end Go.Proofs.YtpedbpbmnchllaaGreatDoor
namespace Go.Proofs.YtpedbpbmnchllaaGreatDoor
open Go.Proofs
structure SitesOk (ss : List Nat) : Prop where
  few : ss.length ≤ 4
  ok : ∀ s ∈ ss, s ≤ 3
  inc : ∀ i (h : i + 1 < ss.length), ss[i] < ss[i + 1]
theorem SitesOk.lt {ss : List Nat} (h : SitesOk ss) : ∀ (j i : Nat) (hj : j < ss.length) (hi : i < j), ss[i] < ss[j]
  | 0, i, hj, hi => absurd hi (Nat.not_lt_zero _)
  | j + 1, i, hj, hi => by
    have h1 := h.inc j hj
    rcases Nat.lt_or_ge i j with h2 | h2
    · have := SitesOk.lt h j i (by omega) h2
      omega
    · obtain rfl : i = j := by omega
      exact h1
theorem SitesOk.zI {ss : List Nat} (h : SitesOk ss) : IncI (zI ss) := fun i hi => by
  rw [zI_get, zI_get]
  have := h.inc i (by rwa [zI_len] at hi)
  omega
theorem SitesOk.none {ss : List Nat} (h : SitesOk ss) (i : Nat) (hi : i < ss.length) : keyAt (Go.Proofs.YtpedbpbmnchllaaGreatDoor.zI (ss.take i)) ((ss[i] : Nat) : Int) = .none := by
  rw [keyAt, List.findIdx?_eq_none_iff]
  intro x hx
  obtain ⟨n, hn, rfl⟩ := List.mem_map.1 hx
  obtain ⟨j, hj, rfl⟩ := List.mem_take_iff_getElem.1 hn
  have := h.lt i j hi (by omega)
  simp; omega
theorem zI_snoc (z : List Nat) (n : Nat) : zI (z ++ [n]) = zI z ++ [(n : Int)] := by simp [zI]
def newP (z : List Nat) (c : Int) (s : Nat) : Pee := ⟨s, c, cleanB z⟩
def newT (z ss : List Nat) (c : Int) : Trk := ⟨z, ss.map (newP z c)⟩
theorem newT_ok {z ss : List Nat} {c : Int} (hz : SzOkN z) (hs : SitesOk ss) (c0 : 0 ≤ c) (c1 : c ≤ 1073741824) : TrkOk (newT z ss c) where
  z := hz
  few := by show (ss.map _).length ≤ 4; rw [List.length_map]; exact hs.few
  ok p hp := by
    obtain ⟨s, h, rfl⟩ := List.mem_map.1 hp
    exact ⟨hs.ok s h, c0, c1, cleanB_ok hz⟩
  inc i h := by
    have h' : i + 1 < ss.length := by simpa [newT] using h
    have := hs.inc i h'
    simpa [newT, newP] using this
def mpOf (z ss : List Nat) (c : Int) : CV := .objm (zI ss) ((ss.map fun s => prC (newP z c s)).map .agg)
theorem okL_objmI {i j : Nat} {ks : List Int} {cs : List (List CV)} (h : okE i j cs) : okL i j [.objm ks (cs.map .agg)] := by
  rw [okL, okV, okL_iff]
  refine ⟨?_, trivial⟩
  induction cs with
  | nil => simp
  | cons c cs ih =>
    rw [okE] at h
    intro x hx
    rcases List.mem_cons.1 hx with rfl | hx
    · rw [okV]; exact h.1
    · exact ih h.2 x hx
theorem okL_mpOf (i j : Nat) (z ss : List Nat) (c : Int) : okL i j [mpOf z ss c] := by
  refine okL_objmI ?_
  have := okE_prs i j (ss.map (newP z c))
  rwa [List.map_map] at this
theorem tkNew_cc (H : Hp) (V : List Nat) (z ss : List Nat) (c : Int) (hz : SzOkN z) (hs : SitesOk ss) (c0 : 0 ≤ c) (c1 : c ≤ 1073741824) : CC Tryz.prog 67 [.sl .sh 1 ((zI z).map ic), .sl .sh 1 ((zI ss).map ic), ci c] H V (Pu (.tup [.agg (trkC (newT z ss c)), er 0]) H V) := by
  refine CC.of_swp Tryz.func67 rfl (by kernel_rfl) (by rw [Tryz.ntmps67]; exact len_le _ _ rfl) fun hok hokH => ?_
  clear hok
  have hzl := zI_len z
  have hsl := zI_len ss
  have h4 := hs.few
  have h8 := hz.few
  refine SWp.seq (Wp.s ?_)
  simp -implicitDefEqProofs [go_sem, args0]
  refine SWp.seq (SWp.seq (Wp.s ?_))
  simp -implicitDefEqProofs [go_sem]
  refine CC.mono (New_cc _ _ .sh (zI z) (by omega)) ?_
  rintro _ _ _ ⟨rfl, rfl, rfl⟩
  rw [hz.sizes]
  simp -implicitDefEqProofs [go_sem]
  refine SWp.seq (Wp.s ?_)
  simp -implicitDefEqProofs [go_sem]
  refine Wp.s ?_
  simp -implicitDefEqProofs [go_sem]
  refine SWp.seq (SWp.seq (Wp.s ?_))
  simp -implicitDefEqProofs [go_sem, hsl, show ¬ (4 : Int) < ss.length by omega, show ¬ 4 < ss.length by omega]
  refine Wp.s ?_
  simp -implicitDefEqProofs [go_sem]
  refine SWp.join (α := Unit) (fun _ => ([(0, .sl .sh 1 ((zI z).map ic)), (1, .sl .sh 1 ((zI ss).map ic)), (2, ci c), (6, .ptr H.length 0)], H ++ [some [.v (.slice none 0 0), .v (.slice none 0 0)]], V)) (fun _ => True) ?_ ?_
  · refine SWp.seq (Wp.s ?_)
    simp -implicitDefEqProofs [go_sem, hsl]
    refine SWp.block ?_
    refine SWp.loop (α := Nat) (fun i => ([(0, .sl .sh 1 ((zI z).map ic)), (1, .sl .sh 1 ((zI ss).map ic)), (2, ci c), (6, .ptr H.length 0), (32, .sl .sh 1 ((zI ss).map ic)), (33, ci ss.length), (34, ci i)], H ++ [some [.v (.slice none 0 0), .v (.slice none 0 0)]], V)) (fun i => i ≤ ss.length) (fun i => ss.length - i) 0 (Nat.zero_le _) (Sh.forget (by simp [go_sem]) rfl rfl) ?_
    intro i hi
    dsimp only
    refine SWp.seq (Wp.s ?_)
    simp -implicitDefEqProofs [go_sem]
    refine SWp.seq (Wp.s ?_)
    simp -implicitDefEqProofs [go_sem]
    refine ⟨fun h => ?_, fun h => Sh.forget (by simp [go_sem]) rfl rfl⟩
    have hiz : i < (zI ss).length := by omega
    refine SWp.seq (SWp.block (SWp.seq (Wp.s ?_)))
    simp -implicitDefEqProofs [go_sem, hiz, zI_get]
    refine SWp.seq (Wp.s ?_)
    simp -implicitDefEqProofs [go_sem]
    refine CC.mono (tsite_cc _ _ ss[i] (by omega) (by have := hs.ok _ (List.getElem_mem h); omega)) ?_
    rintro _ _ _ ⟨rfl, rfl, rfl⟩
    simp -implicitDefEqProofs [go_sem]
    refine Wp.s ?_
    simp -implicitDefEqProofs [go_sem]
    refine Wp.s ?_
    simp -implicitDefEqProofs [go_sem]
    refine ⟨i + 1, by omega, by omega, Sh.forget ?_ rfl rfl⟩
    simp [go_sem, wrap_succ (show i ≤ 1000000000 by omega)]
  rintro _ -
  dsimp only
  refine SWp.seq (Wp.s ?_)
  simp -implicitDefEqProofs [go_sem]
  refine SWp.join (α := Unit) (fun _ => ([(0, .sl .sh 1 ((zI z).map ic)), (2, ci c), (6, .ptr H.length 0), (12, .mv (H.length + 1))], H ++ [some [.v (.slice none 0 0), .v (.slice none 0 0)], some [mpOf z ss c]], V)) (fun _ => True) ?_ ?_
  · refine SWp.seq (Wp.s ?_)
    simp -implicitDefEqProofs [go_sem, hsl]
    refine SWp.block ?_
    refine SWp.loop (α := Nat) (fun i => ([(0, .sl .sh 1 ((zI z).map ic)), (2, ci c), (6, .ptr H.length 0), (12, .mv (H.length + 1)), (44, .sl .sh 1 ((zI ss).map ic)), (45, ci ss.length), (46, ci i)], H ++ [some [.v (.slice none 0 0), .v (.slice none 0 0)], some [mpOf z (ss.take i) c]], V)) (fun i => i ≤ ss.length) (fun i => ss.length - i) 0 (Nat.zero_le _) (Sh.forget (by simp [go_sem]) rfl rfl) ?_
    intro i hi
    dsimp only
    refine SWp.seq (Wp.s ?_)
    simp -implicitDefEqProofs [go_sem]
    refine SWp.seq (Wp.s ?_)
    simp -implicitDefEqProofs [go_sem]
    refine ⟨fun h => ?_, fun h => ?_⟩
    case refine_2 =>
      rw [List.take_of_length_le (by omega)]
      exact Sh.forget (by simp [go_sem]) rfl rfl
    have hiz : i < (zI ss).length := by omega
    have hno := hs.none i h
    have hnx : mpOf z (ss.take (i + 1)) c = .objm (zI (ss.take i) ++ [((ss[i] : Nat) : Int)]) ((((ss.take i).map fun s => prC (newP z c s)).map .agg) ++ [.agg (prC (newP z c ss[i]))]) := by
      rw [List.take_succ_eq_append_getElem h, mpOf, zI_snoc, List.map_append, List.map_append]; rfl
    have hmp : mpOf z (ss.take i) c = .objm (zI (ss.take i)) (((ss.take i).map fun s => prC (newP z c s)).map .agg) := rfl
    rw [hmp]
    generalize (((ss.take i).map fun s => prC (newP z c s)).map CV.agg) = vs at hnx
    generalize zI (ss.take i) = ks at hno hnx
    have hlk : ∀ (zz : Value) (vs : List CV), mlook zz ks vs ((ss[i] : Nat) : Int) = zval zz := fun zz vs => by rw [mlook, hno]
    have hput : ∀ y vs, mput ks vs ((ss[i] : Nat) : Int) y = .objm (ks ++ [((ss[i] : Nat) : Int)]) (vs ++ [y]) := fun y vs => by rw [mput, hno]
    have hm1 : ∀ (L : Hp), (H ++ (some [.v (.slice none 0 0), .v (.slice none 0 0)] :: some [.objm ks vs] :: L))[H.length + 1]? = some (some [.objm ks vs]) := fun L => hget _ _ 1
    refine SWp.seq (SWp.block (SWp.seq (Wp.s ?_)))
    simp -implicitDefEqProofs [go_sem, hiz, zI_get]
    refine SWp.seq (SWp.seq (Wp.s ?_))
    simp -implicitDefEqProofs [go_sem, hbm_some (hm1 []), hlk, hno, zval]
    refine Wp.s ?_
    simp -implicitDefEqProofs [go_sem]
    refine SWp.seq (Wp.s ?_)
    simp -implicitDefEqProofs [go_sem]
    refine CC.mono (clean_cc _ _ z hz) ?_
    rintro _ _ _ ⟨rfl, rfl, rfl⟩
    simp -implicitDefEqProofs [go_sem]
    refine SWp.seq (SWp.seq (Wp.s ?_))
    simp -implicitDefEqProofs [go_sem]
    refine Wp.s ?_
    simp -implicitDefEqProofs [go_sem]
    refine Wp.s ?_
    simp -implicitDefEqProofs [go_sem, hbm_some (hm1 _), hput]
    refine Wp.s ?_
    simp -implicitDefEqProofs [go_sem]
    refine ⟨i + 1, by omega, by omega, ?_⟩
    have hok : okL (H.length + 2) V.length [mpOf z (ss.take (i + 1)) c] := okL_mpOf _ _ _ _ _
    rw [hnx] at hok ⊢
    refine Sh.trim (L := [some [.v (.slice none 0 0), .v (.slice none 0 0)], some [.objm (ks ++ [((ss[i] : Nat) : Int)]) (vs ++ [.agg (prC (newP z c ss[i]))])]]) ?_ ?_ hokH ?_ (Nat.le_refl _) ?_ ?_
    · simp [go_sem, wrap_succ (show i ≤ 1000000000 by omega)]
    · simp [go_sem, okE_ints]
      rw [okV]; exact Nat.lt_succ_self _
    · rw [okH_some, okH_some]
      exact ⟨by simp [okL, okV], hok, trivial⟩
    · simp [newP, prC]
    · simp
  rintro _ -
  dsimp only
  refine SWp.seq (SWp.seq (Wp.s ?_))
  simp -implicitDefEqProofs [go_sem]
  refine CC.mono (between_cc _ _ c 0 1073741824 c0 c1) ?_
  rintro _ _ _ ⟨rfl, rfl, rfl⟩
  simp -implicitDefEqProofs [go_sem]
  refine Wp.s ?_
  simp -implicitDefEqProofs [go_sem]
  refine SWp.seq (Wp.s ?_)
  simp -implicitDefEqProofs [go_sem]
  refine CC.mono (vcloneInt_cc _ _ .sh (zI z) (by omega)) ?_
  rintro _ _ _ ⟨rfl, rfl, rfl⟩
  simp -implicitDefEqProofs [go_sem]
  have hcs : (ss.map fun s => prC (newP z c s)).length = (zI ss).length := by rw [List.length_map, hsl]
  refine CC.mono (list_cc _ _ (H.length + 1) (zI ss) (ss.map fun s => prC (newP z c s)) (hget _ _ 1) hs.zI hcs (fun x hx => by obtain ⟨s, _, rfl⟩ := List.mem_map.1 hx; exact ⟨rfl, rfl⟩) (by omega)) ?_
  rintro _ _ _ ⟨v, rfl, rfl, rfl⟩
  simp -implicitDefEqProofs [go_sem]
  refine Wp.s ?_
  simp -implicitDefEqProofs [go_sem]
  refine Fin.pu (.tup (.cons (.agg (.cons (.refl _) (.cons ?_ .nil))) (.cons (.refl _) .nil))) (by simp [go_sem]) hokH (by simp) (by simp)
  rw [show (newT z ss c).peers.map prC = ss.map fun s => prC (newP z c s) by simp [newT]]
  exact .sh _ _ _
end Go.Proofs.YtpedbpbmnchllaaGreatDoor
namespace Go.Proofs.YtpedbpbmnchllaaGreatDoor
open Go.Proofs
theorem hsetB_ok {H : Hp} {V : List Nat} {b : Nat} {c : List CV} (hc : okL H.length V.length c) (hokH : ∀ (b : Nat) cs, H[b]? = some (some cs) → okL H.length V.length cs) (b' : Nat) (cs : List CV) (h : (H.set b (some c))[b']? = some (some cs)) : okL H.length V.length cs := by
  by_cases e : b = b'
  · subst e
    rw [List.getElem?_set] at h
    split at h
    · obtain rfl : c = cs := by
        split at h <;> simp_all
      exact hc
    · exact absurd rfl ‹_›
  · rw [List.getElem?_set_ne e] at h
    exact hokH _ _ h
theorem bmF_ld : ∀ (d : List Bm) (v : Nat) (h : v < d.length), ((bmF d).drop (v * 2)).take 2 = bmC d[v]
  | b :: d, 0, h => rfl
  | b :: d, v + 1, h => by
    have := bmF_ld d v (by simpa using h)
    rw [show bmF (b :: d) = bmC b ++ bmF d from rfl, show (v + 1) * 2 = 2 + v * 2 by omega, ← List.drop_drop, show (bmC b ++ bmF d).drop 2 = bmF d from rfl, this]
    rfl
theorem bmF_set : ∀ (d : List Bm) (v : Nat) (x : Bm) (h : v < d.length), (bmF d).take (v * 2) ++ (bmC x ++ (bmF d).drop (v * 2 + 2)) = bmF (d.set v x)
  | b :: d, 0, x, h => rfl
  | b :: d, v + 1, x, h => by
    have := bmF_set d v x (by simpa using h)
    rw [show bmF (b :: d) = bmC b ++ bmF d from rfl, show (v + 1) * 2 = v * 2 + 2 by omega, List.set_cons_succ, show bmF (b :: d.set v x) = bmC b ++ bmF (d.set v x) from rfl, ← this]
    rfl
def mkW (d : List Bm) (v s c : Nat) : List Bm := d.set v (setB (d.getD v ⟨1, 0⟩) s c)
theorem mkW_len (d : List Bm) (v s c : Nat) : (mkW d v s c).length = d.length := List.length_set ..
set_option maxRecDepth 8000 in
theorem mark_cc (H : Hp) (V : List Nat) (b : Nat) (d : List Bm) (w : Wr) (v s : Nat) (hb : H[b]? = some (some (bmF d))) (hwv : w.volume = v) (hws : w.start = s) (hv : v < d.length) (hd : BmOk d[v]) (hs : s + w.data.length ≤ d[v].n) : CC Tryz.prog 114 [.bsa b d.length 2, .sl .ti 3 [wrC w]] H V (fun r H' V' => r = .tup [.bsa b d.length 2, er 0] ∧ H' = H.set b (some (bmF (mkW d v s w.data.length))) ∧ V = V') := by
  refine CC.of_swp Tryz.func114 rfl (by kernel_rfl) (by rw [Tryz.ntmps114]; exact len_le _ _ rfl) fun hok hokH => ?_
  clear hok
  have hbl := (List.getElem?_eq_some_iff.1 hb).1
  have hwr : wrC w = [ci v, ci s, .sl .sh 8 (w.data.map secC)] := by rw [wrC, hwv, hws]
  have hdl := bmF_len d
  have hld := bmF_ld d v hv
  have hg : d.getD v ⟨1, 0⟩ = d[v] := by rw [List.getD_eq_getElem?_getD, List.getElem?_eq_getElem hv]; rfl
  have hst := bmF_set d v (setB d[v] s w.data.length) hv
  rw [hwr]
  refine SWp.seq (Wp.s ?_)
  simp -implicitDefEqProofs [go_sem, args0]
  obtain ⟨H1, hH1⟩ : ∃ H1, H1 = H.set b (some (bmF (mkW d v s w.data.length))) := ⟨_, rfl⟩
  have hH1l : H1.length = H.length := by rw [hH1, List.length_set]
  rw [← hH1]
  refine SWp.join (α := Unit) (fun _ => ([(0, .bsa b d.length 2)], H1, V)) (fun _ => True) ?_ ?_
  · refine SWp.seq (Wp.s ?_)
    simp -implicitDefEqProofs [go_sem]
    refine SWp.block ?_
    refine SWp.loop (α := Nat) (fun i => ([(0, .bsa b d.length 2), (10, .sl .sh 3 [[ci v, ci s, .sl .sh 8 (w.data.map secC)]]), (11, ci 1), (12, ci i)], if i = 0 then H else H1, V)) (fun i => i ≤ 1) (fun i => 1 - i) 0 (Nat.zero_le _) (Sh.forget (by simp [go_sem]) rfl rfl) ?_
    intro i hi
    dsimp only
    rcases (show i = 1 ∨ i = 0 by omega) with rfl | rfl
    · refine SWp.seq (Wp.s ?_)
      simp -implicitDefEqProofs [go_sem]
      refine SWp.seq (Wp.s ?_)
      simp -implicitDefEqProofs [go_sem]
      exact Sh.forget (by simp [go_sem]) rfl rfl
    · rw [if_pos rfl]
      refine SWp.seq (Wp.s ?_)
      simp -implicitDefEqProofs [go_sem]
      refine SWp.seq (Wp.s ?_)
      simp -implicitDefEqProofs [go_sem]
      refine SWp.seq (SWp.block (SWp.seq (Wp.s ?_)))
      simp -implicitDefEqProofs [go_sem]
      have hb1 : ∀ L : Hp, (H ++ L)[b]? = some (some (bmF d)) := fun L => by rw [List.getElem?_append_left hbl]; exact hb
      refine SWp.seq (SWp.drawnT [] [16] (.s 0 .pl <| .s 1 .pl <| .s 2 .pl <| .s 3 .pl <| .s 4 .pl <| .s 5 .pl <| .s 6 .pl <| .s 7 .pl <| .s 8 .pl <| .s 9 .pl <| .s 10 .pl <| .c 11 <| .s 12 .pl <| .s 13 .pl <| .s 14 .pl <| .s 15 .pl <| .s 16 .st <| .s 17 .pl <| .n) (by kernel_rfl) (by kernel_rfl) ?_)
      simp -implicitDefEqProofs [go_sem, hv, hbx_of (hb1 _), hld, hdl]
      refine ⟨by omega, .tup [.agg (bmC (setB d[v] s w.data.length)), er 0], fun H V => bmSet_cc H V d[v] s w.data.length hd hs, ?_⟩
      simp -implicitDefEqProofs [go_sem]
      refine SWp.seq (SWp.seq (Wp.s ?_))
      simp -implicitDefEqProofs [go_sem]
      refine Wp.s ?_
      simp -implicitDefEqProofs [go_sem]
      refine Wp.s ?_
      simp -implicitDefEqProofs [go_sem, hv, hbx_of (hb1 _), hdl]
      refine ⟨by omega, ?_⟩
      refine Wp.s ?_
      simp -implicitDefEqProofs [go_sem]
      refine ⟨1, by omega, by omega, ?_⟩
      rw [if_neg (by decide)]
      have hokb : okL H.length V.length (bmF (mkW d v s w.data.length)) := of_eq_true (okL_bmF _ _ _)
      refine Sh.cut H.length V.length (T' := [(0, .bsa b d.length 2), (10, .sl .sh 3 [[ci v, ci s, .sl .sh 8 (w.data.map secC)]]), (11, ci 1), (12, ci 1)]) ?_ (Nat.le_refl _) (Nat.le_refl _) ?_ ?_ ?_ (by simp)
      · simp [go_sem]
        rw [show IntKind.i64.wrap (1 : Int) = 1 from rfl]
        exact .refl _
      · refine TOk.all ?_
        simp [go_sem, okE_secs]
        rw [okV]; exact hbl
      · rw [hH1]; exact hsetB_ok hokb hokH
      · rw [List.take_set, List.take_left, hH1, mkW, hg, hst]
  rintro _ -
  dsimp only
  refine SWp.seq (Wp.s ?_)
  simp -implicitDefEqProofs [go_sem]
  refine Wp.s ?_
  simp -implicitDefEqProofs [go_sem]
  have hokb : okL H.length V.length (bmF (mkW d v s w.data.length)) := of_eq_true (okL_bmF _ _ _)
  refine Fin.cut H.length V.length ⟨rfl, hH1.symm ▸ rfl, rfl⟩ (Nat.le_refl _) (Nat.le_refl _) (List.take_of_length_le (by omega)) (by simp) (.refl _) ?_ ?_
  · simp [go_sem]
    rw [okV]; exact hbl
  · rw [hH1]; exact hsetB_ok hokb hokH
end Go.Proofs.YtpedbpbmnchllaaGreatDoor
namespace Go.Proofs.YtpedbpbmnchllaaGreatDoor
open Go.Proofs
@[go_sem, simp] theorem prC_take2 (p : Pee) : (prC p).take 2 = [ci p.site, ci p.common] := rfl
def valC (p : Pee) (b : Nat) : List CV := [ci p.site, ci p.common, .bsa b p.dirty.length 2]
structure OpM (prs : List Pee) (bs : List Nat) (lo m : Nat) (G : Hp) : Prop where
  map : G[m]? = some (some [.objm (prs.map fun p => (p.site : Int)) ((List.zipWith valC prs bs).map .agg)])
  len : bs.length = prs.length
  nd : bs.Nodup
  ge : ∀ b ∈ bs, lo ≤ b
  box : ∀ i (h : i < bs.length) (h2 : i < prs.length), G[bs[i]]? = some (some (bmF prs[i].dirty))
theorem zipWith_snoc {α β γ : Type} (f : α → β → γ) : ∀ (a : List α) (b : List β) (x : α) (y : β), a.length = b.length → List.zipWith f (a ++ [x]) (b ++ [y]) = List.zipWith f a b ++ [f x y]
  | [], [], x, y, _ => rfl
  | a :: l, b :: m, x, y, h => by simp [zipWith_snoc f l m x y (by simpa using h)]
  | [], _ :: _, _, _, h => by simp at h
  | _ :: _, [], _, _, h => by simp at h
theorem OpM.snoc {prs : List Pee} {bs : List Nat} {lo m : Nat} {G G' : Hp} {p : Pee} {b : Nat} (h : OpM prs bs lo m G) (hm : m < lo) (hb : G.length ≤ b) (hlo : lo ≤ G.length) (hmap : G'[m]? = some (some [.objm ((prs.map fun p => (p.site : Int)) ++ [(p.site : Int)]) ((List.zipWith valC prs bs).map .agg ++ [.agg (valC p b)])]))
    (hbox : G'[b]? = some (some (bmF p.dirty))) (hold : ∀ k, lo ≤ k → k < G.length → G'[k]? = G[k]?) : OpM (prs ++ [p]) (bs ++ [b]) lo m G' where
  map := by rw [hmap, zipWith_snoc _ _ _ _ _ h.len.symm, List.map_append, List.map_append]; rfl
  len := by simp [h.len]
  nd := by
    rw [List.nodup_append]
    refine ⟨h.nd, by simp, fun x hx y hy e => ?_⟩
    obtain rfl : y = b := by simpa using hy
    subst e
    obtain ⟨i, hi, rfl⟩ := List.getElem_of_mem hx
    have := (List.getElem?_eq_some_iff.1 (h.box i hi (by rw [← h.len]; exact hi))).1
    omega
  ge x hx := by
    rcases List.mem_append.1 hx with hx | hx
    · exact h.ge x hx
    · obtain rfl : x = b := by simpa using hx
      omega
  box i h1 h2 := by
    rw [List.length_append, List.length_singleton] at h1 h2
    by_cases hi : i < bs.length
    · have hi2 : i < prs.length := by rw [← h.len]; exact hi
      have hbi := h.box i hi hi2
      rw [List.getElem_append_left hi, List.getElem_append_left hi2, hold _ (h.ge _ (List.getElem_mem hi)) (List.getElem?_eq_some_iff.1 hbi).1]
      exact hbi
    · obtain rfl : i = bs.length := by omega
      have e1 : (bs ++ [b])[bs.length]'(by simp) = b := by simp
      have e2 : (prs ++ [p])[bs.length]'(by simp [h.len]) = p := by simp [h.len]
      rw [e1, e2]; exact hbox
def OpR (prs : List Pee) (H : Hp) (V : List Nat) : CV → Hp → List Nat → Prop := fun r H' V' => ∃ bs, r = .mv (H.length + 1) ∧ H.length + 2 ≤ H'.length ∧ H'.take H.length = H ∧ V' = V ∧ OpM prs bs (H.length + 2) (H.length + 1) H'
set_option maxRecDepth 8000 in
theorem tkOpen_cc (H : Hp) (V : List Nat) (t : Trk) (ht : TrkOk t) : CC Tryz.prog 91 [.agg (trkC t)] H V (OpR t.peers H V) := by
  refine CC.of_swp Tryz.func91 rfl (by kernel_rfl) (by rw [Tryz.ntmps91]; exact len_le _ _ rfl) fun hok hokH => ?_
  clear hok
  have h4 := ht.few
  have h8 := ht.z.few
  have h1z := ht.z.lo
  have hinc : ∀ j i (hj : j < t.peers.length) (hi : i < j), t.peers[i].site < t.peers[j].site := by
    intro j
    induction j with
    | zero => intro i _ hi; omega
    | succ j ih =>
      intro i hj hi
      have h1 := ht.inc j hj
      rcases Nat.lt_or_ge i j with h2 | h2
      · have := ih i (by omega) h2; omega
      · obtain rfl : i = j := by omega
        exact h1
  refine SWp.seq (Wp.s ?_)
  simp -implicitDefEqProofs [go_sem, args0]
  refine SWp.seq (Wp.s ?_)
  simp -implicitDefEqProofs [go_sem]
  refine SWp.join (α := Hp × List Nat) (fun x => ([(3, .mv (H.length + 1))], x.1, V)) (fun x => H.length + 2 ≤ x.1.length ∧ x.1.take H.length = H ∧ OpM t.peers x.2 (H.length + 2) (H.length + 1) x.1) ?_ ?_
  · refine SWp.seq (Wp.s ?_)
    simp -implicitDefEqProofs [go_sem]
    refine SWp.block ?_
    refine SWp.loop (α := Nat × Hp × List Nat) (fun x => ([(3, .mv (H.length + 1)), (8, .sl .sh 3 (t.peers.map prC)), (9, ci t.peers.length), (10, ci x.1)], x.2.1, V)) (fun x => x.1 ≤ t.peers.length ∧ H.length + 2 ≤ x.2.1.length ∧ x.2.1.take H.length = H ∧ OpM (t.peers.take x.1) x.2.2 (H.length + 2) (H.length + 1) x.2.1) (fun x => t.peers.length - x.1) (0, H ++ [some (trkC t), some [.objm [] []]], []) ⟨Nat.zero_le _, by simp, by simp, ⟨hget _ _ 1, rfl, List.nodup_nil, by simp, fun i h => by simp at h⟩⟩ (Sh.forget (by simp [go_sem]) rfl rfl) ?_
    rintro ⟨i, G, bs⟩ ⟨hi, hG, hGH, hop⟩
    dsimp only at hi hG hGH hop ⊢
    refine SWp.seq (Wp.s ?_)
    simp -implicitDefEqProofs [go_sem]
    refine SWp.seq (Wp.s ?_)
    simp -implicitDefEqProofs [go_sem]
    refine ⟨fun h => ?_, fun h => ?_⟩
    case refine_2 =>
      rw [List.take_of_length_le (by omega)] at hop
      exact ⟨G, ⟨hG, hGH, bs, hop⟩, Sh.forget (by simp [go_sem]) rfl rfl⟩
    obtain ⟨p1, p2, p3, p4⟩ := ht.ok t.peers[i] (List.getElem_mem h)
    have htk := List.take_succ_eq_append_getElem h
    have hno : keyAt ((t.peers.take i).map fun p => (p.site : Int)) (t.peers[i].site : Int) = none := by
      rw [keyAt, List.findIdx?_eq_none_iff]
      intro x hx
      obtain ⟨n, hn, rfl⟩ := List.mem_map.1 hx
      obtain ⟨j, hj, rfl⟩ := List.mem_take_iff_getElem.1 hn
      have := hinc i j h (by omega)
      simp; omega
    refine SWp.seq (SWp.block (SWp.seq (Wp.s ?_)))
    simp -implicitDefEqProofs [go_sem, h]
    refine SWp.seq (Wp.s ?_)
    simp -implicitDefEqProofs [go_sem]
    refine CC.mono (tkOwnAll_cc _ _ t.peers[i].dirty (by rw [p4.len]; omega)) ?_
    rintro _ _ V1 ⟨W, rfl, hV, hW⟩
    rw [hV]
    clear hV V1
    rcases hW with ⟨_, hne⟩ | ⟨j, hne, rfl, hj⟩
    · have := p4.len
      rw [hne] at this; simp at this; omega
    simp -implicitDefEqProofs [go_sem]
    have hml : H.length + 1 < G.length := by omega
    have hm1 : ∀ (L : Hp), (G ++ L)[H.length + 1]? = some (some [.objm ((t.peers.take i).map fun p => (p.site : Int)) ((List.zipWith valC (t.peers.take i) bs).map .agg)]) := fun L => by rw [List.getElem?_append_left hml]; exact hop.map
    have hput : ∀ y vs, mput ((t.peers.take i).map fun p => (p.site : Int)) vs (t.peers[i].site : Int) y = .objm (((t.peers.take i).map fun p => (p.site : Int)) ++ [(t.peers[i].site : Int)]) (vs ++ [y]) := fun y vs => by rw [mput, hno]
    obtain ⟨ks, hks⟩ : ∃ ks, ks = (t.peers.take i).map fun p => (p.site : Int) := ⟨_, rfl⟩
    obtain ⟨vs, hvs⟩ : ∃ vs, vs = (List.zipWith valC (t.peers.take i) bs).map CV.agg := ⟨_, rfl⟩
    rw [← hks, ← hvs] at hm1
    rw [← hks] at hput
    refine Wp.s ?_
    simp -implicitDefEqProofs [go_sem, hbm_some (hm1 _), hput]
    refine Wp.s ?_
    simp -implicitDefEqProofs [go_sem]
    have hjl := (List.getElem?_eq_some_iff.1 hj).1
    refine ⟨i + 1, _, ⟨by omega, ?_, ?_, bs ++ [G.length + 1 + j], ?_⟩, by omega, Sh.forget ?_ rfl rfl⟩
    · simp; omega
    · rw [List.take_set_of_le (by omega), List.take_append_of_le_length (by omega)]; exact hGH
    · rw [htk]
      refine hop.snoc (by omega) (by omega) hG ?_ ?_ fun k hk1 hk2 => ?_
      · rw [List.getElem?_set_self (by simp; omega), hks, hvs]; rfl
      · rw [List.getElem?_set_ne (by omega), List.getElem?_append_right (by omega), show G.length + 1 + j - G.length = j + 1 by omega]
        simpa using hj
      · rw [List.getElem?_set_ne (by omega), List.getElem?_append_left hk2]
    · simp [go_sem, wrap_succ (show i ≤ 1000000000 by omega)]
  rintro ⟨G, bs⟩ ⟨hG, hGH, hop⟩
  dsimp only at hG hGH hop ⊢
  refine SWp.seq (Wp.s ?_)
  simp -implicitDefEqProofs [go_sem]
  refine Wp.s ?_
  simp -implicitDefEqProofs [go_sem]
  exact Fin.self ⟨bs, rfl, hG, hGH, rfl, hop⟩
end Go.Proofs.YtpedbpbmnchllaaGreatDoor
namespace Go.Proofs.YtpedbpbmnchllaaGreatDoor
open Go.Proofs
def valB (p : Pee) (b : Nat) : List CV := [ci p.site, ci p.common, .bsl b 0 p.dirty.length 2]
theorem valC_leB : ∀ (l : List Pee) (bs : List Nat), LeE (List.zipWith valC l bs) (List.zipWith valB l bs)
  | [], _ => .nil
  | _ :: _, [] => .nil
  | p :: l, b :: bs => .cons (.cons (.refl _) (.cons (.refl _) (.cons (.bsa _ _ _) .nil))) (valC_leB l bs)
theorem gst_prs {n nb nv lo : Nat} {V : List Nat} {zc ec : CV} : ∀ (l d : List Pee) (bs : List Nat) (H : Hp), l.length = bs.length → bs.Nodup → (∀ b ∈ bs, lo ≤ b) → (∀ i (h : i < bs.length) (h2 : i < l.length), H[bs[i]]? = some (some (bmF l[i].dirty))) →
    ∃ H' : Hp, H'.take lo = H.take lo ∧ Gst n nb nv [(0, .tup [.agg [zc, .sl .sh 3 (d.map prC ++ List.zipWith valB l bs)], ec])] H V [(0, .tup [.agg [zc, .sl .sh 3 ((d ++ l).map prC)], ec])] H' V
  | [], d, bs, H, hl, hn, hg, h => ⟨H, rfl, Gst.forget fun p hp => by
      obtain rfl : p = _ := by simpa using hp
      simp only [tget, if_pos, List.zipWith_nil_left, List.append_nil]
      exact .refl _⟩
  | p :: l, d, [], H, hl, hn, hg, h => by simp at hl
  | p :: l, d, b :: bs, H, hl, hn, hg, h => by
    have h0 : H[b]? = some (some (bmF p.dirty)) := h 0 (by simp) (by simp)
    rw [List.nodup_cons] at hn
    obtain ⟨H', h1, h2⟩ := gst_prs (n := n) (nb := nb) (nv := nv) (lo := lo) (V := V) (zc := zc) (ec := ec) l (d ++ [p]) bs (H.set b none) (by simpa using hl) hn.2 (fun x hx => hg x (by simp [hx])) (fun i hi hi2 => by
      rw [List.getElem?_set_ne (fun e : b = bs[i] => hn.1 (by rw [e]; exact List.getElem_mem hi))]
      have := h (i + 1) (by simpa using hi) (by simpa using hi2)
      simpa using this)
    refine ⟨H', by rw [h1, List.take_set_of_le (hg b (by simp))], Gst.trans (T' := [(0, .tup [.agg [zc, .sl .sh 3 (d.map prC ++ (prC p :: List.zipWith valB l bs))], ec])]) (Gst.freezeY h0 fun q hq => ?_) ?_⟩
    · obtain rfl : q = _ := by simpa using hq
      simp only [tget, if_pos, List.zipWith_cons_cons]
      have := Fy.bsl (b := b) (cs := bmF p.dirty) 0 p.dirty.length 2 (by rw [bmF_len]; omega)
      rw [List.drop_zero, chunks_bmF] at this
      exact .tup (.cons (.agg (.cons (.refl _) (.cons (.sl _ _ (FyE.appI (FyE.rflI _ _ _) (.cons (.cons (.refl _) (.cons (.refl _) (.cons this .nil))) (FyE.rflI _ _ _)))) .nil))) (.cons (.refl _) .nil))
    · have e1 : d.map prC ++ (prC p :: List.zipWith valB l bs) = (d ++ [p]).map prC ++ List.zipWith valB l bs := by simp
      rw [e1]
      rw [List.append_assoc] at h2
      exact h2
theorem fin_prs {H G : Hp} {V V' : List Nat} {prs : List Pee} {bs : List Nat} {lo m : Nat} {z : List Nat} (h : OpM prs bs lo m G) (hlo : H.length ≤ lo) (hG : G.take H.length = H) (hokH : ∀ (b : Nat) cs, H[b]? = some (some cs) → okL H.length V.length cs) (hV : V'.take V.length = V) :
    Fin H.length V.length (Pu (.tup [.agg (trkC ⟨z, prs⟩), er 0]) H V) (.tup [.agg [.sl .sh 1 ((zI z).map ic), .sl .sh 3 (List.zipWith valC prs bs)], er 0]) G V' := by
  obtain ⟨H', h1, h2⟩ := gst_prs (n := 1) (nb := H.length) (nv := V.length) (lo := lo) (V := V') (zc := .sl .sh 1 ((zI z).map ic)) (ec := er 0) prs [] bs G h.len.symm h.nd h.ge h.box
  have hH' : H'.take H.length = H := by
    have := congrArg (List.take H.length) h1
    rw [List.take_take, List.take_take, Nat.min_eq_left hlo] at this
    rw [this, hG]
  refine ⟨_, H, V, Gst.trans (Gst.forget (T' := [(0, .tup [.agg [.sl .sh 1 ((zI z).map ic), .sl .sh 3 (([] : List Pee).map prC ++ List.zipWith valB prs bs)], er 0])]) fun p hp => ?_) (Gst.trans h2 ?_), ⟨rfl, rfl, rfl⟩⟩
  · obtain rfl : p = _ := by simpa using hp
    exact .tup (.cons (.agg (.cons (.refl _) (.cons (.sle _ _ (valC_leB prs bs)) .nil))) (.cons (.refl _) .nil))
  · have := Gst.cut (n := 1) (nb := H.length) (nv := V.length) (T := [(0, .tup [.agg (trkC ⟨z, prs⟩), er 0])]) (H := H') (V := V') H.length V.length (Nat.le_refl _) (Nat.le_refl _) (fun p hp => by simp at hp; subst hp; simp [go_sem]) (by rw [hH']; exact hokH)
    rwa [hH', hV] at this
def IncP (prs : List Pee) : Prop := IncI (prs.map fun p => (p.site : Int))
theorem TrkOk.incP {t : Trk} (ht : TrkOk t) : IncP t.peers := fun i h => by
  have h' : i + 1 < t.peers.length := by simpa using h
  have := ht.inc i h'
  simp; omega
theorem closed_cc (H : Hp) (V : List Nat) (t : Trk) (ht : TrkOk t) (prs : List Pee) (bs : List Nat) (lo m : Nat) (hop : OpM prs bs lo m H) (hi : IncP prs) (hp : prs.length ≤ 1000) : CC Tryz.prog 115 [.agg (trkC t), .mv m] H V (Pu (.agg [.sl .sh 1 ((zI t.z).map ic), .sl .sh 3 (List.zipWith valC prs bs)]) H V) := by
  refine CC.of_swp Tryz.func115 rfl (by kernel_rfl) (by rw [Tryz.ntmps115]; exact len_le _ _ rfl) fun hok hokH => ?_
  clear hok
  have h8 := ht.z.few
  have hzl := zI_len t.z
  have hml := (List.getElem?_eq_some_iff.1 hop.map).1
  refine SWp.seq (Wp.s ?_)
  simp -implicitDefEqProofs [go_sem, args0]
  refine SWp.seq (Wp.s ?_)
  simp -implicitDefEqProofs [go_sem]
  refine CC.mono (vcloneInt_cc _ _ .sh (zI t.z) (by omega)) ?_
  rintro _ _ _ ⟨rfl, rfl, rfl⟩
  simp -implicitDefEqProofs [go_sem]
  refine CC.mono (list_cc _ _ m (prs.map fun (p : Pee) => (p.site : Int)) (List.zipWith valC prs bs) (by rw [List.getElem?_append_left hml]; exact hop.map) hi (by simp [hop.len]) (fun x hx => ?_) (by simpa using hp)) ?_
  · obtain ⟨i, hi, rfl⟩ := List.getElem_of_mem hx
    simp [valC, allOne, CV.one]
    exact ⟨rfl, rfl⟩
  rintro _ _ _ ⟨v, rfl, rfl, rfl⟩
  simp -implicitDefEqProofs [go_sem]
  refine Wp.s ?_
  simp -implicitDefEqProofs [go_sem]
  refine Fin.pu (.agg (.cons (.refl _) (.cons (.sh _ _ _) .nil))) ?_ hokH (by simp) (by simp)
  have hok := okL_objm (hokH _ _ hop.map)
  simp [go_sem, okE_ints]
  exact hok
end Go.Proofs.YtpedbpbmnchllaaGreatDoor
namespace Go.Proofs.YtpedbpbmnchllaaGreatDoor
open Go.Proofs
def pMk (v s c : Nat) (p : Pee) : Pee := ⟨p.site, p.common, mkW p.dirty v s c⟩
def tMk (t : Trk) (v s c : Nat) : Trk := ⟨t.z, t.peers.map (pMk v s c)⟩
theorem mkW_ok {z : List Nat} {d : List Bm} {v s c : Nat} (hd : DirtyOk z d) (hv : v < z.length) (hs : s + c ≤ z[v]) : DirtyOk z (mkW d v s c) := ⟨by rw [mkW_len, hd.len], fun i h h2 => by
  have h0 : i < d.length := by rwa [mkW_len] at h
  have hvd : v < d.length := by rw [hd.len]; exact hv
  by_cases e : v = i
  · subst e
    obtain ⟨a, b⟩ := hd.ok v h0 h2
    have hg : d.getD v ⟨1, 0⟩ = d[v] := by rw [List.getD_eq_getElem?_getD, List.getElem?_eq_getElem h0]; rfl
    simp only [mkW, List.getElem_set_self, hg]
    exact ⟨setB_ok a (by rw [b]; exact hs), b⟩
  · simp only [mkW, List.getElem_set_ne e]
    exact hd.ok i h0 h2⟩
theorem tMk_ok {t : Trk} {v s c : Nat} (ht : TrkOk t) (hv : v < t.z.length) (hs : s + c ≤ t.z[v]) : TrkOk (tMk t v s c) where
  z := ht.z
  few := by simpa [tMk] using ht.few
  ok p hp := by
    obtain ⟨q, hq, rfl⟩ := List.mem_map.1 hp
    obtain ⟨a, b, c, d⟩ := ht.ok q hq
    exact ⟨a, b, c, mkW_ok d hv hs⟩
  inc i h := by
    have h' : i + 1 < t.peers.length := by simpa [tMk] using h
    have := ht.inc i h'
    simpa [tMk, pMk] using this
theorem fitsI_z {z : List Nat} {w : Wr} {v s : Nat} (hz : SzOkN z) (hwv : w.volume = v) (hws : w.start = s) (hv : v < z.length) (h0 : 0 < w.data.length) (hs : s + w.data.length ≤ z[v]) : fitsI (imOf (zI z)) w = 0 := by
  have hg : (zI z).getD v 0 = (z[v] : Int) := by
    rw [List.getD_eq_getElem?_getD, List.getElem?_eq_getElem (by rw [zI_len]; exact hv)]; simp [zI]
  rw [fitsI, imgSz_of hz.sizes, hz.sizes, if_neg (by simp), fitsS, zI_len, hwv, hws, Int.toNat_natCast, hg, if_neg (by omega), if_neg (by omega), if_neg (by omega)]
def Seen (v s c : Nat) (prs cur : List Pee) (seen : List Nat) : Prop := cur.length = prs.length ∧ ∀ i (h : i < cur.length) (h2 : i < prs.length), (i ∈ seen → cur[i] = pMk v s c prs[i]) ∧ (i ∉ seen → cur[i] = prs[i])
theorem Seen.all {v s c : Nat} {prs cur : List Pee} {seen : List Nat} (h : Seen v s c prs cur seen) (ha : ∀ i, i < prs.length → i ∈ seen) : cur = prs.map (pMk v s c) := by
  refine List.ext_getElem (by simp [h.1]) fun i h1 h2 => ?_
  have h3 : i < prs.length := by rw [← h.1]; exact h1
  rw [(h.2 i h1 h3).1 (ha i h3)]; simp
theorem Seen.more {v s c : Nat} {prs cur : List Pee} {seen : List Nat} (h : Seen v s c prs cur seen) (i : Nat) (hi : i < cur.length) (hn : i ∉ seen) : Seen v s c prs (cur.set i (pMk v s c cur[i])) (seen ++ [i]) := by
  refine ⟨by rw [List.length_set]; exact h.1, fun j h1 h2 => ?_⟩
  have h1' : j < cur.length := by rwa [List.length_set] at h1
  obtain ⟨a, b⟩ := h.2 j h1' h2
  by_cases e : i = j
  · subst e
    refine ⟨fun _ => by rw [List.getElem_set_self, b hn], fun hx => absurd (by simp) hx⟩
  · refine ⟨fun hx => ?_, fun hx => ?_⟩
    · rw [List.getElem_set_ne e]
      refine a ?_
      rcases List.mem_append.1 hx with hx | hx
      · exact hx
      · exact absurd (by simpa using hx) (fun q : j = i => e q.symm)
    · rw [List.getElem_set_ne e]
      exact b fun q => hx (by simp [q])
theorem Seen.sites {v s c : Nat} {prs cur : List Pee} {seen : List Nat} (h : Seen v s c prs cur seen) : (cur.map fun (p : Pee) => (p.site : Int)) = prs.map fun (p : Pee) => (p.site : Int) := by
  refine List.ext_getElem (by simp [h.1]) fun i h1 h2 => ?_
  have h1' : i < cur.length := by simpa using h1
  have h2' : i < prs.length := by simpa using h2
  obtain ⟨a, b⟩ := h.2 i h1' h2'
  by_cases hs : i ∈ seen
  · simp [a hs, pMk]
  · simp [b hs]
theorem OpM.mark {cur : List Pee} {bs : List Nat} {lo m v s c : Nat} {G G' : Hp} (h : OpM cur bs lo m G) (i : Nat) (hi : i < cur.length) (hib : i < bs.length) (hm : G'[m]? = G[m]?) (hb : G'[bs[i]]? = some (some (bmF (mkW cur[i].dirty v s c)))) (ho : ∀ k, k ∈ bs → k ≠ bs[i] → G'[k]? = G[k]?) : OpM (cur.set i (pMk v s c cur[i])) bs lo m G' where
  map := by
    rw [hm, h.map]
    have e1 : ((cur.set i (pMk v s c cur[i])).map fun (p : Pee) => (p.site : Int)) = cur.map fun (p : Pee) => (p.site : Int) := by
      rw [List.map_set]
      refine List.ext_getElem (by simp) fun j h1 h2 => ?_
      by_cases e : i = j
      · subst e; simp [pMk]
      · simp [List.getElem_set_ne e]
    have e2 : List.zipWith valC (cur.set i (pMk v s c cur[i])) bs = List.zipWith valC cur bs := by
      refine List.ext_getElem (by simp) fun j h1 h2 => ?_
      by_cases e : i = j
      · subst e; simp [valC, pMk, mkW_len]
      · simp [List.getElem_set_ne e]
    rw [e1, e2]
  len := by rw [List.length_set]; exact h.len
  nd := h.nd
  ge := h.ge
  box j h1 h2 := by
    have h2' : j < cur.length := by rwa [List.length_set] at h2
    by_cases e : i = j
    · subst e
      rw [hb]; simp [pMk]
    · have hne : bs[j] ≠ bs[i] := fun q => e ((List.getElem_inj h.nd).1 q).symm
      rw [ho _ (List.getElem_mem h1) hne, h.box j h1 h2', List.getElem_set_ne e]
end Go.Proofs.YtpedbpbmnchllaaGreatDoor
namespace Go.Proofs.YtpedbpbmnchllaaGreatDoor
open Go.Proofs
theorem OpM.keep {prs : List Pee} {bs : List Nat} {lo m : Nat} {G G' : Hp} (h : OpM prs bs lo m G) (hm : G'[m]? = G[m]?) (ho : ∀ k : Nat, k ∈ bs → G'[k]? = G[k]?) : OpM prs bs lo m G' :=
  ⟨hm.trans h.map, h.len, h.nd, h.ge, fun i a b => (ho _ (List.getElem_mem a)).trans (h.box i a b)⟩
theorem OpM.lt {prs : List Pee} {bs : List Nat} {lo m : Nat} {G : Hp} (h : OpM prs bs lo m G) (k : Nat) (hk : k ∈ bs) : k < G.length := by
  obtain ⟨i, hi, rfl⟩ := List.getElem_of_mem hk
  exact (List.getElem?_eq_some_iff.1 (h.box i hi (by rw [← h.len]; exact hi))).1
theorem OpM.mlt {prs : List Pee} {bs : List Nat} {lo m : Nat} {G : Hp} (h : OpM prs bs lo m G) : m < G.length := (List.getElem?_eq_some_iff.1 h.map).1
@[go_sem, simp] theorem valC_len (p : Pee) (b : Nat) : (valC p b).length = 3 := rfl
@[go_sem, simp] theorem valC_all (p : Pee) (b : Nat) : allOne (valC p b) = true := rfl
@[go_sem, simp] theorem valC_take (p : Pee) (b : Nat) : (valC p b).take 3 = valC p b := rfl
@[go_sem, simp] theorem valC_take2 (p : Pee) (b : Nat) : (valC p b).take 2 = [ci p.site, ci p.common] := rfl
@[go_sem, simp] theorem valC_drop (p : Pee) (b : Nat) : (valC p b).drop 3 = [] := rfl
@[go_sem, simp] theorem valC_2 (p : Pee) (b : Nat) (h : 2 < (valC p b).length) : (valC p b)[2] = .bsa b p.dirty.length 2 := rfl
set_option maxRecDepth 8000 in
set_option maxHeartbeats 1600000 in
theorem tkWrite_cc (H : Hp) (V : List Nat) (t : Trk) (w : Wr) (v s : Nat) (ht : TrkOk t) (hwv : w.volume = v) (hws : w.start = s) (hv : v < t.z.length) (h0 : 0 < w.data.length) (hs : s + w.data.length ≤ t.z[v]) : CC Tryz.prog 76 [.agg (trkC t), .agg (wrC w)] H V (Pu (.tup [.agg (trkC (tMk t v s w.data.length)), er 0]) H V) := by
  refine CC.of_swp Tryz.func76 rfl (by kernel_rfl) (by rw [Tryz.ntmps76]; exact len_le _ _ rfl) fun hok hokH => ?_
  clear hok
  have h8 := ht.z.few
  have h4 := ht.few
  have hzl := zI_len t.z
  have hz := ht.z.sizes
  have hfit := fitsI_z ht.z hwv hws hv h0 hs
  have hzv := (ht.z.ok t.z[v] (List.getElem_mem hv)).2
  refine SWp.seq (Wp.s ?_)
  simp -implicitDefEqProofs [go_sem, args0]
  refine SWp.seq (Wp.s ?_)
  simp -implicitDefEqProofs [go_sem]
  refine CC.mono (tkCheck_cc _ _ t ht) ?_
  rintro _ _ _ ⟨rfl, rfl, rfl⟩
  simp -implicitDefEqProofs [go_sem]
  refine SWp.seq (Wp.s ?_)
  simp -implicitDefEqProofs [go_sem]
  refine CC.mono (New_cc _ _ .sh (zI t.z) (by omega)) ?_
  rintro _ _ _ ⟨rfl, rfl, rfl⟩
  rw [hz]
  simp -implicitDefEqProofs [go_sem]
  refine SWp.seq (SWp.seq (Wp.s ?_))
  simp -implicitDefEqProofs [go_sem]
  refine Wp.s ?_
  simp -implicitDefEqProofs [go_sem]
  refine SWp.seq (SWp.seq (Wp.s ?_))
  simp -implicitDefEqProofs [go_sem]
  refine CC.mono (Fits_cc _ _ .sh (imOf (zI t.z)) w ?_ ?_ ?_) ?_
  · rw [imOf_len, hzl]; omega
  · intro x hx
    obtain ⟨n, hn, rfl⟩ := List.mem_map.1 hx
    obtain ⟨k, hk, rfl⟩ := List.mem_map.1 hn
    have := (ht.z.ok k hk).2
    simp [zer]; omega
  · omega
  rintro _ _ _ ⟨rfl, rfl, rfl⟩
  rw [hfit]
  simp -implicitDefEqProofs [go_sem]
  refine SWp.seq (Wp.s ?_)
  simp -implicitDefEqProofs [go_sem]
  refine Wp.s ?_
  simp -implicitDefEqProofs [go_sem]
  refine SWp.seq (Wp.s ?_)
  simp -implicitDefEqProofs [go_sem]
  refine CC.mono (tkOpen_cc _ _ t ht) ?_
  rintro _ G0 V1 ⟨bs, rfl, hGl, hGH, hV, hop⟩
  rw [hV]
  clear hV V1
  simp only [List.length_append, List.length_cons, List.length_nil] at hGl hGH hop ⊢
  simp -implicitDefEqProofs [go_sem]
  obtain ⟨m, hm⟩ : ∃ m, m = H.length + 3 + 1 := ⟨_, rfl⟩
  rw [← hm] at hop ⊢
  have hbq : ∀ i (h : i < bs.length), bs[i] < G0.length := fun i h => (List.getElem?_eq_some_iff.1 (hop.box i h (by rw [← hop.len]; exact h))).1
  have hinc := ht.incP
  refine SWp.join (α := Hp × List Pee) (fun x => ([(2, .ptr H.length 0), (4, .ptr (H.length + 2) 0), (10, .mv m)], x.1, V)) (fun x => x.1.take (H.length + 3) = H ++ [some (trkC t), some (wrC w), some [.v (.slice none 0 0), .v (.slice none 0 0)]] ∧ OpM x.2 bs (H.length + 3 + 2) m x.1 ∧ x.2 = t.peers.map (pMk v s w.data.length)) ?_ ?_
  · refine SWp.seq (Wp.s ?_)
    simp -implicitDefEqProofs [go_sem, hbm_some hop.map]
    refine SWp.block ?_
    refine SWp.loop (α := List Nat × Hp × List Pee) (fun x => ([(2, .ptr H.length 0), (3, .ptr (H.length + 1) 0), (4, .ptr (H.length + 2) 0), (10, .mv m), (39, .it G0.length)], x.2.1, V)) (fun x => x.2.1.take (H.length + 3) = H ++ [some (trkC t), some (wrC w), some [.v (.slice none 0 0), .v (.slice none 0 0)]] ∧ OpM x.2.2 bs (H.length + 3 + 2) m x.2.1 ∧ x.2.1[G0.length]? = some (some [.obji m t.peers.length x.1]) ∧ Seen v s w.data.length t.peers x.2.2 x.1 ∧ ∀ i ∈ x.1, i < t.peers.length) (fun x => uns x.1 (List.range t.peers.length)) ([], G0 ++ [some [.obji m t.peers.length []]], t.peers) ?_ (Sh.forget (by simp [go_sem]) (by simp) rfl) ?_
    · dsimp only
      refine ⟨?_, hop.keep (List.getElem?_append_left hop.mlt) fun k hk => List.getElem?_append_left (hop.lt k hk), by simp, ⟨rfl, fun i h h2 => ⟨fun q => by simp at q, fun _ => rfl⟩⟩, fun i hi => by simp at hi⟩
      rw [List.take_append_of_le_length (by omega)]
      exact hGH
    rintro ⟨seen, G, cur⟩ ⟨hGt, hop1, hit, hsn, hsl⟩
    dsimp only at hGt hop1 hit hsn hsl ⊢
    refine SWp.seq (Wp.s ?_)
    simp -implicitDefEqProofs [go_sem]
    unfold cnext
    dsimp only
    have hcl := hsn.1
    refine ⟨rfl, m, t.peers.length, seen, _, _, hit, hop1.map, by simpa using hcl, hsl, fun hall => ?_, fun i hil hni => ?_⟩
    · simp -implicitDefEqProofs [go_sem]
      refine Wp.s ?_
      simp -implicitDefEqProofs [go_sem]
      have hcur := hsn.all hall
      rw [hcur] at hop1
      exact ⟨G, ⟨hGt, hop1⟩, Sh.forget (by simp [go_sem]) rfl rfl⟩
    · have hic : i < cur.length := by omega
      have hib : i < bs.length := by rw [hop1.len]; exact hic
      have hqG : G0.length < G.length := (List.getElem?_eq_some_iff.1 hit).1
      have hGl3 : H.length + 3 + 2 ≤ G0.length := hGl
      have hGt2 : ∀ k, k < 3 → ∀ y L, ((G.set G0.length y) ++ L)[H.length + k]? = G[H.length + k]? := fun k hk y L => by
        rw [List.getElem?_append_left (by rw [List.length_set]; omega), List.getElem?_set_ne (by omega)]
      have hw1 : ∀ y L, ((G.set G0.length y) ++ L)[H.length + 1]? = some (some (wrC w)) := fun y L => by
        rw [hGt2 1 (by decide)]; exact take_hget hGt 1 (by decide)
      have hqm : G0.length ≠ m := by omega
      have hm1 : (G.set G0.length (some [.obji m t.peers.length (seen ++ [i])]))[m]? = G[m]? := List.getElem?_set_ne (by omega)
      simp -implicitDefEqProofs [go_sem]
      refine SWp.seq (Wp.s ?_)
      simp -implicitDefEqProofs [go_sem]
      refine SWp.block (SWp.seq (Wp.s ?_))
      simp -implicitDefEqProofs [go_sem]
      unfold centry
      dsimp only
      refine ⟨m, t.peers.length, seen, i, _, _, List.getElem?_set_self hqG, by rw [hm1]; exact hop1.map, by simpa using hcl, hil, ?_⟩
      rw [show ((cur.map fun (p : Pee) => (p.site : Int))[i]?).getD 0 = (cur[i].site : Int) by simp [hic], show (((List.zipWith valC cur bs).map CV.agg)[i]?).getD .any = .agg (valC cur[i] bs[i]) by rw [List.getElem?_eq_getElem (by rw [List.length_map, List.length_zipWith, Nat.lt_min]; exact ⟨hic, hib⟩)]; simp]
      have hsz := hop1.lt _ (List.getElem_mem hib)
      have hb1 : ∀ y L, ((G.set G0.length y) ++ L)[bs[i]]? = some (some (bmF cur[i].dirty)) := fun y L => by
        rw [List.getElem?_append_left (by rw [List.length_set]; exact hsz), List.getElem?_set_ne (by have := hbq i hib; omega)]
        exact hop1.box i hib hic
      simp -implicitDefEqProofs [go_sem]
      refine SWp.seq (SWp.seq (Wp.s ?_))
      simp -implicitDefEqProofs [go_sem, hbx_of (hw1 _ _)]
      have hci : cur[i] = t.peers[i] := (hsn.2 i hic hil).2 hni
      have hdk := (ht.ok _ (List.getElem_mem hil)).dirty
      rw [← hci] at hdk
      have hvd : v < cur[i].dirty.length := by rw [hdk.len]; exact hv
      obtain ⟨k1, k2⟩ := hdk.ok v hvd hv
      have hkey : keyAt (cur.map fun (p : Pee) => (p.site : Int)) (cur[i].site : Int) = some i := by
        rw [hsn.sites, hci]
        have := hinc.keyAt i (by simpa using hil)
        simpa using this
      have hvs : ((List.zipWith valC cur bs).map CV.agg).set i (.agg (valC cur[i] bs[i])) = (List.zipWith valC cur bs).map CV.agg := by
        refine List.ext_getElem (by simp) fun j h1 h2 => ?_
        by_cases e : i = j
        · subst e; simp
        · simp [List.getElem_set_ne e]
      have hput : mput (cur.map fun (p : Pee) => (p.site : Int)) ((List.zipWith valC cur bs).map CV.agg) (cur[i].site : Int) (.agg (valC cur[i] bs[i])) = .objm (cur.map fun (p : Pee) => (p.site : Int)) ((List.zipWith valC cur bs).map CV.agg) := by
        rw [mput, hkey]; dsimp only; rw [hvs]
      refine CC.mono (mark_cc _ _ bs[i] cur[i].dirty w v s (hb1 _ _) hwv hws hvd k1 (by rw [k2]; exact hs)) ?_
      rintro _ _ _ ⟨rfl, rfl, rfl⟩
      have hne1 : bs[i] ≠ G.length := by omega
      have hbl2 := hbq i hib
      have hbge := hop1.ge _ (List.getElem_mem hib)
      obtain ⟨K, hK⟩ : ∃ K, K = ((G.set G0.length (some [.obji m t.peers.length (seen ++ [i])])) ++ [some (valC cur[i] bs[i])]).set bs[i] (some (bmF (mkW cur[i].dirty v s w.data.length))) := ⟨_, rfl⟩
      have kl : K.length = G.length + 1 := by rw [hK]; simp
      have k1 : K[G.length]? = some (some (valC cur[i] bs[i])) := by
        rw [hK, List.getElem?_set_ne hne1, List.getElem?_append_right (by simp)]; simp
      have k2 : ∀ k : Nat, k < G.length → k ≠ G0.length → k ≠ bs[i] → K[k]? = G[k]? := fun k a1 a2 a3 => by
        rw [hK, List.getElem?_set_ne (by omega), List.getElem?_append_left (by rw [List.length_set]; exact a1), List.getElem?_set_ne (by omega)]
      have k3 : K[bs[i]]? = some (some (bmF (mkW cur[i].dirty v s w.data.length))) := by
        rw [hK, List.getElem?_set_self (by simp; omega)]
      have k4 : K[G0.length]? = some (some [.obji m t.peers.length (seen ++ [i])]) := by
        rw [hK, List.getElem?_set_ne (by omega), List.getElem?_append_left (by rw [List.length_set]; exact hqG), List.getElem?_set_self hqG]
      have k5 : K.take (H.length + 3) = G.take (H.length + 3) := by
        rw [hK, List.take_set_of_le (by omega), List.take_append_of_le_length (by rw [List.length_set]; omega), List.take_set_of_le (by omega)]
      rw [← hK]
      clear hK
      have hmG := hop1.mlt
      have hmm : K[m]? = some (some [.objm (cur.map fun (p : Pee) => (p.site : Int)) ((List.zipWith valC cur bs).map CV.agg)]) := by
        rw [k2 m hmG (by omega) (by omega)]; exact hop1.map
      have hsz2 : ∀ k : Nat, k ∈ bs → k < G0.length := fun k hk => by
        obtain ⟨j, hj, rfl⟩ := List.getElem_of_mem hk
        exact hbq j hj
      have hv0 : ([ci (cur[i].site : Nat), ci cur[i].common, .bsa bs[i] cur[i].dirty.length 2] : List CV) = valC cur[i] bs[i] := rfl
      have q1 : (K.set G.length (some (valC cur[i] bs[i])))[G.length]? = some (some (valC cur[i] bs[i])) := List.getElem?_set_self (by omega)
      have q2 : (K.set G.length (some (valC cur[i] bs[i])))[m]? = some (some [.objm (cur.map fun (p : Pee) => (p.site : Int)) ((List.zipWith valC cur bs).map CV.agg)]) := by rw [List.getElem?_set_ne (by omega)]; exact hmm
      obtain ⟨ks, hks⟩ : ∃ ks, ks = cur.map fun (p : Pee) => (p.site : Int) := ⟨_, rfl⟩
      obtain ⟨vs, hvz⟩ : ∃ vs, vs = (List.zipWith valC cur bs).map CV.agg := ⟨_, rfl⟩
      rw [← hks, ← hvz] at q2 hput
      simp -implicitDefEqProofs [go_sem, hbx_of k1]
      refine SWp.seq (Wp.s ?_)
      simp -implicitDefEqProofs [go_sem]
      rw [hv0]
      refine Wp.s ?_
      simp -implicitDefEqProofs [go_sem]
      refine Wp.s ?_
      simp -implicitDefEqProofs [go_sem, hbx_of q1, hbm_some q2, hput]
      refine ⟨seen ++ [i], _, ⟨?_, cur.set i (pMk v s w.data.length cur[i]), ?_, ?_, ?_, ?_⟩, ?_, Sh.forget (by simp [go_sem]) rfl rfl⟩
      · rw [List.take_set_of_le (by omega), List.take_set_of_le (by omega), k5]; exact hGt
      · refine hop1.mark i hic hib ?_ ?_ fun k hk hne => ?_
        · rw [List.getElem?_set_self (by simp; omega), hks, hvz]; exact hop1.map.symm
        · rw [List.getElem?_set_ne (by omega), List.getElem?_set_ne (by omega)]; exact k3
        · have := hsz2 k hk
          have := hop1.ge k hk
          rw [List.getElem?_set_ne (by omega), List.getElem?_set_ne (by omega)]
          exact k2 k (by omega) (by omega) hne
      · rw [List.getElem?_set_ne (by omega), List.getElem?_set_ne (by omega)]; exact k4
      · exact hsn.more i hic hni
      · intro j hj
        rcases List.mem_append.1 hj with hj | hj
        · exact hsl j hj
        · rw [List.mem_singleton.1 hj]; exact hil
      · exact uns_lt seen i hni _ (by simpa using hil)
  rintro ⟨G, cur⟩ ⟨hGt, hop1, rfl⟩
  dsimp only at hGt hop1 ⊢
  have hG0 : G[H.length]? = some (some (trkC t)) := take_hget hGt 0 (by decide)
  have hG2 : G[H.length + 2]? = some (some [.v (.slice none 0 0), .v (.slice none 0 0)]) := take_hget hGt 2 (by decide)
  refine SWp.seq (Wp.s ?_)
  simp -implicitDefEqProofs [go_sem, hbx_of hG0, hbx_of hG2]
  refine CC.mono (closed_cc _ _ t ht (t.peers.map (pMk v s w.data.length)) bs (H.length + 3 + 2) m hop1 (tMk_ok ht hv hs).incP (by simp; omega)) ?_
  rintro _ _ _ ⟨rfl, rfl, rfl⟩
  simp -implicitDefEqProofs [go_sem, hbx_of hG2]
  refine Wp.s ?_
  simp -implicitDefEqProofs [go_sem]
  have hmG := hop1.mlt
  rw [hbx_of (List.getElem?_set_self (by omega))]
  refine ⟨by simp, ?_⟩
  have hGH2 : G.take H.length = H := by
    have := congrArg (List.take H.length) hGt
    rwa [List.take_take, Nat.min_eq_left (by omega), List.take_left] at this
  exact fin_prs (z := t.z) (hop1.keep (List.getElem?_set_ne (by omega)) fun k hk => List.getElem?_set_ne (by have := hop1.ge k hk; omega)) (by omega) (by rw [List.take_set_of_le (by omega)]; exact hGH2) hokH (by simp)
end Go.Proofs.YtpedbpbmnchllaaGreatDoor
namespace Go.Proofs.YtpedbpbmnchllaaGreatDoor
open Go.Proofs
@[go_sem, simp] theorem valC_1 (p : Pee) (b : Nat) (h : 1 < (valC p b).length) : (valC p b)[1] = ci p.common := rfl
theorem tkDirty_cc (H : Hp) (V : List Nat) (t : Trk) (i : Nat) (ht : TrkOk t) (hi : i < t.peers.length) : CC Tryz.prog 49 [.agg (trkC t), ci t.peers[i].site] H V (Pu (.tup [.sl .sh 2 (t.peers[i].dirty.map bmC), ci t.peers[i].common, er 0]) H V) := by
  refine CC.of_swp Tryz.func49 rfl (by kernel_rfl) (by rw [Tryz.ntmps49]; exact len_le _ _ rfl) fun hok hokH => ?_
  clear hok
  have hinc := ht.incP
  refine SWp.seq (Wp.s ?_)
  simp -implicitDefEqProofs [go_sem, args0]
  refine SWp.seq (Wp.s ?_)
  simp -implicitDefEqProofs [go_sem]
  refine CC.mono (tkCheck_cc _ _ t ht) ?_
  rintro _ _ _ ⟨rfl, rfl, rfl⟩
  simp -implicitDefEqProofs [go_sem]
  refine SWp.seq (Wp.s ?_)
  simp -implicitDefEqProofs [go_sem]
  refine CC.mono (tkOpen_cc _ _ t ht) ?_
  rintro _ G V1 ⟨bs, rfl, hGl, hGH, hV, hop⟩
  rw [hV]
  clear hV V1
  simp only [List.length_append, List.length_cons, List.length_nil] at hGl hGH hop ⊢
  have hib : i < bs.length := by rw [hop.len]; exact hi
  have hkey : keyAt (t.peers.map fun (p : Pee) => (p.site : Int)) (t.peers[i].site : Int) = some i := by
    have := hinc.keyAt i (by simpa using hi)
    simpa using this
  have hlk : ∀ z, mlook z (t.peers.map fun (p : Pee) => (p.site : Int)) ((List.zipWith valC t.peers bs).map CV.agg) (t.peers[i].site : Int) = .agg (valC t.peers[i] bs[i]) := fun z => by
    rw [mlook, hkey]
    dsimp only
    rw [List.getElem?_map, List.getElem?_eq_getElem (by rw [List.length_zipWith, Nat.lt_min]; exact ⟨hi, hib⟩)]; simp
  have hmap := hop.map
  obtain ⟨ks, hks⟩ : ∃ ks, ks = t.peers.map fun (p : Pee) => (p.site : Int) := ⟨_, rfl⟩
  obtain ⟨vs, hvz⟩ : ∃ vs, vs = (List.zipWith valC t.peers bs).map CV.agg := ⟨_, rfl⟩
  rw [← hks, ← hvz] at hlk hmap
  rw [← hks] at hkey
  obtain ⟨m, hm⟩ : ∃ m, m = H.length + (0 + 1) + 1 := ⟨_, rfl⟩
  rw [← hm] at hop hmap ⊢
  simp -implicitDefEqProofs [go_sem, hbm_some hmap, hlk, hkey]
  refine SWp.seq (SWp.seq (Wp.s ?_))
  simp -implicitDefEqProofs [go_sem]
  refine Wp.s ?_
  simp -implicitDefEqProofs [go_sem]
  refine SWp.seq (SWp.drawnT [] [] (.s 0 .pl <| .s 1 .pl <| .s 2 .pl <| .s 3 .pl <| .s 4 .pl <| .s 5 .pl <| .s 6 .pl <| .n) (by kernel_rfl) (by kernel_rfl) ?_)
  simp -implicitDefEqProofs [go_sem]
  refine Wp.s ?_
  simp -implicitDefEqProofs [go_sem]
  have hbx := hop.box i hib hi
  have hlt := (List.getElem?_eq_some_iff.1 hbx).1
  have hge := hop.ge _ (List.getElem_mem hib)
  have hGH2 : G.take H.length = H := by
    have := congrArg (List.take H.length) hGH
    rwa [List.take_take, Nat.min_eq_left (by omega), List.take_left] at this
  refine Fin.frozY (b := bs[i]) (cs := bmF t.peers[i].dirty) (r1 := .tup [.bsl bs[i] 0 t.peers[i].dirty.length 2, ci t.peers[i].common, er 0]) (r2 := .tup [.sl .sh 2 (t.peers[i].dirty.map bmC), ci t.peers[i].common, er 0]) ⟨rfl, rfl, rfl⟩ (.tup (.cons (.bsa _ _ _) (.cons (.refl _) (.cons (.refl _) .nil)))) (by rw [List.getElem?_append_left hlt]; exact hbx) ?_ (by omega) (by simp [go_sem, okE_bms]) hokH (by rw [List.take_append_of_le_length (by omega)]; exact hGH2) (by simp)
  have := Fy.bsl (b := bs[i]) (cs := bmF t.peers[i].dirty) 0 t.peers[i].dirty.length 2 (by rw [bmF_len]; omega)
  rw [List.drop_zero, chunks_bmF] at this
  exact .tup (.cons this (.cons (.refl _) (.cons (.refl _) .nil)))
end Go.Proofs.YtpedbpbmnchllaaGreatDoor
namespace Go.Proofs.YtpedbpbmnchllaaGreatDoor
open Go.Proofs
end Go.Proofs.YtpedbpbmnchllaaGreatDoor
namespace Go.Proofs.YtpedbpbmnchllaaGreatDoor
open Go.Proofs
theorem sz_imgSz {k : Img} {z : List Nat} (h : k.map List.length = z) : imgSz k = zI z := by
  rw [← h, imgSz, zI, List.map_map]; rfl
end Go.Proofs.YtpedbpbmnchllaaGreatDoor
namespace Go.Proofs.YtpedbpbmnchllaaGreatDoor
open Go.Proofs
end Go.Proofs.YtpedbpbmnchllaaGreatDoor
namespace Go.Proofs.YtpedbpbmnchllaaGreatDoor
open Go.Proofs
def secN (ws : List Wr) : Nat := (ws.map fun w => w.data.length).sum
theorem secN_snoc (ws : List Wr) (w : Wr) : secN (ws ++ [w]) = secN ws + w.data.length := by simp [secN]
theorem secN_le {n : Nat} : ∀ (ws : List Wr), (∀ w ∈ ws, w.data.length ≤ n) → secN ws ≤ ws.length * n
  | [], _ => by simp [secN]
  | w :: ws, h => by
    have := secN_le ws fun x hx => h x (by simp [hx])
    have h1 := h w (by simp)
    rw [secN] at this ⊢
    rw [List.map_cons, List.sum_cons, List.length_cons, Nat.add_mul, Nat.one_mul]; omega
theorem sectors22_cc (H : Hp) (V : List Nat) (ws : List Wr) (hl : ws.length ≤ 1000000) (hw : ∀ w ∈ ws, w.data.length ≤ 1000000) : CC Tryz.prog 60 [.sl .sh 3 (ws.map wrC)] H V (Pu (ci (secN ws : Nat)) H V) := by
  refine CC.of_swp Tryz.func60 rfl (by kernel_rfl) (by rw [Tryz.ntmps60]; exact len_le _ _ rfl) fun hok hokH => ?_
  clear hok
  refine SWp.seq (Wp.s ?_)
  simp -implicitDefEqProofs [go_sem, args0]
  refine SWp.seq (Wp.s ?_)
  simp -implicitDefEqProofs [go_sem]
  refine SWp.join (α := Unit) (fun _ => ([(3, ci (secN ws : Nat))], H, V)) (fun _ => True) ?_ ?_
  · refine SWp.seq (Wp.s ?_)
    simp -implicitDefEqProofs [go_sem]
    refine SWp.block ?_
    refine SWp.loop (α := Nat) (fun i => ([(0, .sl .sh 3 (ws.map wrC)), (3, ci (secN (ws.take i) : Nat)), (4, ci i)], H, V)) (fun i => i ≤ ws.length) (fun i => ws.length - i) 0 (Nat.zero_le _) (Sh.forget (by simp [go_sem, secN]) rfl rfl) ?_
    intro i hi
    dsimp only
    refine SWp.seq (SWp.seq (Wp.s ?_))
    simp -implicitDefEqProofs [go_sem]
    refine Wp.s ?_
    simp -implicitDefEqProofs [go_sem]
    refine ⟨fun h => ?_, fun h => ?_⟩
    case refine_2 =>
      rw [List.take_of_length_le (by omega)]
      exact Sh.forget (by simp [go_sem]) rfl rfl
    have h1 := secN_le (n := 1000000) (ws.take i) fun x hx => hw x (List.mem_of_mem_take hx)
    have h2 := hw ws[i] (List.getElem_mem h)
    have h3 := secN_snoc (ws.take i) ws[i]
    rw [← List.take_succ_eq_append_getElem h] at h3
    rw [List.length_take] at h1
    have h4 : min i ws.length * 1000000 ≤ 1000000 * 1000000 := Nat.mul_le_mul_right _ (by omega)
    have w1 : IntKind.i64.wrap ((secN (ws.take i) : Int) + ws[i].data.length) = (secN (ws.take (i + 1)) : Int) := by rw [IntWalk.i64_in _ ⟨by omega, by omega⟩]; omega
    refine SWp.seq (SWp.block (Wp.s ?_))
    simp -implicitDefEqProofs [go_sem, h, w1]
    refine Wp.s ?_
    simp -implicitDefEqProofs [go_sem]
    refine ⟨i + 1, by omega, by omega, Sh.forget ?_ rfl rfl⟩
    simp [go_sem, wrap_succ (show i ≤ 1000000000 by omega)]
  rintro _ -
  dsimp only
  refine SWp.seq (Wp.s ?_)
  simp -implicitDefEqProofs [go_sem]
  refine Wp.s ?_
  simp -implicitDefEqProofs [go_sem]
  exact Fin.int rfl hokH (by simp) (by simp)
def dfK (a b : List Sec) (n : Nat) : Nat := ((List.range n).filter fun i => decide (¬ a.getD i sec0 = b.getD i sec0)).length
def dfV (a b : List Sec) : Nat := dfK a b a.length
def dfI (a b : Img) (n : Nat) : Nat := ((List.range n).map fun v => dfV (imAt a v) (imAt b v)).sum
theorem dfK_le (a b : List Sec) (n : Nat) : dfK a b n ≤ n := by
  have := List.length_filter_le (fun i => decide (¬ a.getD i sec0 = b.getD i sec0)) (List.range n)
  rwa [List.length_range] at this
theorem dfI_succ (a b : Img) (n : Nat) : dfI a b (n + 1) = dfI a b n + dfV (imAt a n) (imAt b n) := by
  rw [dfI, List.range_succ, List.map_append, List.sum_append]; simp [dfI]
end Go.Proofs.YtpedbpbmnchllaaGreatDoor
namespace Go.Proofs.YtpedbpbmnchllaaGreatDoor
open Go.Proofs
def atI (k : Img) (v i : Nat) : Sec := (imAt k v).getD i sec0
def posW (w : Wr) : List (Nat × Nat) := (List.range' w.start.toNat w.data.length).map fun i => (w.volume.toNat, i)
def posS (ws : List Wr) : List (Nat × Nat) := ws.flatMap posW
theorem posS_app (a b : List Wr) : posS (a ++ b) = posS a ++ posS b := by simp [posS]
theorem posW_len (w : Wr) : (posW w).length = w.data.length := by simp [posW]
theorem secN_pos : ∀ ws : List Wr, secN ws = (posS ws).length
  | [] => rfl
  | w :: ws => by
    have := secN_pos ws
    rw [secN] at this ⊢
    rw [List.map_cons, List.sum_cons, this, show posS (w :: ws) = posW w ++ posS ws from rfl, List.length_append, posW_len]
def DifI (v : Nat) (a : List Sec) (l : List Wr) : Prop := ∀ w ∈ l, w.volume = v ∧ 0 ≤ w.start ∧ ∀ j, j < w.data.length → w.data.getD j sec0 = a.getD (w.start.toNat + j) sec0
theorem difS_I {v : Nat} {a : List Sec} {l : List Wr} {i : Nat} (h : DifI v a l) : DifI v a (difS v l i (a.getD i sec0)) := by
  have hn : ∀ w : Wr, w = ⟨(v : Int), (i : Int), [a.getD i sec0]⟩ → w.volume = v ∧ 0 ≤ w.start ∧ ∀ j, j < w.data.length → w.data.getD j sec0 = a.getD (w.start.toNat + j) sec0 := by
    rintro w rfl
    refine ⟨rfl, by simp, fun j hj => ?_⟩
    obtain rfl : j = 0 := by simpa using hj
    simp
  rcases List.eq_nil_or_concat l with rfl | ⟨l0, x, rfl⟩
  · rw [difS_nil]
    intro w hw
    exact hn w (by simpa using hw)
  · rw [List.concat_eq_append] at *
    rw [difS_snoc]
    split
    · rename_i e
      intro w hw
      rcases List.mem_append.1 hw with hw | hw
      · exact h w (by simp [hw])
      · obtain rfl : w = _ := by simpa using hw
        obtain ⟨p, q, r⟩ := h x (by simp)
        refine ⟨p, q, fun j hj => ?_⟩
        dsimp only at hj ⊢
        rw [List.length_append, List.length_singleton] at hj
        by_cases hjl : j < x.data.length
        · rw [List.getD_eq_getElem?_getD, List.getElem?_append_left hjl, ← List.getD_eq_getElem?_getD]; exact r j hjl
        · obtain rfl : j = x.data.length := by omega
          rw [List.getD_eq_getElem?_getD, List.getElem?_append_right (Nat.le_refl _), Nat.sub_self, show x.start.toNat + x.data.length = i by omega]
          rfl
    · intro w hw
      rcases List.mem_append.1 hw with hw | hw
      · exact h w hw
      · exact hn w (by simpa using hw)
theorem difS_pos {v : Nat} {a : List Sec} {l : List Wr} {i : Nat} {s : Sec} (h : DifI v a l) : posS (difS v l i s) = posS l ++ [(v, i)] := by
  rcases List.eq_nil_or_concat l with rfl | ⟨l0, x, rfl⟩
  · rw [difS_nil]; simp [posS, posW]
  · rw [List.concat_eq_append] at *
    rw [difS_snoc]
    obtain ⟨p, q, r⟩ := h x (by simp)
    split
    · rename_i e
      rw [posS_app, posS_app, List.append_assoc]
      congr 1
      simp only [posS, List.flatMap_cons, List.flatMap_nil, List.append_nil, posW, List.length_append, List.length_singleton, p, Int.toNat_natCast]
      rw [List.range'_1_concat, List.map_append]
      simp; omega
    · rw [posS_app]; simp [posS, posW]
theorem difX_I (v : Nat) (a b : List Sec) (s : Nat) : ∀ c, DifI v a (difX v a b s c) ∧ posS (difX v a b s c) = ((List.range' s c).filter fun i => decide (¬ a.getD i sec0 = b.getD i sec0)).map fun i => (v, i)
  | 0 => ⟨fun w hw => by simp [difX_zero] at hw, by simp [difX_zero, posS]⟩
  | c + 1 => by
    obtain ⟨h1, h2⟩ := difX_I v a b s c
    rw [difX_succ, difStep, List.range'_1_concat, List.filter_append, List.map_append, ← h2]
    split
    · rename_i e
      refine ⟨h1, ?_⟩
      rw [List.filter_cons_of_neg (by simpa using e)]; simp
    · rename_i e
      refine ⟨difS_I h1, ?_⟩
      rw [difS_pos h1, List.filter_cons_of_pos (by simpa using e)]; rfl
theorem exStep_flat (l : List (Nat × Nat)) (x : Nat) : (exStep l x).flatMap (fun e => List.range' e.1 e.2) = l.flatMap (fun e => List.range' e.1 e.2) ++ [x] := by
  rcases List.eq_nil_or_concat l with rfl | ⟨l0, e, rfl⟩
  · simp [exStep_nil]
  · rw [List.concat_eq_append, exStep_snoc]
    split
    · rename_i h
      rw [List.flatMap_append, List.flatMap_append]
      simp [List.range'_1_concat, h]
    · rw [List.flatMap_append]; simp
theorem runsN_flat (xs : List Nat) : (runsN xs).flatMap (fun e => List.range' e.1 e.2) = xs := by
  induction xs using snoc_ind with
  | h0 => simp [runsN]
  | h1 xs x ih => rw [runsN_snoc, exStep_flat, ih]
theorem trV_pos (v : Nat) (a b : List Sec) (l : List (Nat × Nat)) : posS (trV' v a b l) = ((l.flatMap fun e => List.range' e.1 e.2).filter fun i => decide (¬ a.getD i sec0 = b.getD i sec0)).map fun i => (v, i) := by
  induction l with
  | nil => simp [trV', posS]
  | cons e l ih =>
    rw [trV', List.flatMap_cons, ← trV', posS_app, ih, (difX_I v a b e.1 e.2).2, List.flatMap_cons, List.filter_append, List.map_append]
def WrI (P : Img) (w : Wr) : Prop := fitsS (imgSz P) w = 0 ∧ ∀ j, j < w.data.length → w.data.getD j sec0 = atI P w.volume.toNat (w.start.toNat + j)
def apA (k : Img) (ws : List Wr) : Img := ws.foldl ap1 k
theorem apI_A : ∀ (ws : List Wr) (k : Img) (i : Nat), (∀ w ∈ ws, fitsS (imgSz k) w = 0) → apI k ws i = (apA k ws, 0, 0)
  | [], k, i, _ => rfl
  | w :: ws, k, i, h => by
    have h0 := h w (by simp)
    have hs : imgSz (ap1 k w) = imgSz k := by
      have := ap1_sz h0
      rw [imgSz, imgSz]
      have := congrArg (List.map fun (n : Nat) => (n : Int)) this
      rw [List.map_map, List.map_map] at this
      exact this
    rw [apI, if_neg (by simp [h0]), apI_A ws _ _ fun x hx => by rw [hs]; exact h x (by simp [hx])]
    rfl
theorem putV_at {v d : List Sec} {p i : Nat} (h : p + d.length ≤ v.length) : (putV v p d).getD i sec0 = if p ≤ i ∧ i < p + d.length then d.getD (i - p) sec0 else v.getD i sec0 := by
  rw [putV, List.getD_eq_getElem?_getD, List.getD_eq_getElem?_getD, List.getD_eq_getElem?_getD, splice_get v d p i (by omega)]
  by_cases h1 : i < p
  · rw [if_pos h1, if_neg (by omega)]
  · rw [if_neg h1]
    by_cases h2 : i < p + d.length
    · rw [if_pos h2, if_pos ⟨by omega, h2⟩]
    · rw [if_neg h2, if_neg (by omega)]
theorem ap1_at {k : Img} {w : Wr} (hf : fitsS (imgSz k) w = 0) (v i : Nat) : atI (ap1 k w) v i = if (v, i) ∈ posW w then w.data.getD (i - w.start.toNat) sec0 else atI k v i := by
  obtain ⟨n, hvn, hnk, hd0, p, hpn, hpl⟩ := fitsI_0 hf
  have hmem : (v, i) ∈ posW w ↔ v = n ∧ p ≤ i ∧ i < p + w.data.length := by
    rw [posW, hvn, hpn, Int.toNat_natCast, Int.toNat_natCast, List.mem_map]
    constructor
    · rintro ⟨j, hj, e⟩
      rw [Prod.mk.injEq] at e
      rw [List.mem_range'_1] at hj
      omega
    · rintro ⟨rfl, h1, h2⟩
      exact ⟨i, by rw [List.mem_range'_1]; omega, rfl⟩
  have hg : k.getD n [] = k[n] := by rw [List.getD_eq_getElem?_getD, List.getElem?_eq_getElem hnk]; rfl
  rw [ap1, hvn, hpn, Int.toNat_natCast, Int.toNat_natCast, hg]
  by_cases hv : v = n
  · subst hv
    have e1 : imAt (k.set v (putV k[v] p w.data)) v = putV k[v] p w.data := by
      rw [imAt, List.getD_eq_getElem?_getD, List.getElem?_set_self hnk]; rfl
    have e2 : imAt k v = k[v] := hg
    rw [atI, e1, putV_at hpl, atI, e2]
    by_cases hc : p ≤ i ∧ i < p + w.data.length
    · rw [if_pos hc, if_pos (hmem.2 ⟨rfl, hc⟩)]
    · rw [if_neg hc, if_neg fun q => hc (hmem.1 q).2]
  · rw [if_neg fun q => hv (hmem.1 q).1, atI, atI]
    have : imAt (k.set n (putV k[n] p w.data)) v = imAt k v := by
      rw [imAt, imAt, List.getD_eq_getElem?_getD, List.getD_eq_getElem?_getD, List.getElem?_set_ne (fun e => hv e.symm)]
    rw [this]
theorem apA_at {P : Img} : ∀ (ws : List Wr) (k : Img), k.map List.length = P.map List.length → (∀ w ∈ ws, WrI P w) → (apA k ws).map List.length = P.map List.length ∧ ∀ v i, atI (apA k ws) v i = if (v, i) ∈ posS ws then atI P v i else atI k v i
  | [], k, hk, _ => ⟨hk, fun v i => by simp [posS, apA]⟩
  | w :: ws, k, hk, h => by
    obtain ⟨h1, h2⟩ := h w (by simp)
    have hz : imgSz k = imgSz P := by
      rw [sz_imgSz hk, sz_imgSz rfl]
    have hf : fitsS (imgSz k) w = 0 := by rw [hz]; exact h1
    obtain ⟨a, b⟩ := apA_at ws (ap1 k w) ((ap1_sz hf).trans hk) fun x hx => h x (by simp [hx])
    refine ⟨a, fun v i => ?_⟩
    have hb : atI (apA k (w :: ws)) v i = _ := b v i
    rw [hb, ap1_at hf]
    have hm : (v, i) ∈ posS (w :: ws) ↔ (v, i) ∈ posW w ∨ (v, i) ∈ posS ws := by simp [posS]
    by_cases c1 : (v, i) ∈ posS ws
    · rw [if_pos c1, if_pos (hm.2 (.inr c1))]
    · rw [if_neg c1]
      by_cases c2 : (v, i) ∈ posW w
      · rw [if_pos c2, if_pos (hm.2 (.inl c2))]
        rw [posW, List.mem_map] at c2
        obtain ⟨j, hj, e⟩ := c2
        rw [Prod.mk.injEq] at e
        rw [List.mem_range'_1] at hj
        obtain ⟨rfl, rfl⟩ := e
        rw [h2 _ (by omega)]
        congr 1; omega
      · rw [if_neg c2, if_neg fun q => (hm.1 q).elim c2 c1]
theorem img_at_ext {a b : Img} (h : a.map List.length = b.map List.length) (he : ∀ v i, atI a v i = atI b v i) : a = b := by
  have hl : a.length = b.length := by simpa using congrArg List.length h
  refine List.ext_getElem hl fun v h1 h2 => ?_
  have hlv : a[v].length = b[v].length := by
    have := congrArg (fun l : List Nat => l[v]?) h
    simpa [h1, h2] using this
  refine List.ext_getElem hlv fun i h3 h4 => ?_
  have := he v i
  simpa [atI, imAt, List.getD_eq_getElem?_getD, h1, h2, h3, h4] using this
end Go.Proofs.YtpedbpbmnchllaaGreatDoor
namespace Go.Proofs.YtpedbpbmnchllaaGreatDoor
open Go.Proofs
def mkL (p q : Pt) (v : Nat) : List Nat := elsN (p.dirty.getD v ⟨1, 0⟩).n ((p.dirty.getD v ⟨1, 0⟩).w ||| (q.dirty.getD v ⟨1, 0⟩).w)
theorem mkd_getD (p q : Pt) (v : Nat) (h : v < p.dirty.length) : (mkd p q).getD v [] = runsN (mkL p q v) := by
  rw [List.getD_eq_getElem?_getD, List.getElem?_eq_getElem (by rw [mkd_len]; exact h)]
  simp [mkd, mk1, mkL]
theorem trT_pos (p q : Pt) : ∀ n, n ≤ p.dirty.length → posS (trT p q n) = (List.range n).flatMap fun v => ((mkL p q v).filter fun i => decide (¬ atI p.im v i = atI q.im v i)).map fun i => (v, i)
  | 0, _ => by simp [trT, posS]
  | n + 1, h => by
    rw [trT_succ, posS_app, trT_pos p q n (by omega), trV_pos, mkd_getD p q n (by omega), runsN_flat, List.range_succ, List.flatMap_append]
    simp [atI]
theorem mkL_lt {p q : Pt} {v i : Nat} (h : i ∈ mkL p q v) : i < (p.dirty.getD v ⟨1, 0⟩).n := (elsN_mem.1 h).1
theorem Pt2.dirtyN {p q : Pt} (h : Pt2 p q) (v : Nat) (hv : v < p.dirty.length) : (p.dirty.getD v ⟨1, 0⟩).n = (imAt p.im v).length := by
  have hvi : v < p.im.length := by rw [← h.hp.len]; exact hv
  have := (h.hp.dirty v hv hvi).2
  rw [List.getD_eq_getElem?_getD, List.getElem?_eq_getElem hv, imAt, List.getD_eq_getElem?_getD, List.getElem?_eq_getElem hvi]
  exact this
def Cov (b : Img) (d : List Bm) (k : Img) : Prop := ∀ v i, (d.getD v ⟨1, 0⟩).w.testBit i = false → atI k v i = atI b v i
def CovP (p q : Pt) : Prop := ∀ v i, ((p.dirty.getD v ⟨1, 0⟩).w ||| (q.dirty.getD v ⟨1, 0⟩).w).testBit i = false → atI p.im v i = atI q.im v i
theorem CovP.of {b : Img} {p q : Pt} (h : Cov b p.dirty p.im) (g : Cov b q.dirty q.im) : CovP p q := fun v i hi => by
  rw [Nat.testBit_or, Bool.or_eq_false_iff] at hi
  rw [h v i hi.1, g v i hi.2]
theorem atI_out {k : Img} {v i : Nat} (h : (imAt k v).length ≤ i) : atI k v i = sec0 := by
  rw [atI, List.getD_eq_getElem?_getD, List.getElem?_eq_none h]; rfl
theorem imAt_out {k : Img} {v : Nat} (h : k.length ≤ v) : imAt k v = [] := by
  rw [imAt, List.getD_eq_getElem?_getD, List.getElem?_eq_none h]; rfl
theorem imAt_len {a b : Img} (h : a.map List.length = b.map List.length) (v : Nat) : (imAt a v).length = (imAt b v).length := by
  have := congrArg (fun l : List Nat => l[v]?) h
  simp only [List.getElem?_map] at this
  rw [imAt, imAt, List.getD_eq_getElem?_getD, List.getD_eq_getElem?_getD]
  cases h1 : a[v]? <;> cases h2 : b[v]? <;> simp [h1, h2] at this ⊢
  exact this
theorem trT_mem {p q : Pt} (h : Pt2 p q) (hc : CovP p q) (v i : Nat) (hne : ¬ atI p.im v i = atI q.im v i) : (v, i) ∈ posS (trT p q p.dirty.length) := by
  rw [trT_pos p q _ (Nat.le_refl _), List.mem_flatMap]
  have hlen := imAt_len h.sz v
  have hi : i < (imAt p.im v).length := by
    rcases Nat.lt_or_ge i (imAt p.im v).length with h1 | h1
    · exact h1
    · exact absurd ((atI_out h1).trans (atI_out (by omega)).symm) hne
  have hv : v < p.dirty.length := by
    rcases Nat.lt_or_ge v p.im.length with h1 | h1
    · rw [h.hp.len]; exact h1
    · rw [imAt_out h1] at hi; simp at hi
  refine ⟨v, List.mem_range.2 hv, List.mem_map.2 ⟨i, List.mem_filter.2 ⟨elsN_mem.2 ⟨by rw [h.dirtyN v hv]; exact hi, ?_⟩, by simpa using hne⟩, rfl⟩⟩
  cases ht : ((p.dirty.getD v ⟨1, 0⟩).w ||| (q.dirty.getD v ⟨1, 0⟩).w).testBit i
  · exact absurd (hc v i ht) hne
  · rfl
theorem filter_sub {α : Type} : ∀ (l : List α) (p q : α → Bool), (∀ x ∈ l, p x = true → q x = true) → l.filter p = (l.filter q).filter p
  | [], _, _, _ => rfl
  | x :: l, p, q, h => by
    have ih := filter_sub l p q fun y hy => h y (by simp [hy])
    by_cases hp : p x = true
    · rw [List.filter_cons_of_pos hp, List.filter_cons_of_pos (h x (by simp) hp), List.filter_cons_of_pos hp, ih]
    · rw [List.filter_cons_of_neg hp, ih]
      by_cases hq : q x = true
      · rw [List.filter_cons_of_pos hq, List.filter_cons_of_neg hp]
      · rw [List.filter_cons_of_neg hq]
end Go.Proofs.YtpedbpbmnchllaaGreatDoor
namespace Go.Proofs.YtpedbpbmnchllaaGreatDoor
open Go.Proofs
theorem same22_cc (H : Hp) (V : List Nat) (x y : List Wr) (hl : x.length ≤ 1000000000) (hw : WrS x) : CC Tryz.prog 13 [.sl .sh 3 (x.map wrC), .sl .sh 3 (y.map wrC)] H V (Pu (cb (decide (x = y))) H V) := by
  refine CC.of_swp Tryz.func13 rfl (by kernel_rfl) (by rw [Tryz.ntmps13]; exact len_le _ _ rfl) fun hok hokH => ?_
  clear hok
  refine SWp.seq (Wp.s ?_)
  simp -implicitDefEqProofs [go_sem, args0]
  refine SWp.seq (Wp.s ?_)
  simp -implicitDefEqProofs [go_sem]
  refine CC.mono (SameWrs_cc _ _ .sh .sh x y hl hw) ?_
  rintro _ _ _ ⟨rfl, rfl, rfl⟩
  simp -implicitDefEqProofs [go_sem]
  refine Wp.s ?_
  simp -implicitDefEqProofs [go_sem]
  exact Fin.bool rfl hokH (by simp) (by simp)
def w5 : List Wr := [⟨0, 0, [⟨[5, 0, 0, 0, 0, 0, 0, 0], rfl⟩]⟩]
end Go.Proofs.YtpedbpbmnchllaaGreatDoor
