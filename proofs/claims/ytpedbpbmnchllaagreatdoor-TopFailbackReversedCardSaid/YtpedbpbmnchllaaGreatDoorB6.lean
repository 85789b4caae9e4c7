import Derived.Test.YtpedbpbmnchllaaGreatDoorB5
import Derived.Test.YtpedbpbmnchllaaGreatDoorB4
import Derived.Test.YtpedbpbmnchllaaGreatDoorB3
import Derived.ProofKit
import Derived.OpenShut
import Derived.Below
import Derived.Test.YtpedbpbmnchllaaGreatDoorRows
import Derived.LaidHandle
import Derived.MakeChecks
import Derived.Lib.LaidU8
set_option linter.unusedSimpArgs false
set_option linter.unusedVariables false
set_option linter.unusedSectionVars false
namespace Go.Proofs.YtpedbpbmnchllaaGreatDoor
open Go.Proofs
@[go_sem, simp] theorem cycC_drop (c : Cyc) : (cycC c).drop 5 = [] := rfl
set_option maxRecDepth 8000 in
set_option maxHeartbeats 3200000 in
theorem round_cc (H : Hp) (V : List Nat) (p : Prc) (q : Pt) (y z : Nat) (num tm : Int) (hp : PrcOk p) (hq : PtOk q) (hd : q.dirty.length ≤ 8) (hst : p.st = 0) (hsite : q.site = p.fr) (hql : q.lin = linC y z) (h1 : p.cy < num) (h2 : (z : Int) ≤ num)
    (hc : chkC ⟨p.cy, num, tm, [], ctW q.im (mxP q.dirty) q.dirty.length⟩ (imgSz q.im) = 0) (hws : WrS (ctW q.im (mxP q.dirty) q.dirty.length)) :
    CC Tryz.prog 11 [.agg (prcC p), .agg (ptC q), ci num, ci tm] H V (Pu (.tup [.agg (prcC ⟨p.fr, p.to, 1, p.ep, num, false⟩), .agg (cycC ⟨p.cy, num, tm, [], ctW q.im (mxP q.dirty) q.dirty.length⟩), er 0]) H V) := by
  have hqf := hq.few
  have hlen := hq.len
  have hdn := hp.dn
  have hml : ∀ l ∈ mxP q.dirty, l.length ≤ 63 := fun l hl => by
    obtain ⟨b, hb, rfl⟩ := List.mem_map.1 hl
    obtain ⟨i, hi, rfl⟩ := List.getElem_of_mem hb
    exact mx1_len (hq.dirty i hi (by omega)).1
  have hcl := ctW_len (im := q.im) hml q.dirty.length
  refine CC.of_defer2 (pre := [_]) (g := 50) Tryz.func11 rfl (by kernel_rfl) (by rw [Tryz.ntmps11]; exact len_le _ _ rfl) retResc fun hok hokH => ?_
  clear hok
  refine Wp.s ?_
  simp -implicitDefEqProofs [go_sem, args0]
  refine SWp.seq (Wp.s ?_)
  simp -implicitDefEqProofs [go_sem]
  refine SWp.seq (Wp.s ?_)
  simp -implicitDefEqProofs [go_sem]
  refine CC.mono (formed_cc _ _ p hp) ?_
  rintro _ _ _ ⟨rfl, rfl⟩
  simp -implicitDefEqProofs [go_sem]
  refine SWp.seq (Wp.s ?_)
  simp -implicitDefEqProofs [go_sem]
  refine CC.mono (ptCheck_cc _ _ q hq) ?_
  rintro _ _ _ ⟨rfl, rfl, rfl⟩
  simp -implicitDefEqProofs [go_sem]
  refine CC.mono (fok_cc _ _) ?_
  rintro _ _ _ ⟨rfl, rfl⟩
  simp -implicitDefEqProofs [go_sem]
  refine SWp.seq (Wp.s ?_)
  simp -implicitDefEqProofs [go_sem, hsite]
  refine CC.mono (demand_cc _ _ 1) ?_
  rintro _ _ _ ⟨rfl, rfl⟩
  simp -implicitDefEqProofs [go_sem]
  refine SWp.seq (Wp.s ?_)
  simp -implicitDefEqProofs [go_sem, hdn]
  refine CC.mono (demand_cc _ _ 12) ?_
  rintro _ _ _ ⟨rfl, rfl⟩
  simp -implicitDefEqProofs [go_sem]
  refine SWp.seq (Wp.s ?_)
  simp -implicitDefEqProofs [go_sem, hst]
  refine CC.mono (demand_cc _ _ 11) ?_
  rintro _ _ _ ⟨rfl, rfl⟩
  simp -implicitDefEqProofs [go_sem]
  refine SWp.seq (Wp.s ?_)
  simp -implicitDefEqProofs [go_sem, hql]
  refine CC.mono (fhead_cc _ _ (linC y z) 1 (by simp [linC]) (by simp [linC]) rfl) ?_
  rintro _ _ _ ⟨rfl, rfl, rfl⟩
  rw [show (linC y z)[1]'(by simp [linC]) = ⟨2, (y : Int) + 1, z⟩ from rfl]
  simp -implicitDefEqProofs [go_sem]
  refine SWp.seq (Wp.s ?_)
  simp -implicitDefEqProofs [go_sem, h1, h2]
  refine CC.mono (demand_cc _ _ 2) ?_
  rintro _ _ _ ⟨rfl, rfl⟩
  simp -implicitDefEqProofs [go_sem]
  refine SWp.seq (SWp.drawnT [] [8] (.s 0 .pl <| .s 1 .pl <| .s 2 .pl <| .s 3 .pl <| .s 4 .pl <| .s 5 .pl <| .s 6 .pl <| .s 7 .pl <| .s 8 .st <| .n) (by kernel_rfl) (by kernel_rfl) ?_)
  simp -implicitDefEqProofs [go_sem]
  refine CC.mono (fmarked_cc _ _ q hq hd) ?_
  rintro _ _ _ ⟨rfl, rfl, rfl⟩
  simp -implicitDefEqProofs [go_sem]
  refine SWp.seq (Wp.s ?_)
  simp -implicitDefEqProofs [go_sem]
  refine SWp.join (α := Nat) (fun k => ([(2, ci num), (8, .ptr (H.length + 2) 0), (9, .ptr (H.length + 3) 0), (10, .ptr (H.length + 4) 0), (11, .ptr (H.length + 5) 0), (14, .sl (.own V.length k) 1 ((imgSz q.im).map ic))], H ++ [some (prcC p), some (ptC q), some [ci 0, ci 0, ci 0, ci 0, ci 0, ci 0, cb false, cb false], some [ci p.cy, ci num, ci tm, .v (.slice none 0 0), .sl .sh 3 ((ctW q.im (mxP q.dirty) q.dirty.length).map wrC)], some [ci 0], some (prcC p)], V ++ [k])) (fun _ => True) ?_ ?_
  · refine SWp.seq (Wp.s ?_)
    simp -implicitDefEqProofs [go_sem]
    refine SWp.block ?_
    refine SWp.loop (α := Nat × Nat) (fun u => ([(2, ci num), (8, .ptr (H.length + 2) 0), (9, .ptr (H.length + 3) 0), (10, .ptr (H.length + 4) 0), (11, .ptr (H.length + 5) 0), (14, .sl (.own V.length u.2) 1 ((imgSz (q.im.take u.1)).map ic)), (68, .sl .sh 1 (q.im.map imE)), (69, ci q.im.length), (70, ci u.1)], H ++ [some (prcC p), some (ptC q), some [ci 0, ci 0, ci 0, ci 0, ci 0, ci 0, cb false, cb false], some [ci p.cy, ci num, ci tm, .v (.slice none 0 0), .sl .sh 3 ((ctW q.im (mxP q.dirty) q.dirty.length).map wrC)], some [ci 0], some (prcC p)], V ++ [u.2])) (fun u => u.1 ≤ q.im.length) (fun u => q.im.length - u.1) (0, 0) (Nat.zero_le _) (Sh.tokT (by simp [go_sem, imgSz]) rfl rfl) ?_
    rintro ⟨i, k⟩ hi
    dsimp only at hi ⊢
    refine SWp.seq (Wp.s ?_)
    simp -implicitDefEqProofs [go_sem]
    refine SWp.seq (Wp.s ?_)
    simp -implicitDefEqProofs [go_sem]
    refine ⟨fun h => ?_, fun h => ?_⟩
    case refine_2 =>
      obtain rfl : i = q.im.length := by omega
      rw [List.take_length]
      exact ⟨k, Sh.forget (by simp [go_sem]) rfl rfl⟩
    have hsl : (imgSz (q.im.take i)).length = i := by rw [imgSz, List.length_map, List.length_take]; omega
    have hsz : (imgSz (q.im.take (i + 1))).map ic = (imgSz (q.im.take i)).map ic ++ [ic (q.im[i].length : Int)] := by
      rw [List.take_succ_eq_append_getElem h, imgSz, List.map_append, List.map_append]; rfl
    refine SWp.seq (SWp.block (SWp.seq (Wp.s ?_)))
    simp -implicitDefEqProofs [go_sem, h]
    refine Wp.s ?_
    simp -implicitDefEqProofs [go_sem]
    refine ⟨by omega, Wp.s ?_⟩
    simp -implicitDefEqProofs [go_sem, wrap_succ (show i ≤ 1000000000 by omega)]
    refine ⟨i + 1, by omega, by omega, k + 1, ?_⟩
    rw [hsz]
    exact Sh.forget (by simp [go_sem, ic]) rfl (by simp)
  rintro k -
  dsimp only
  refine SWp.seq (Wp.s ?_)
  simp -implicitDefEqProofs [go_sem]
  refine CC.le (.cons (.agg (.cons (.refl _) (.cons (.refl _) (.cons (.refl _) (.cons (.nil 1 (by decide)) (.cons (.refl _) .nil)))))) (.cons (.sh _ _ _) .nil)) ?_
  rw [show [CV.v (.int .i64 p.cy), .v (.int .i64 num), .v (.int .i64 tm), .sl .sh 1 [], .sl .sh 3 ((ctW q.im (mxP q.dirty) q.dirty.length).map wrC)] = cycC ⟨p.cy, num, tm, [], ctW q.im (mxP q.dirty) q.dirty.length⟩ from rfl]
  refine CC.mono (cCheck_cc _ _ .sh ⟨p.cy, num, tm, [], ctW q.im (mxP q.dirty) q.dirty.length⟩ (imgSz q.im) (by show (ctW q.im (mxP q.dirty) q.dirty.length).length ≤ _; omega) hws (by rw [imgSz, List.length_map]; omega) (by simp)) ?_
  rintro _ _ _ ⟨rfl, rfl, rfl⟩
  rw [hc]
  simp -implicitDefEqProofs [go_sem]
  refine CC.mono (fok_cc _ _) ?_
  rintro _ _ _ ⟨rfl, rfl⟩
  simp -implicitDefEqProofs [go_sem]
  refine SWp.seq (Wp.s ?_)
  simp -implicitDefEqProofs [go_sem, hst, prcC]
  refine SWp.seq (Wp.s ?_)
  simp -implicitDefEqProofs [go_sem]
  refine SWp.seq (SWp.drawnT [H.length + 3] [3, 4, 5] (.s 0 .pl <| .s 1 .pl <| .s 2 .ld <| .s 3 .st <| .s 4 .st <| .s 5 .st <| .n) (by kernel_rfl) (by kernel_rfl) ?_)
  simp -implicitDefEqProofs [go_sem]
  refine ⟨Kp_one _ _ _ 3 rfl, ?_⟩
  refine Wp.s ?_
  simp -implicitDefEqProofs [go_sem]
  refine CR.mono (round1_cr _ _ _ _ _ (hget _ _ 4)) ?_
  rintro _ _ ⟨rfl, rfl⟩
  have w1 : IntKind.i64.wrap (1 : Int) = 1 := IntWalk.i64_in _ ⟨by omega, by omega⟩
  simp -implicitDefEqProofs [go_sem, hdn, w1]
  refine Fin.pu (.tup (.cons (.refl _) (.cons (.agg (.cons (.refl _) (.cons (.refl _) (.cons (.refl _) (.cons (.nil 1 (by decide)) (.cons (.refl _) .nil)))))) (.cons (.refl _) .nil)))) ?_ hokH (by simp) (by simp)
  simp [go_sem, cycC, okL, okV, okE_wrs]
end Go.Proofs.YtpedbpbmnchllaaGreatDoor
namespace Go.Proofs.YtpedbpbmnchllaaGreatDoor
open Go.Proofs
def frE (n : Nat) (l : List (Nat × Nat)) : Bm := l.foldl (fun b e => setB b e.1 e.2) ⟨n, 0⟩
theorem frE_snoc (n : Nat) (l : List (Nat × Nat)) (e : Nat × Nat) : frE n (l ++ [e]) = setB (frE n l) e.1 e.2 := by simp [frE]
theorem frE_n (n : Nat) (l : List (Nat × Nat)) : (frE n l).n = n := by
  induction l using snoc_ind with
  | h0 => rfl
  | h1 l e ih => rw [frE_snoc]; exact ih
theorem frE_ok {n : Nat} (h1 : 1 ≤ n) (h2 : n ≤ 63) {l : List (Nat × Nat)} (h : ∀ e ∈ l, e.1 + e.2 ≤ n) : BmOk (frE n l) := by
  induction l using snoc_ind with
  | h0 => exact ⟨h1, h2, Nat.two_pow_pos n⟩
  | h1 l e ih => rw [frE_snoc]; exact setB_ok (ih fun x hx => h x (by simp [hx])) (by rw [frE_n]; exact h e (by simp))
set_option maxRecDepth 8000 in
theorem fromEx_cc (H : Hp) (V : List Nat) (n : Nat) (l : List (Nat × Nat)) (h1 : 1 ≤ n) (h2 : n ≤ 63) (h : ∀ e ∈ l, e.1 + e.2 ≤ n) (hl : l.length ≤ 1000) : CC Tryz.prog 44 [ci n, .sl .sh 2 (l.map exC)] H V (Pu (.tup [.agg (bmC (frE n l)), er 0]) H V) := by
  refine CC.of_swp Tryz.func44 rfl (by kernel_rfl) (by rw [Tryz.ntmps44]; exact len_le _ _ rfl) fun hok hokH => ?_
  clear hok
  refine SWp.seq (Wp.s ?_)
  simp -implicitDefEqProofs [go_sem, args0]
  refine SWp.seq (Wp.s ?_)
  simp -implicitDefEqProofs [go_sem]
  refine CC.mono (bmNew_cc _ _ n h1 h2) ?_
  rintro _ _ _ ⟨rfl, rfl, rfl⟩
  simp -implicitDefEqProofs [go_sem]
  refine SWp.seq (SWp.seq (Wp.s ?_))
  simp -implicitDefEqProofs [go_sem]
  refine Wp.s ?_
  simp -implicitDefEqProofs [go_sem]
  refine SWp.join (α := Unit) (fun _ => ([(4, .ptr H.length 0), (6, .ptr (H.length + 1) 0)], H ++ [some [ci 0, .v (.slice none 0 0)], some (bmC (frE n l))], V)) (fun _ => True) ?_ ?_
  · refine SWp.seq (Wp.s ?_)
    simp -implicitDefEqProofs [go_sem]
    refine SWp.block ?_
    refine SWp.loop (α := Nat) (fun i => ([(4, .ptr H.length 0), (6, .ptr (H.length + 1) 0), (19, .sl .sh 2 (l.map exC)), (20, ci l.length), (21, ci i)], H ++ [some [ci 0, .v (.slice none 0 0)], some (bmC (frE n (l.take i)))], V)) (fun i => i ≤ l.length) (fun i => l.length - i) 0 (Nat.zero_le _) (Sh.forget (by simp [go_sem]) (by simp [frE]) rfl) ?_
    intro i hi
    dsimp only
    refine SWp.seq (Wp.s ?_)
    simp -implicitDefEqProofs [go_sem]
    refine SWp.seq (Wp.s ?_)
    simp -implicitDefEqProofs [go_sem]
    refine ⟨fun hil => ?_, fun hil => ?_⟩
    case refine_2 =>
      obtain rfl : i = l.length := by omega
      rw [List.take_length]
      exact Sh.forget (by simp [go_sem]) rfl rfl
    have he := h l[i] (List.getElem_mem hil)
    have hok := frE_ok h1 h2 (l := l.take i) fun e he => h e (List.mem_of_mem_take he)
    have hn := frE_n n (l.take i)
    have hts : frE n (l.take (i + 1)) = setB (frE n (l.take i)) l[i].1 l[i].2 := by rw [List.take_succ_eq_append_getElem hil, frE_snoc]
    generalize frE n (l.take i) = b at hok hn hts ⊢
    refine SWp.seq (SWp.block (SWp.seq (Wp.s ?_)))
    simp -implicitDefEqProofs [go_sem, hil]
    refine SWp.seq (Wp.s ?_)
    simp -implicitDefEqProofs [go_sem]
    rw [show exC l[i] = [ci (l[i].1 : Nat), ci (l[i].2 : Nat)] from rfl]
    refine CC.mono (bmSet_cc _ _ b l[i].1 l[i].2 hok (by omega)) ?_
    rintro _ _ _ ⟨rfl, rfl, rfl⟩
    simp -implicitDefEqProofs [go_sem]
    refine SWp.seq (Wp.s ?_)
    simp -implicitDefEqProofs [go_sem]
    refine Wp.s ?_
    simp -implicitDefEqProofs [go_sem]
    refine Wp.s ?_
    simp -implicitDefEqProofs [go_sem]
    refine ⟨i + 1, by omega, by omega, ?_⟩
    rw [hts]
    refine Sh.trim (L := [some [ci 0, .v (.slice none 0 0)], some (bmC (setB b l[i].1 l[i].2))]) ?_ (by simp [go_sem, okE_exs]) hokH (by simp [go_sem, okL, okV]) (by simp) (by simp) (by simp)
    simp [go_sem, wrap_succ (show i ≤ 1000000000 by omega)]
  rintro _ -
  dsimp only
  refine SWp.seq (Wp.s ?_)
  simp -implicitDefEqProofs [go_sem]
  refine Wp.s ?_
  simp -implicitDefEqProofs [go_sem]
  exact Fin.pu (.refl _) (by simp [go_sem]) hokH (by simp) (by simp)
end Go.Proofs.YtpedbpbmnchllaaGreatDoor
namespace Go.Proofs.YtpedbpbmnchllaaGreatDoor
open Go.Proofs
theorem okE_bmt (jb jv : Nat) (l : List Bm) (i : Nat) (b : Bm) : okE jb jv (List.take i (l.map bmC) ++ [bmC b]) = True := by
  rw [← List.map_take, show (l.take i).map bmC ++ [bmC b] = (l.take i ++ [b]).map bmC by simp]; exact eq_true (okE_bms ..)
theorem turn2_cc (H : Hp) (V : List Nat) (v : Int) (b : Bm) : CC Tryz.prog 47 [ci v, .agg (bmC b)] H V (Pu (.agg (bmC b)) H V) := by
  refine CC.of_swp Tryz.func47 rfl (by kernel_rfl) (by rw [Tryz.ntmps47]; exact len_le _ _ rfl) fun hok hokH => ?_
  clear hok
  refine SWp.seq (Wp.s ?_)
  simp -implicitDefEqProofs [go_sem, args0]
  refine SWp.seq (SWp.drawnT [] [6] (.s 0 .pl <| .s 1 .pl <| .s 2 .pl <| .s 3 .pl <| .s 4 .pl <| .s 5 .pl <| .s 6 .st <| .n) (by kernel_rfl) (by kernel_rfl) ?_)
  simp -implicitDefEqProofs [go_sem]
  refine CC.mono (cloneW_cc _ _ b.w) ?_
  rintro _ _ _ ⟨rfl, rfl, rfl⟩
  simp -implicitDefEqProofs [go_sem]
  refine Wp.s ?_
  simp -implicitDefEqProofs [go_sem]
  refine Fin.frozY (b := H.length + 2) (cs := [wv b.w]) (r1 := .agg [ci b.n, .bsl (H.length + 2) 0 1 1]) (r2 := .agg (bmC b)) ⟨rfl, rfl, rfl⟩ (.refl _) (hget _ _ 2) (.agg (.cons (.refl _) (.cons (.bsl 0 1 1 (by simp)) .nil))) (by omega) (by simp [go_sem]) hokH (by simp) (by simp)
theorem volumesB_cc (H : Hp) (V : List Nat) (l : List Bm) (hl : l.length ≤ 1000) : CC Tryz.prog 46 [.sl .sh 2 (l.map bmC), .fn 47 []] H V (Pu (.sl .sh 2 (l.map bmC)) H V) := by
  refine CC.of_swp Tryz.func46 rfl (by kernel_rfl) (by rw [Tryz.ntmps46]; exact len_le _ _ rfl) fun hok hokH => ?_
  clear hok
  refine SWp.seq (Wp.s ?_)
  simp -implicitDefEqProofs [go_sem, args0]
  refine SWp.seq (Wp.s ?_)
  simp -implicitDefEqProofs [go_sem]
  refine SWp.join (α := Nat) (fun k => ([(5, .sl (.own V.length k) 2 (l.map bmC))], H, V ++ [k])) (fun _ => True) ?_ ?_
  · refine SWp.seq (Wp.s ?_)
    simp -implicitDefEqProofs [go_sem]
    refine SWp.block ?_
    refine SWp.loop (α := Nat × Nat) (fun u => ([(1, .fn 47 []), (5, .sl (.own V.length u.2) 2 ((l.take u.1).map bmC)), (8, .sl .sh 2 (l.map bmC)), (9, ci l.length), (10, ci u.1)], H, V ++ [u.2])) (fun u => u.1 ≤ l.length) (fun u => l.length - u.1) (0, 0) (Nat.zero_le _) (Sh.tokT (by simp [go_sem]) rfl rfl) ?_
    rintro ⟨i, k⟩ hi
    dsimp only at hi ⊢
    refine SWp.seq (Wp.s ?_)
    simp -implicitDefEqProofs [go_sem]
    refine SWp.seq (Wp.s ?_)
    simp -implicitDefEqProofs [go_sem]
    refine ⟨fun h => ?_, fun h => ?_⟩
    case refine_2 =>
      obtain rfl : i = l.length := by omega
      rw [List.take_of_length_le (by simp)]
      exact ⟨k, Sh.forget (by simp [go_sem]) rfl rfl⟩
    have htk : List.take (i + 1) (l.map bmC) = List.take i (l.map bmC) ++ [bmC l[i]] := by rw [List.take_succ_eq_append_getElem (by simpa using h), List.getElem_map]
    refine SWp.seq (SWp.block (SWp.seq (Wp.s ?_)))
    simp -implicitDefEqProofs [go_sem, h]
    refine Wp.s ?_
    simp -implicitDefEqProofs [go_sem]
    refine CC.mono (turn2_cc _ _ i l[i]) ?_
    rintro _ _ _ ⟨rfl, rfl, rfl⟩
    simp -implicitDefEqProofs [go_sem]
    refine ⟨by omega, ?_⟩
    refine Wp.s ?_
    simp -implicitDefEqProofs [go_sem]
    refine ⟨i + 1, by omega, by omega, k + 1, ?_⟩
    rw [htk]
    refine Sh.trim0 ?_ (by simp [go_sem, okE_bms, okE_bmt]) hokH (by simp) (by simp) (by simp)
    simp [go_sem, wrap_succ (show i ≤ 1000000000 by omega)]
  rintro k -
  dsimp only
  refine SWp.seq (Wp.s ?_)
  simp -implicitDefEqProofs [go_sem]
  refine Wp.s ?_
  simp -implicitDefEqProofs [go_sem]
  exact Fin.pu (.sh _ _ _) (by simp [go_sem, okE_bms]) hokH (by simp) (by simp)
theorem turn1_cc (H : Hp) (V : List Nat) (p : Pee) (b : Nat) (s : Int) (hb : H[b]? = some (some [ci s])) : CC Tryz.prog 43 [.agg (prC p), .ptr b 0] H V (Pu (cb (decide ((p.site : Int) = s))) H V) := by
  refine CC.of_swp Tryz.func43 rfl (by kernel_rfl) (by rw [Tryz.ntmps43]; exact len_le _ _ rfl) fun hok hokH => ?_
  clear hok
  have hbl := lt_of_box hb
  have hb2 : (H ++ [some (prC p)])[b]? = some (some [ci s]) := by rw [List.getElem?_append_left hbl]; exact hb
  refine SWp.seq (Wp.s ?_)
  simp -implicitDefEqProofs [go_sem, args0]
  refine SWp.seq (Wp.s ?_)
  simp -implicitDefEqProofs [go_sem, hbx_of hb2]
  refine Wp.s ?_
  simp -implicitDefEqProofs [go_sem]
  exact Fin.bool rfl hokH (by simp) (by simp)
theorem indexP_cc (H : Hp) (V : List Nat) (l : List Pee) (b i : Nat) (s : Int) (hb : H[b]? = some (some [ci s])) (hi : i < l.length) (hs : (l[i].site : Int) = s) (hn : ∀ j (h : j < l.length), j < i → ¬ (l[j].site : Int) = s) (hl : l.length ≤ 1000) : CC Tryz.prog 42 [.sl .sh 3 (l.map prC), .fn 43 [.ptr b 0]] H V (Pu (ci i) H V) := by
  refine CC.of_swp Tryz.func42 rfl (by kernel_rfl) (by rw [Tryz.ntmps42]; exact len_le _ _ rfl) fun hok hokH => ?_
  clear hok
  refine SWp.seq (Wp.s ?_)
  simp -implicitDefEqProofs [go_sem, args0]
  refine SWp.seq ?_
  refine SWp.seq (Wp.s ?_)
  simp -implicitDefEqProofs [go_sem]
  refine SWp.block ?_
  refine SWp.loop (α := Nat) (fun k => ([(0, .sl .sh 3 (l.map prC)), (1, .fn 43 [.ptr b 0]), (6, .sl .sh 3 (l.map prC)), (7, ci l.length), (8, ci k)], H, V)) (fun k => k ≤ i) (fun k => i + 1 - k) 0 (Nat.zero_le _) (Sh.forget (by simp [go_sem]) rfl rfl) ?_
  intro k hk
  dsimp only
  refine SWp.seq (Wp.s ?_)
  simp -implicitDefEqProofs [go_sem]
  refine SWp.seq (Wp.s ?_)
  simp -implicitDefEqProofs [go_sem]
  refine ⟨fun h => ?_, fun h => by omega⟩
  refine SWp.seq (SWp.block (SWp.seq (Wp.s ?_)))
  simp -implicitDefEqProofs [go_sem, h]
  refine SWp.seq (Wp.s ?_)
  simp -implicitDefEqProofs [go_sem, h]
  refine CC.mono (turn1_cc _ _ l[k] b s hb) ?_
  rintro _ _ _ ⟨rfl, rfl, rfl⟩
  simp -implicitDefEqProofs [go_sem]
  by_cases hki : k = i
  · subst hki
    rw [show decide ((l[k].site : Int) = s) = true from decide_eq_true hs]
    refine Wp.s ?_
    simp -implicitDefEqProofs [go_sem]
    exact Fin.pu (.refl _) (by simp [go_sem]) hokH (by simp) (by simp)
  · have hne := hn k h (by omega)
    rw [show decide ((l[k].site : Int) = s) = false from decide_eq_false hne]
    refine Wp.s ?_
    simp -implicitDefEqProofs [go_sem]
    refine Wp.s ?_
    simp -implicitDefEqProofs [go_sem]
    refine ⟨k + 1, by omega, by omega, Sh.forget ?_ rfl rfl⟩
    simp [go_sem, wrap_succ (show k ≤ 1000000000 by omega)]
end Go.Proofs.YtpedbpbmnchllaaGreatDoor
namespace Go.Proofs.YtpedbpbmnchllaaGreatDoor
open Go.Proofs
def tnD (z : List Nat) (X : List (List (Nat × Nat))) (d : List Bm) : List Bm := (List.range z.length).map fun v => orB (frE (z.getD v 0) (X.getD v [])) (d.getD v ⟨1, 0⟩)
theorem tnD_len (z : List Nat) (X : List (List (Nat × Nat))) (d : List Bm) : (tnD z X d).length = z.length := by simp [tnD]
theorem tnD_get (z : List Nat) (X : List (List (Nat × Nat))) (d : List Bm) (v : Nat) (h : v < (tnD z X d).length) (h1 : v < z.length) (h2 : v < X.length) (h3 : v < d.length) : (tnD z X d)[v] = orB (frE z[v] X[v]) d[v] := by
  simp [tnD, List.getD_eq_getElem?_getD, h1, h2, h3]
structure ExOk (z : List Nat) (X : List (List (Nat × Nat))) : Prop where
  len : X.length = z.length
  few : ∀ l ∈ X, l.length ≤ 63
  ok : ∀ v (h : v < X.length) (h2 : v < z.length), ∀ e ∈ X[v], e.1 + e.2 ≤ z[v]
def tnT (t : Trk) (i : Nat) (c : Int) (X : List (List (Nat × Nat))) : Trk := ⟨t.z, t.peers.mapIdx fun j p => if j = i then ⟨p.site, c, tnD t.z X p.dirty⟩ else p⟩
theorem okE_prt (jb jv : Nat) (l : List Pee) (i : Nat) (b : Pee) : okE jb jv (List.take i (l.map prC) ++ [prC b]) = True := by
  rw [← List.map_take, show (l.take i).map prC ++ [prC b] = (l.take i ++ [b]).map prC by simp]; exact eq_true (okE_prs ..)
set_option maxRecDepth 8000 in
set_option maxHeartbeats 3200000 in
theorem turn_cc (H : Hp) (V : List Nat) (t : Trk) (i : Nat) (c : Int) (X : List (List (Nat × Nat))) (ht : TrkOk t) (hi : i < t.peers.length) (c0 : 0 ≤ c) (c1 : c ≤ 1073741824) (hX : ExOk t.z X) : CC Tryz.prog 9 [.agg (trkC t), ci t.peers[i].site, ci c, .sl .sh 1 (X.map mxsE)] H V (Pu (.tup [.agg (trkC (tnT t i c X)), er 0]) H V) := by
  refine CC.of_swp Tryz.func9 rfl (by kernel_rfl) (by rw [Tryz.ntmps9]; exact len_le _ _ rfl) fun hok hokH => ?_
  clear hok
  have hz := ht.z
  have hz8 := hz.few
  have hp4 := ht.few
  refine SWp.seq (Wp.s ?_)
  simp -implicitDefEqProofs [go_sem, args0]
  refine SWp.scope ?_
  refine SWp.seq (Wp.s ?_)
  simp -implicitDefEqProofs [go_sem]
  refine CC.mono (tkCheck_cc _ _ t ht) ?_
  rintro _ _ _ ⟨rfl, rfl, rfl⟩
  simp -implicitDefEqProofs [go_sem]
  refine SWp.seq (Wp.s ?_)
  simp -implicitDefEqProofs [go_sem]
  refine CC.mono (indexP_cc _ _ t.peers (H.length + 1) i t.peers[i].site (hget _ _ 1) hi rfl (fun j hj hji => ?_) (by omega)) ?_
  · have := (ht.incP).lt i j (by simpa using hi) hji
    simp at this; omega
  rintro _ _ _ ⟨rfl, rfl, rfl⟩
  simp -implicitDefEqProofs [go_sem]
  refine SWp.seq (Wp.s ?_)
  simp -implicitDefEqProofs [go_sem]
  refine SWp.seq (Wp.s ?_)
  simp -implicitDefEqProofs [go_sem]
  refine CC.mono (vcloneInt_cc _ _ .sh (zI t.z) (by rw [zI_len]; omega)) ?_
  rintro _ _ _ ⟨rfl, rfl, rfl⟩
  simp -implicitDefEqProofs [go_sem]
  have hxl := hX.len
  refine SWp.seq (SWp.block ?_)
  refine SWp.seq (Wp.s ?_)
  simp -implicitDefEqProofs [go_sem]
  refine Wp.s ?_
  simp -implicitDefEqProofs [go_sem, show ¬ (i : Int) < 0 by omega, show ¬ c < 0 by omega, show ¬ (1073741824 : Int) < c by omega, zI_len, hxl]
  have hpi := ht.ok _ (List.getElem_mem hi)
  have hdl := hpi.dirty.len
  have htl := tnD_len t.z X t.peers[i].dirty
  generalize hD : tnD t.z X t.peers[i].dirty = D at htl
  refine SWp.join (α := Nat) (fun k => ([(2, ci c), (4, .ptr H.length 0), (5, .ptr (H.length + 1) 0), (8, .ptr (H.length + 2) 0), (11, ci i), (12, .sl .sh 2 (D.map bmC)), (13, .ptr (H.length + 3) 0)], H ++ [some (trkC t), some [ci t.peers[i].site], some [.v (.slice none 0 0), .v (.slice none 0 0)], some [.sl .sh 1 ((zI t.z).map ic), .v (.slice none 0 0)]], V ++ [k])) (fun _ => True) ?_ ?_
  · refine SWp.seq (Wp.s ?_)
    simp -implicitDefEqProofs [go_sem]
    refine SWp.block ?_
    refine SWp.loop (α := Nat × Nat) (fun u => ([(2, ci c), (3, .sl .sh 1 (X.map mxsE)), (4, .ptr H.length 0), (5, .ptr (H.length + 1) 0), (8, .ptr (H.length + 2) 0), (11, ci i), (12, .sl (.own V.length u.2) 2 ((D.take u.1).map bmC)), (13, .ptr (H.length + 3) 0), (51, .sl .sh 1 ((zI t.z).map ic)), (52, ci t.z.length), (53, ci u.1)], H ++ [some (trkC t), some [ci t.peers[i].site], some [.v (.slice none 0 0), .v (.slice none 0 0)], some [.sl .sh 1 ((zI t.z).map ic), .v (.slice none 0 0)]], V ++ [u.2])) (fun u => u.1 ≤ t.z.length) (fun u => t.z.length - u.1) (0, 0) (Nat.zero_le _) (Sh.tokT (by simp [go_sem, zI_len]) rfl rfl) ?_
    rintro ⟨v, k⟩ hv
    dsimp only at hv ⊢
    refine SWp.seq (Wp.s ?_)
    simp -implicitDefEqProofs [go_sem]
    refine SWp.seq (Wp.s ?_)
    simp -implicitDefEqProofs [go_sem]
    refine ⟨fun h => ?_, fun h => ?_⟩
    case refine_2 =>
      obtain rfl : v = t.z.length := by omega
      rw [List.take_of_length_le (by simp; omega)]
      exact ⟨k, Sh.forget (by simp [go_sem]) rfl rfl⟩
    obtain ⟨z1, z2⟩ := hz.ok _ (List.getElem_mem h)
    have hvX : v < X.length := by omega
    have hvd : v < t.peers[i].dirty.length := by omega
    have hE1 := hX.few _ (List.getElem_mem hvX)
    have hE2 := hX.ok v hvX h
    obtain ⟨b1, b2⟩ := hpi.dirty.ok v hvd h
    have hg := tnD_get t.z X t.peers[i].dirty v (by rw [hD]; omega) h hvX hvd
    have hvD : v < D.length := by omega
    simp only [hD] at hg
    have htk : List.take (v + 1) (D.map bmC) = List.take v (D.map bmC) ++ [bmC (orB (frE t.z[v] X[v]) t.peers[i].dirty[v])] := by rw [List.take_succ_eq_append_getElem (by simpa using hvD), List.getElem_map, hg]
    have hok := frE_ok z1 z2 hE2
    have hn := frE_n t.z[v] X[v]
    have hzv : (zI t.z)[v]'(by rw [zI_len]; exact h) = ((t.z[v] : Nat) : Int) := zI_get _ _ _
    refine SWp.seq (SWp.block (SWp.seq (Wp.s ?_)))
    simp -implicitDefEqProofs [go_sem, h, zI_len, hzv]
    refine SWp.seq (Wp.s ?_)
    simp -implicitDefEqProofs [go_sem, hvX]
    refine CC.mono (fromEx_cc _ _ t.z[v] X[v] z1 z2 hE2 (by omega)) ?_
    rintro _ _ _ ⟨rfl, rfl, rfl⟩
    simp -implicitDefEqProofs [go_sem]
    generalize hB : frE t.z[v] X[v] = B at hok hn htk ⊢
    refine SWp.seq (SWp.seq (Wp.s ?_))
    simp -implicitDefEqProofs [go_sem]
    refine Wp.s ?_
    simp -implicitDefEqProofs [go_sem]
    refine SWp.drawnT [] [14] (.s 0 .pl <| .s 1 .pl <| .s 2 .pl <| .s 3 .pl <| .s 4 .pl <| .s 5 .pl <| .s 6 .pl <| .s 7 .pl <| .s 8 .pl <| .s 9 .pl <| .s 10 .pl <| .s 11 .pl <| .s 12 .pl <| .s 13 .pl <| .s 14 .st <| .s 15 .pl <| .n) (by kernel_rfl) (by kernel_rfl) ?_
    simp -implicitDefEqProofs [go_sem, hi, hvd]
    refine CC.mono (bmOr_cc _ _ B t.peers[i].dirty[v] hok b1 (by rw [hn, b2])) ?_
    rintro _ _ _ ⟨rfl, rfl, rfl⟩
    simp -implicitDefEqProofs [go_sem]
    refine SWp.seq (SWp.seq (Wp.s ?_))
    simp -implicitDefEqProofs [go_sem]
    refine SWp.seq (Wp.s ?_)
    simp -implicitDefEqProofs [go_sem]
    refine Wp.s ?_
    simp -implicitDefEqProofs [go_sem]
    refine Wp.s ?_
    simp -implicitDefEqProofs [go_sem]
    refine ⟨by omega, ?_⟩
    refine Wp.s ?_
    simp -implicitDefEqProofs [go_sem]
    refine ⟨v + 1, by omega, by omega, k + 1, ?_⟩
    rw [htk]
    refine Sh.trim (L := [some (trkC t), some [ci t.peers[i].site], some [.v (.slice none 0 0), .v (.slice none 0 0)], some [.sl .sh 1 ((zI t.z).map ic), .v (.slice none 0 0)]]) ?_ (by simp [go_sem, okE_bmt, okE_exss, okE_ints]) hokH (by simp [go_sem, okL, okV, okE_ints]) (by simp) (by simp) (by simp)
    simp [go_sem, wrap_succ (show v ≤ 1000000000 by omega)]
  rintro k -
  dsimp only
  obtain ⟨P', hP'⟩ : ∃ P', P' = (tnT t i c X).peers := ⟨_, rfl⟩
  have hPl : P'.length = t.peers.length := by rw [hP', tnT, List.length_mapIdx]
  have hPg : ∀ j (h : j < t.peers.length) (h2 : j < P'.length), P'[j] = if j = i then ⟨t.peers[j].site, c, tnD t.z X t.peers[j].dirty⟩ else t.peers[j] := fun j h h2 => by subst hP'; simp [tnT]
  refine SWp.join (α := Nat × Nat) (fun u => ([(8, .ptr (H.length + 2) 0), (13, .ptr (H.length + 3) 0)], H ++ [some (trkC t), some [ci t.peers[i].site], some [.v (.slice none 0 0), .v (.slice none 0 0)], some [.sl .sh 1 ((zI t.z).map ic), .sl (.own (V.length + 1) u.2) 3 (P'.map prC)]], V ++ [u.1, u.2])) (fun _ => True) ?_ ?_
  · refine SWp.seq (Wp.s ?_)
    simp -implicitDefEqProofs [go_sem]
    refine SWp.block ?_
    refine SWp.loop (α := Nat × Nat) (fun u => ([(2, ci c), (4, .ptr H.length 0), (5, .ptr (H.length + 1) 0), (8, .ptr (H.length + 2) 0), (11, ci i), (12, .sl .sh 2 (D.map bmC)), (13, .ptr (H.length + 3) 0), (92, .sl .sh 3 (t.peers.map prC)), (93, ci t.peers.length), (94, ci u.1)], H ++ [some (trkC t), some [ci t.peers[i].site], some [.v (.slice none 0 0), .v (.slice none 0 0)], some [.sl .sh 1 ((zI t.z).map ic), .sl (.own (V.length + 1) u.2) 3 ((P'.take u.1).map prC)]], V ++ [k, u.2])) (fun u => u.1 ≤ t.peers.length) (fun u => t.peers.length - u.1) (0, 0) (Nat.zero_le _) ?_ ?_
    · exact Sh.tokL (b := H.length + 3) (hget _ _ 3) (ds := [.sl .sh 1 ((zI t.z).map ic), .sl (.own (V.length + 1) 0) 3 ((P'.take 0).map prC)]) (by simp [go_sem]) (by simp [CV.isObj]) (by simp [go_sem]) (by simp) (by simp)
    rintro ⟨j, k2⟩ hj
    dsimp only at hj ⊢
    refine SWp.seq (Wp.s ?_)
    simp -implicitDefEqProofs [go_sem]
    refine SWp.seq (Wp.s ?_)
    simp -implicitDefEqProofs [go_sem]
    refine ⟨fun h => ?_, fun h => ?_⟩
    case refine_2 =>
      obtain rfl : j = t.peers.length := by omega
      rw [List.take_of_length_le (by simp; omega)]
      exact ⟨k, k2, Sh.forget (by simp [go_sem]) rfl rfl⟩
    have htk : List.take (j + 1) (P'.map prC) = List.take j (P'.map prC) ++ [prC (P'[j]'(by omega))] := by rw [List.take_succ_eq_append_getElem (by simp; omega), List.getElem_map]
    have hg := hPg j h (by omega)
    refine SWp.seq (SWp.block (SWp.seq (Wp.s ?_)))
    simp -implicitDefEqProofs [go_sem, h]
    refine SWp.seq (SWp.seq (Wp.s ?_))
    by_cases hji : j = i
    · subst hji
      rw [if_pos rfl, hD] at hg
      simp -implicitDefEqProofs [go_sem]
      refine Wp.s ?_
      simp -implicitDefEqProofs [go_sem]
      refine Wp.s ?_
      simp -implicitDefEqProofs [go_sem]
      refine ⟨by omega, ?_⟩
      refine Wp.s ?_
      simp -implicitDefEqProofs [go_sem]
      refine ⟨j + 1, by omega, by omega, k2 + 1, ?_⟩
      rw [htk, hg]
      refine Sh.trim (L := [some (trkC t), some [ci t.peers[j].site], some [.v (.slice none 0 0), .v (.slice none 0 0)], some [.sl .sh 1 ((zI t.z).map ic), .sl (.own (V.length + 1) (k2 + 1)) 3 (List.take j (P'.map prC) ++ [prC ⟨t.peers[j].site, c, D⟩])]]) ?_ (by simp [go_sem, okE_bms, okE_prs, okE_ints]) hokH (by simp [go_sem, okL, okV, okE_ints, okE_prt]) (by simp) (by simp [prC]) (by simp)
      simp [go_sem, wrap_succ (show j ≤ 1000000000 by omega)]
    · have hji' : ¬ (j : Int) = i := by omega
      rw [if_neg hji] at hg
      simp -implicitDefEqProofs [go_sem, hji, hji']
      refine Wp.s ?_
      simp -implicitDefEqProofs [go_sem]
      have hdj := (ht.ok _ (List.getElem_mem h)).dirty.len
      refine CC.mono (volumesB_cc _ _ t.peers[j].dirty (by omega)) ?_
      rintro _ _ _ ⟨rfl, rfl, rfl⟩
      simp -implicitDefEqProofs [go_sem]
      refine Wp.s ?_
      simp -implicitDefEqProofs [go_sem]
      refine ⟨by omega, ?_⟩
      refine Wp.s ?_
      simp -implicitDefEqProofs [go_sem]
      refine ⟨j + 1, by omega, by omega, k2 + 1, ?_⟩
      rw [htk, hg]
      refine Sh.trim (L := [some (trkC t), some [ci t.peers[i].site], some [.v (.slice none 0 0), .v (.slice none 0 0)], some [.sl .sh 1 ((zI t.z).map ic), .sl (.own (V.length + 1) (k2 + 1)) 3 (List.take j (P'.map prC) ++ [prC t.peers[j]])]]) ?_ (by simp [go_sem, okE_bms, okE_prs, okE_ints]) hokH (by simp [go_sem, okL, okV, okE_ints, okE_prt]) (by simp) (by simp [prC]) (by simp)
      simp [go_sem, wrap_succ (show j ≤ 1000000000 by omega)]
  rintro ⟨k1, k2⟩ -
  dsimp only
  refine SWp.seq (Wp.s ?_)
  simp -implicitDefEqProofs [go_sem]
  rw [show trkC (tnT t i c X) = [.sl .sh 1 ((zI t.z).map ic), .sl .sh 3 (P'.map prC)] by rw [hP']; rfl]
  exact Fin.pu (.tup (.cons (.agg (.cons (.refl _) (.cons (.sh _ _ _) .nil))) (.cons (.refl _) .nil))) (by simp [go_sem, okL, okV, okE_ints, okE_prs]) hokH (by simp) (by simp)
end Go.Proofs.YtpedbpbmnchllaaGreatDoor
namespace Go.Proofs.YtpedbpbmnchllaaGreatDoor
open Go.Proofs
theorem wrapU {i : Nat} (h : i < 9223372036854775807) : IntKind.i64.wrap ((i : Int) + 1) = ((i + 1 : Nat) : Int) := by
  rw [IntWalk.i64_in _ ⟨by omega, by omega⟩]; rfl
theorem fitsBU_cc (H : Hp) (V : List Nat) (tk : Tk) (b : Nat) (l : Img) (w : Wr) (hl : l.length ≤ 1000000000) (hs : ∀ v ∈ l, v.length ≤ 1000000000) (hw : w.data.length ≤ 9223372036854775807) (hb : b + l.length ≤ H.length) : CC Tryz.prog 75 [.sl tk 1 (bxs b l), .agg (wrC w)] H V (Pu (er (fitsS (imgSz l) w)) H V) := by
  refine CC.of_swp Tryz.func75 rfl (by kernel_rfl) (by rw [Tryz.ntmps75]; exact len_le _ _ rfl) fun hok hokH => ?_
  clear hok
  refine SWp.seq (Wp.s ?_)
  simp -implicitDefEqProofs [go_sem, args0]
  refine SWp.seq (SWp.block (SWp.seq (Wp.s ?_)))
  by_cases h1 : w.volume < 0
  · simp -implicitDefEqProofs [go_sem, h1]
    refine Wp.s ?_
    simp -implicitDefEqProofs [go_sem]
    exact Fin.er (by rw [fitsS, if_pos (.inl h1)]) hokH (by simp) (by simp)
  by_cases h2 : (l.length : Int) ≤ w.volume
  · simp -implicitDefEqProofs [go_sem, h1, h2]
    refine Wp.s ?_
    simp -implicitDefEqProofs [go_sem]
    exact Fin.er (by rw [fitsS, if_pos (.inr (by simpa using h2))]) hokH (by simp) (by simp)
  simp -implicitDefEqProofs [go_sem, h1, h2]
  refine Wp.s ?_
  obtain ⟨n, hn⟩ := Int.eq_ofNat_of_zero_le (Int.not_lt.1 h1)
  have hnl : n < l.length := by omega
  have hvl := hs l[n] (List.getElem_mem hnl)
  by_cases h3 : w.data.length = 0
  · simp -implicitDefEqProofs [go_sem, h1, h2, h3]
    exact Fin.er (by rw [fitsS, if_neg (by simp; omega), if_pos h3]) hokH (by simp) (by simp)
  simp -implicitDefEqProofs [go_sem, h1, h2, h3]
  refine SWp.drawnT [] [] (.s 0 .pl <| .s 1 .pl <| .s 2 .pl <| .s 3 .pl <| .s 4 .pl <| .s 5 .pl <| .s 6 .pl <| .s 7 .pl <| .s 8 .pl <| .s 9 .pl <| .s 10 .pl <| .s 11 .pl <| .s 12 .pl <| .s 13 .pl <| .s 14 .pl <| .s 15 .pl <| .s 16 .pl <| .s 17 .pl <| .s 18 .pl <| .n) (by kernel_rfl) (by kernel_rfl) ?_
  have hg : (imgSz l).getD w.volume.toNat 0 = (l[n].length : Int) := by rw [hn]; exact imgSz_getD l n hnl
  have hwr : IntKind.i64.wrap ((l[n].length : Int) - (w.data.length : Int)) = (l[n].length : Int) - (w.data.length : Int) := IntWalk.i64_in _ ⟨by omega, by omega⟩
  have hfit : fitsS (imgSz l) w = if w.start < 0 ∨ (l[n].length : Int) - (w.data.length : Int) < w.start then 2 else 0 := by
    rw [fitsS, if_neg (by simp; omega), if_neg h3, hg]
  rw [hfit]
  by_cases h4 : w.start < 0
  · simp -implicitDefEqProofs [go_sem, h4]
    exact Fin.er rfl hokH (by simp) (by simp)
  · simp -implicitDefEqProofs [go_sem, h4, hn, hnl, hwr]
    refine ⟨fun h5 => Fin.er (by rw [if_pos h5]) hokH (by simp) (by simp), fun h5 => ?_⟩
    refine Wp.s ?_
    simp -implicitDefEqProofs [go_sem]
    exact Fin.er (by rw [if_neg (by omega)]) hokH (by simp) (by simp)
set_option maxRecDepth 8000 in
theorem imApplyU_cc (H : Hp) (V : List Nat) (tk : Tk) (l : Img) (ws : List Wr) (hl : l.length ≤ 1000000000) (hn : ws.length ≤ 9223372036854775807) (hw : ∀ w ∈ ws, w.data.length ≤ 9223372036854775807) : CC Tryz.prog 25 [.sl tk 1 (l.map imE), .sl .sh 3 (ws.map wrC)] H V (Pu (apV (apR l ws)) H V) := by
  refine CC.of_swp Tryz.func25 rfl (by kernel_rfl) (by rw [Tryz.ntmps25]; exact len_le _ _ rfl) fun hok hokH => ?_
  clear hok
  have bad : ∀ (i e : Nat) (H' : Hp) (V' : List Nat), apR l ws = ([], i, e) → H'.take H.length = H → V'.take V.length = V → Fin H.length V.length (Pu (apV (apR l ws)) H V) (.tup [.v (.slice none 0 0), ci i, er e]) H' V' := fun i e H' V' h1 h2 h3 => by
    rw [h1]
    exact Fin.pu (.tup (.cons (.nil 1 (by decide)) (.cons (.refl _) (.cons (.refl _) .nil)))) (okV_apV _ _ _) hokH h2 h3
  refine SWp.seq (Wp.s ?_)
  simp -implicitDefEqProofs [go_sem, args0]
  refine SWp.seq (SWp.seq (Wp.s ?_))
  simp -implicitDefEqProofs [go_sem]
  refine CC.mono (iCheck_cc _ _ tk l hl) ?_
  rintro _ _ _ ⟨rfl, rfl, rfl⟩
  simp -implicitDefEqProofs [go_sem]
  refine SWp.seq (Wp.s ?_)
  by_cases h0 : sizesE (imgSz l) = 0
  case neg =>
    simp -implicitDefEqProofs [go_sem, h0]
    refine Wp.s ?_
    simp -implicitDefEqProofs [go_sem]
    exact bad 0 _ _ _ (by rw [apR, if_pos h0]) (by simp) (by simp)
  have e0 : apR l ws = apI l ws 0 := by rw [apR, if_neg (by simp [h0])]
  simp -implicitDefEqProofs [go_sem, h0]
  refine Wp.s ?_
  simp -implicitDefEqProofs [go_sem]
  obtain ⟨hl8, hvs⟩ := sizes_pos h0
  refine SWp.seq (Wp.s ?_)
  simp -implicitDefEqProofs [go_sem]
  refine CC.mono (imCopied_cc _ _ tk l (by omega) (fun v hv => ⟨(hvs v hv).1, by have := (hvs v hv).2; omega⟩)) ?_
  rintro _ _ _ ⟨rfl, rfl, rfl⟩
  simp -implicitDefEqProofs [go_sem]
  refine SWp.join (α := Img) (fun k => ([(8, .sl (.own V.length l.length) 1 (bxs H.length l))], H ++ imH k, V ++ [l.length])) (fun k => k.map List.length = l.map List.length ∧ apI l ws 0 = (k, 0, 0)) ?_ ?_
  · refine SWp.seq (Wp.s ?_)
    simp -implicitDefEqProofs [go_sem]
    refine SWp.block ?_
    refine SWp.loop (α := Nat × Img) (fun x => ([(8, .sl (.own V.length l.length) 1 (bxs H.length l)), (19, .sl .sh 3 (ws.map wrC)), (20, ci ws.length), (21, ci x.1)], H ++ imH x.2, V ++ [l.length])) (fun x => x.1 ≤ ws.length ∧ x.2.map List.length = l.map List.length ∧ apI l ws 0 = apI x.2 (ws.drop x.1) x.1) (fun x => ws.length - x.1) (0, l) ⟨Nat.zero_le _, rfl, rfl⟩ (Sh.forget (by simp [go_sem]) rfl rfl) ?_
    rintro ⟨i, k⟩ ⟨hi, hk, hap⟩
    dsimp only at hi hk hap ⊢
    refine SWp.seq (Wp.s ?_)
    simp -implicitDefEqProofs [go_sem]
    refine SWp.seq (Wp.s ?_)
    simp -implicitDefEqProofs [go_sem]
    have hkl : k.length = l.length := by have := congrArg List.length hk; simpa using this
    refine ⟨fun h => ?_, fun h => ?_⟩
    case refine_2 =>
      rw [List.drop_of_length_le h] at hap
      exact ⟨k, ⟨hk, hap⟩, Sh.forget (by simp [go_sem]) rfl rfl⟩
    rw [List.drop_eq_getElem_cons h] at hap
    have hbxe := bxs_eq H.length hk
    have hkn : ∀ v ∈ k, v.length ≤ 4096 := fun v hv => by
      have : v.length ∈ k.map List.length := List.mem_map.2 ⟨v, hv, rfl⟩
      rw [hk] at this
      obtain ⟨u, hu, he⟩ := List.mem_map.1 this
      have := (hvs u hu).2; omega
    have hdw := hw _ (List.getElem_mem h)
    obtain ⟨G, hG⟩ : ∃ G, G = H ++ imH k := ⟨_, rfl⟩
    have hGl : G.length = H.length + l.length := by rw [hG]; simp [hkl]
    have hGH : G.take H.length = H := by rw [hG]; simp
    rw [← hG]
    rw [← hbxe]
    refine SWp.seq (SWp.block (SWp.seq (Wp.s ?_)))
    simp -implicitDefEqProofs [go_sem, h]
    refine SWp.seq (SWp.seq (Wp.s ?_))
    simp -implicitDefEqProofs [go_sem]
    refine CC.mono (fitsBU_cc _ _ _ H.length k ws[i] (by omega) (fun v hv => by have := hkn v hv; omega) hdw (by simp [hGl, hkl])) ?_
    rintro _ _ _ ⟨rfl, rfl, rfl⟩
    simp -implicitDefEqProofs [go_sem]
    refine SWp.seq (Wp.s ?_)
    by_cases hf : fitsS (imgSz k) ws[i] = 0
    case neg =>
      simp -implicitDefEqProofs [go_sem, hf]
      refine Wp.s ?_
      simp -implicitDefEqProofs [go_sem]
      refine bad i _ _ _ (by rw [e0, hap, apI, if_pos hf]) ?_ (by simp)
      rw [List.take_append_of_le_length (by omega)]; exact hGH
    rw [apI, if_neg (by simp [hf])] at hap
    simp -implicitDefEqProofs [go_sem, hf]
    refine Wp.s ?_
    simp -implicitDefEqProofs [go_sem]
    obtain ⟨n, hvn, hnk, hd0, p, hpn, hpl⟩ := fitsI_0 hf
    have hGn : G[H.length + n]? = some (some (secsF k[n])) := by rw [hG]; exact imH_get H k n hnk
    have hkl4 := hkn _ (List.getElem_mem hnk)
    refine SWp.drawnT [G.length] [10] (.s 0 .pl <| .s 1 .pl <| .s 2 .ld <| .s 3 .pl <| .s 4 .ld <| .s 5 .pl <| .s 6 .ld <| .s 7 .pl <| .s 8 .pl <| .s 9 .pl <| .s 10 .st <| .n) (by kernel_rfl) (by kernel_rfl) ?_
    have hX : ∀ (z : List CV) (K : List CV → Prop), hbx (G ++ [some z]) (H.length + n) K = K (secsF k[n]) := fun z K => hbx_of (by rw [List.getElem?_append_left (by omega)]; exact hGn) K
    simp -implicitDefEqProofs [go_sem, hvn, hpn, hnk, hX]
    refine ⟨by omega, by omega, secsF_all _, by omega, Kp.keep fun b hb => ?_, Wp.s ?_⟩
    · obtain rfl : b = G.length := by simpa using hb
      rw [List.getElem?_set_ne (by omega)]
    simp -implicitDefEqProofs [go_sem, wrapU (show i < 9223372036854775807 by omega)]
    refine ⟨i + 1, ap1 k ws[i], ⟨by omega, (ap1_sz hf).trans hk, hap⟩, by omega, ?_⟩
    refine Sh.trim (L := imH (ap1 k ws[i])) (by simp [go_sem]) (by simp [go_sem, okE_bxs' H.length k, ap1_len]) hokH (okH_imH _ _ _) (by simp) ?_ (by simp)
    rw [imH_len, ap1_len, hkl, List.set_append_left _ _ (by omega), List.take_append_of_le_length (by simp; omega), List.take_of_length_le (by simp; omega), hG]
    rw [show List.take (p * 8) (secsF k[n]) ++ ((List.map secC ws[i].data).flatten ++ List.drop (p * 8 + ws[i].data.length * 8) (secsF k[n])) = secsF (putV k[n] p ws[i].data) from by
      rw [← Nat.add_mul, secsF_take, secsF_drop, putV, secsF_app, secsF_app, List.append_assoc]; rfl]
    rw [imH_set, ap1, hvn, hpn, Int.toNat_natCast, Int.toNat_natCast, List.getD_eq_getElem?_getD, List.getElem?_eq_getElem hnk, Option.getD_some]
  rintro k ⟨hk, hap⟩
  dsimp only
  have hkl : k.length = l.length := by have := congrArg List.length hk; simpa using this
  rw [← bxs_eq H.length hk]
  refine Wp.s ?_
  simp -implicitDefEqProofs [go_sem]
  rw [e0, hap]
  exact fin_bxs hokH (by simp)
end Go.Proofs.YtpedbpbmnchllaaGreatDoor
namespace Go.Proofs.YtpedbpbmnchllaaGreatDoor
open Go.Proofs
def mW (d : List Bm) (ws : List Wr) : List Bm := ws.foldl (fun d w => mkW d w.volume.toNat w.start.toNat w.data.length) d
theorem mW_snoc (d : List Bm) (ws : List Wr) (w : Wr) : mW d (ws ++ [w]) = mkW (mW d ws) w.volume.toNat w.start.toNat w.data.length := by simp [mW]
structure WOk (z : List Nat) (w : Wr) : Prop where
  v0 : 0 ≤ w.volume
  s0 : 0 ≤ w.start
  v1 : w.volume.toNat < z.length
  d0 : 0 < w.data.length
  s1 : ∀ h : w.volume.toNat < z.length, w.start.toNat + w.data.length ≤ z[w.volume.toNat]
def tkW (z ss : List Nat) (c : Int) (ws : List Wr) : Trk := ⟨z, ss.map fun s => ⟨s, c, mW (cleanB z) ws⟩⟩
theorem tkW_nil (z ss : List Nat) (c : Int) : tkW z ss c [] = newT z ss c := rfl
theorem tkW_snoc (z ss : List Nat) (c : Int) (ws : List Wr) (w : Wr) : tkW z ss c (ws ++ [w]) = tMk (tkW z ss c ws) w.volume.toNat w.start.toNat w.data.length := by
  simp [tkW, tMk, mW_snoc, pMk]
theorem tkW_ok {z ss : List Nat} {c : Int} {ws : List Wr} (hz : SzOkN z) (hs : SitesOk ss) (c0 : 0 ≤ c) (c1 : c ≤ 1073741824) (h : ∀ w ∈ ws, WOk z w) : TrkOk (tkW z ss c ws) := by
  induction ws using snoc_ind with
  | h0 => rw [tkW_nil]; exact newT_ok hz hs c0 c1
  | h1 l w ih =>
    rw [tkW_snoc]
    have hw := h w (by simp)
    exact tMk_ok (ih fun x hx => h x (by simp [hx])) hw.v1 (hw.s1 hw.v1)
theorem runSizes_cc (H : Hp) (V : List Nat) (im : Img) (hl : im.length ≤ 1000) : CC Tryz.prog 27 [.sl .sh 1 (im.map imE)] H V (Pu (.sl .sh 1 ((imgSz im).map ic)) H V) := by
  refine CC.of_swp Tryz.func27 rfl (by kernel_rfl) (by rw [Tryz.ntmps27]; exact len_le _ _ rfl) fun hok hokH => ?_
  clear hok
  refine SWp.seq (Wp.s ?_)
  simp -implicitDefEqProofs [go_sem, args0]
  refine SWp.seq (Wp.s ?_)
  simp -implicitDefEqProofs [go_sem]
  refine SWp.join (α := Nat) (fun k => ([(3, .sl (.own V.length k) 1 ((imgSz im).map ic))], H, V ++ [k])) (fun _ => True) ?_ ?_
  · refine SWp.seq (Wp.s ?_)
    simp -implicitDefEqProofs [go_sem]
    refine SWp.block ?_
    refine SWp.loop (α := Nat × Nat) (fun u => ([(3, .sl (.own V.length u.2) 1 ((imgSz (im.take u.1)).map ic)), (6, .sl .sh 1 (im.map imE)), (7, ci im.length), (8, ci u.1)], H, V ++ [u.2])) (fun u => u.1 ≤ im.length) (fun u => im.length - u.1) (0, 0) (Nat.zero_le _) (Sh.tokT (by simp [go_sem, imgSz]) rfl rfl) ?_
    rintro ⟨i, k⟩ hi
    dsimp only at hi ⊢
    refine SWp.seq (Wp.s ?_)
    simp -implicitDefEqProofs [go_sem]
    refine SWp.seq (Wp.s ?_)
    simp -implicitDefEqProofs [go_sem]
    refine ⟨fun h => ?_, fun h => ?_⟩
    case refine_2 =>
      obtain rfl : i = im.length := by omega
      rw [List.take_length]
      exact ⟨k, Sh.forget (by simp [go_sem]) rfl rfl⟩
    have hsl : (imgSz (im.take i)).length = i := by rw [imgSz, List.length_map, List.length_take]; omega
    have hsz : (imgSz (im.take (i + 1))).map ic = (imgSz (im.take i)).map ic ++ [ic (im[i].length : Int)] := by
      rw [List.take_succ_eq_append_getElem h, imgSz, List.map_append, List.map_append]; rfl
    refine SWp.seq (SWp.block (SWp.seq (Wp.s ?_)))
    simp -implicitDefEqProofs [go_sem, h]
    refine Wp.s ?_
    simp -implicitDefEqProofs [go_sem]
    refine ⟨by omega, ?_⟩
    refine Wp.s ?_
    simp -implicitDefEqProofs [go_sem]
    refine ⟨i + 1, by omega, by omega, k + 1, ?_⟩
    rw [hsz]
    exact Sh.forget (by simp [go_sem, ic, wrap_succ (show i ≤ 1000000000 by omega)]) rfl (by simp)
  rintro k -
  dsimp only
  refine SWp.seq (Wp.s ?_)
  simp -implicitDefEqProofs [go_sem]
  refine Wp.s ?_
  simp -implicitDefEqProofs [go_sem]
  exact Fin.pu (.sh _ _ _) (by simp [go_sem, okE_ints]) hokH (by simp) (by simp)
theorem runTrack_cc (H : Hp) (V : List Nat) (z : List Nat) (s : Nat) (ws : List Wr) (hz : SzOkN z) (hs : SitesOk [s]) (hw : ∀ w ∈ ws, WOk z w) (hl : ws.length ≤ 1000) : CC Tryz.prog 28 [.sl .sh 1 ((zI z).map ic), ci s, ci 5, .sl .sh 3 (ws.map wrC)] H V (Pu (.tup [.agg (trkC (tkW z [s] 5 ws)), cb true]) H V) := by
  refine CC.of_swp Tryz.func28 rfl (by kernel_rfl) (by rw [Tryz.ntmps28]; exact len_le _ _ rfl) fun hok hokH => ?_
  clear hok
  refine SWp.seq (Wp.s ?_)
  simp -implicitDefEqProofs [go_sem, args0]
  refine SWp.seq (Wp.s ?_)
  simp -implicitDefEqProofs [go_sem]
  refine CC.le (.cons (.refl _) (.cons (.sh _ _ _) (.cons (.refl _) .nil))) ?_
  refine CC.mono (tkNew_cc _ _ z [s] 5 hz hs (by decide) (by decide)) ?_
  rintro _ _ _ ⟨rfl, rfl, rfl⟩
  rw [← tkW_nil]
  simp -implicitDefEqProofs [go_sem]
  refine SWp.join (α := Unit) (fun _ => ([(8, .ptr H.length 0), (10, .ptr (H.length + 1) 0), (11, er 0)], H ++ [some [.v (.slice none 0 0), .v (.slice none 0 0)], some (trkC (tkW z [s] 5 ws))], V)) (fun _ => True) ?_ ?_
  · refine SWp.seq (Wp.s ?_)
    simp -implicitDefEqProofs [go_sem]
    refine SWp.block ?_
    refine SWp.loop (α := Nat) (fun i => ([(8, .ptr H.length 0), (10, .ptr (H.length + 1) 0), (11, er 0), (22, .sl .sh 3 (ws.map wrC)), (23, ci ws.length), (24, ci i)], H ++ [some [.v (.slice none 0 0), .v (.slice none 0 0)], some (trkC (tkW z [s] 5 (ws.take i)))], V)) (fun i => i ≤ ws.length) (fun i => ws.length - i) 0 (Nat.zero_le _) (Sh.forget (by simp [go_sem]) rfl rfl) ?_
    intro i hi
    dsimp only
    refine SWp.seq (Wp.s ?_)
    simp -implicitDefEqProofs [go_sem]
    refine SWp.seq (Wp.s ?_)
    simp -implicitDefEqProofs [go_sem]
    refine ⟨fun h => ?_, fun h => ?_⟩
    case refine_2 =>
      obtain rfl : i = ws.length := by omega
      rw [List.take_length]
      exact Sh.forget (by simp [go_sem]) rfl rfl
    have hwi := hw _ (List.getElem_mem h)
    have hok := tkW_ok (c := 5) (ws := ws.take i) hz hs (by decide) (by decide) fun w hx => hw w (List.mem_of_mem_take hx)
    have hts : tkW z [s] 5 (ws.take (i + 1)) = tMk (tkW z [s] 5 (ws.take i)) ws[i].volume.toNat ws[i].start.toNat ws[i].data.length := by rw [List.take_succ_eq_append_getElem h, tkW_snoc]
    have hz' : (tkW z [s] 5 (ws.take i)).z = z := rfl
    generalize tkW z [s] 5 (ws.take i) = t at hok hts hz' ⊢
    refine SWp.seq (SWp.block (SWp.seq (Wp.s ?_)))
    simp -implicitDefEqProofs [go_sem, h]
    refine SWp.seq (Wp.s ?_)
    simp -implicitDefEqProofs [go_sem]
    refine Wp.s ?_
    simp -implicitDefEqProofs [go_sem]
    refine CC.mono (tkWrite_cc _ _ t ws[i] ws[i].volume.toNat ws[i].start.toNat hok (by have := hwi.v0; omega) (by have := hwi.s0; omega) (by rw [hz']; exact hwi.v1) hwi.d0 (by subst hz'; exact hwi.s1 hwi.v1)) ?_
    rintro _ _ _ ⟨rfl, rfl, rfl⟩
    simp -implicitDefEqProofs [go_sem]
    refine Wp.s ?_
    simp -implicitDefEqProofs [go_sem]
    refine ⟨i + 1, by omega, by omega, ?_⟩
    rw [hts]
    refine Sh.trim (L := [some [.v (.slice none 0 0), .v (.slice none 0 0)], some (trkC (tMk t ws[i].volume.toNat ws[i].start.toNat ws[i].data.length))]) ?_ (by simp [go_sem, okE_wrs]) hokH (by simp [go_sem, okL, okV]) (by simp) (by simp) (by simp)
    simp [go_sem, wrap_succ (show i ≤ 1000000000 by omega)]
  rintro _ -
  dsimp only
  refine SWp.seq (Wp.s ?_)
  simp -implicitDefEqProofs [go_sem]
  refine Wp.s ?_
  simp -implicitDefEqProofs [go_sem]
  exact Fin.pu (.refl _) (by simp [go_sem]) hokH (by simp) (by simp)
theorem runPoint_cc (H : Hp) (V : List Nat) (site : Int) (lin : List Spn) (t : Trk) (i : Nat) (im : Img) (ht : TrkOk t) (hi : i < t.peers.length) : CC Tryz.prog 10 [ci site, .sl .sh 3 (lin.map spC), .agg (trkC t), ci t.peers[i].site, .sl .sh 1 (im.map imE)] H V (Pu (.tup [.agg (ptC ⟨site, lin, t.peers[i].dirty, im⟩), cb true]) H V) := by
  refine CC.of_swp Tryz.func10 rfl (by kernel_rfl) (by rw [Tryz.ntmps10]; exact len_le _ _ rfl) fun hok hokH => ?_
  clear hok
  refine SWp.seq (Wp.s ?_)
  simp -implicitDefEqProofs [go_sem, args0]
  refine SWp.seq (Wp.s ?_)
  simp -implicitDefEqProofs [go_sem]
  refine CC.mono (tkDirty_cc _ _ t i ht hi) ?_
  rintro _ _ _ ⟨rfl, rfl, rfl⟩
  simp -implicitDefEqProofs [go_sem]
  refine SWp.seq (Wp.s ?_)
  simp -implicitDefEqProofs [go_sem]
  refine Wp.s ?_
  simp -implicitDefEqProofs [go_sem]
  exact Fin.pu (.refl _) (by simp [go_sem]) hokH (by simp) (by simp)
end Go.Proofs.YtpedbpbmnchllaaGreatDoor
namespace Go.Proofs.YtpedbpbmnchllaaGreatDoor
open Go.Proofs
theorem flatMap_congr' {α β : Type} {f g : α → List β} : ∀ {l : List α}, (∀ x ∈ l, f x = g x) → l.flatMap f = l.flatMap g
  | [], _ => rfl
  | x :: l, h => by rw [List.flatMap_cons, List.flatMap_cons, h x (by simp), flatMap_congr' fun y hy => h y (by simp [hy])]
def Gap (l : List (Nat × Nat)) : Prop := l.Pairwise fun a b => a.1 + a.2 < b.1
theorem exStep_gap {l : List (Nat × Nat)} {x : Nat} (h : Gap l) (hx : ∀ e ∈ l, e.1 + e.2 ≤ x) : Gap (exStep l x) := by
  rcases List.eq_nil_or_concat l with rfl | ⟨l0, e, rfl⟩
  · rw [exStep_nil]; exact List.pairwise_singleton ..
  · rw [List.concat_eq_append] at *
    rw [exStep_snoc]
    obtain ⟨h1, h2, h3⟩ := List.pairwise_append.1 h
    split
    · exact List.pairwise_append.2 ⟨h1, List.pairwise_singleton .., fun a ha b hb => by
        obtain rfl := List.mem_singleton.1 hb
        exact h3 a ha e (by simp)⟩
    · rename_i ne
      refine List.pairwise_append.2 ⟨h, List.pairwise_singleton .., fun a ha b hb => ?_⟩
      obtain rfl := List.mem_singleton.1 hb
      have h4 := hx e (by simp)
      rcases List.mem_append.1 ha with ha | ha
      · have := h3 a ha e (by simp)
        dsimp only; omega
      · obtain rfl := List.mem_singleton.1 ha
        dsimp only; omega
theorem exStep_posE {l : List (Nat × Nat)} {x : Nat} (h : ∀ e ∈ l, 0 < e.2) : ∀ e ∈ exStep l x, 0 < e.2 := by
  intro e he
  rcases List.eq_nil_or_concat l with rfl | ⟨l0, a, rfl⟩
  · rw [exStep_nil] at he; simp at he; subst he; exact Nat.one_pos
  · rw [List.concat_eq_append] at *
    rw [exStep_snoc] at he
    split at he
    · rcases List.mem_append.1 he with he | he
      · exact h e (by simp [he])
      · obtain rfl := List.mem_singleton.1 he
        exact Nat.succ_pos _
    · rcases List.mem_append.1 he with he | he
      · exact h e he
      · obtain rfl := List.mem_singleton.1 he
        exact Nat.one_pos
theorem runsN_gap {xs : List Nat} (h : xs.Pairwise (· < ·)) : Gap (runsN xs) := by
  induction xs using snoc_ind with
  | h0 => exact List.Pairwise.nil
  | h1 xs x ih =>
    obtain ⟨h1, h2, h3⟩ := List.pairwise_append.1 h
    rw [runsN_snoc]
    exact exStep_gap (ih h1) (runsN_bd fun y hy => h3 y hy x (by simp))
theorem runsN_posE (xs : List Nat) : ∀ e ∈ runsN xs, 0 < e.2 := by
  induction xs using snoc_ind with
  | h0 => intro e he; simp [runsN] at he
  | h1 xs x ih => rw [runsN_snoc]; exact exStep_posE ih
theorem elsN_lt (n w : Nat) : (elsN n w).Pairwise (· < ·) := List.Pairwise.filter _ List.pairwise_lt_range
structure CtOk (P : Img) (L : List (List (Nat × Nat))) (n : Nat) : Prop where
  len : n ≤ P.length
  pos : ∀ v, v < n → ∀ e ∈ L.getD v [], 0 < e.2 ∧ e.1 + e.2 ≤ (imAt P v).length
  gap : ∀ v, v < n → Gap (L.getD v [])
theorem ctE_len {v : Nat} {a : List Sec} {e : Nat × Nat} (h : e.1 + e.2 ≤ a.length) : (ctE v a e).data.length = e.2 := by
  show ((a.drop e.1).take e.2).length = e.2
  rw [List.length_take, List.length_drop]; omega
theorem ctE_le (v : Nat) (a : List Sec) (e : Nat × Nat) : (ctE v a e).data.length ≤ e.2 := by
  show ((a.drop e.1).take e.2).length ≤ e.2
  rw [List.length_take]; exact Nat.min_le_left ..
theorem ctV_badO {v : Nat} {a : List Sec} {l : List (Nat × Nat)} (h : Gap l) : (ctV v a l).Pairwise fun x w => badO x w = false := by
  refine List.pairwise_map.2 (h.imp fun {x w} hx => ?_)
  have := ctE_le v a x
  rw [badO]
  have h1 : ¬ (ctE v a w).volume < (ctE v a x).volume := by show ¬ (v : Int) < v; omega
  have h2 : ¬ (ctE v a w).start ≤ (ctE v a x).start + (ctE v a x).data.length := by show ¬ (w.1 : Int) ≤ (x.1 : Int) + (ctE v a x).data.length; omega
  simp [h1, h2]
theorem ctW_mem {P : Img} {L : List (List (Nat × Nat))} {n : Nat} {w : Wr} (h : w ∈ ctW P L n) : ∃ v, v < n ∧ ∃ e, e ∈ L.getD v [] ∧ w = ctE v (imAt P v) e := by
  obtain ⟨v, hv, hw⟩ := List.mem_flatMap.1 h
  obtain ⟨e, he, rfl⟩ := List.mem_map.1 hw
  exact ⟨v, List.mem_range.1 hv, e, he, rfl⟩
theorem ctW_badO {P : Img} {L : List (List (Nat × Nat))} : ∀ n, (∀ v, v < n → Gap (L.getD v [])) → (ctW P L n).Pairwise fun x w => badO x w = false
  | 0, _ => by simp [ctW]
  | n + 1, h => by
    rw [ctW_succ]
    refine List.pairwise_append.2 ⟨ctW_badO n fun v hv => h v (by omega), ctV_badO (h n (by omega)), fun x hx w hw => ?_⟩
    obtain ⟨v, hv, e, _, rfl⟩ := ctW_mem hx
    obtain ⟨e', _, rfl⟩ := List.mem_map.1 hw
    rw [badO]
    have h1 : ¬ (ctE n (imAt P n) e').volume < (ctE v (imAt P v) e).volume := by show ¬ (n : Int) < v; omega
    have h2 : ¬ (ctE n (imAt P n) e').volume = (ctE v (imAt P v) e).volume := by show ¬ (n : Int) = v; omega
    simp [h1, h2]
theorem chkW_0 {f : Wr → Nat} : ∀ (l : List Wr) (o : Option Wr), (∀ w ∈ l, f w = 0) → (l.Pairwise fun x w => badO x w = false) → (∀ x, o = some x → ∀ w ∈ l, badO x w = false) → chkW f o l = 0
  | [], o, _, _, _ => by cases o <;> rfl
  | w :: l, o, h1, h2, h3 => by
    have hw := h1 w (by simp)
    obtain ⟨h4, h5⟩ := List.pairwise_cons.1 h2
    have ih := chkW_0 l (some w) (fun x hx => h1 x (by simp [hx])) h5 (fun x e y hy => by cases e; exact h4 y hy)
    cases o with
    | none => rw [chkW, if_neg (by simp [hw]), ih]
    | some x => rw [chkW, if_neg (by simp [hw]), if_neg (by simp [h3 x rfl w (by simp)]), ih]
theorem CtOk.wri {P : Img} {L : List (List (Nat × Nat))} {n : Nat} (h : CtOk P L n) : ∀ w ∈ ctW P L n, WrI P w := fun w hw => by
  obtain ⟨v, hv, e, he, rfl⟩ := ctW_mem hw
  obtain ⟨e1, e2⟩ := h.pos v hv e he
  have hdl := ctE_len (v := v) e2
  have hni : v < P.length := by have := h.len; omega
  refine ⟨?_, fun j hj => ?_⟩
  · have hg : (imgSz P).getD v 0 = ((imAt P v).length : Int) := by
      rw [imAt, imgSz, List.getD_eq_getElem?_getD, List.getD_eq_getElem?_getD, List.getElem?_map, List.getElem?_eq_getElem hni]; rfl
    have a1 : (ctE v (imAt P v) e).volume = (v : Int) := rfl
    have a2 : (ctE v (imAt P v) e).start = (e.1 : Int) := rfl
    rw [fitsS, a1, a2, hdl, imgSz, List.length_map, ← imgSz, Int.toNat_natCast, hg, if_neg (by omega), if_neg (by omega), if_neg (by omega)]
  · rw [hdl] at hj
    show ((imAt P v).drop e.1 |>.take e.2).getD j sec0 = (imAt P v).getD (e.1 + j) sec0
    simp [List.getD_eq_getElem?_getD, List.getElem?_take, List.getElem?_drop, hj]
theorem CtOk.chk {P : Img} {L : List (List (Nat × Nat))} {n : Nat} (h : CtOk P L n) (hz : sizesE (imgSz P) = 0) {base num tm : Int} (b0 : 0 ≤ base) (b1 : base < num) (b2 : num ≤ 1073741824) (t : inB tm 0 1073741824 = true) : chkC ⟨base, num, tm, [], ctW P L n⟩ (imgSz P) = 0 := by
  rw [chkC, if_neg (by simp [hz]), if_neg (by dsimp only; omega), if_neg (by simp [t]), if_neg (show ¬ posE [] 0 ≠ 0 by decide), wsE, if_neg (by simp [hz])]
  exact chkW_0 _ _ (fun w hw => (h.wri w hw).1) (ctW_badO n h.gap) (fun x e => by cases e)
theorem CtOk.wrs {P : Img} {L : List (List (Nat × Nat))} {n : Nat} (h : CtOk P L n) (hs : ∀ v ∈ P, v.length ≤ 63) : ∀ w ∈ ctW P L n, w.data.length ≤ 63 := fun w hw => by
  obtain ⟨n, hvn, hnk, hd0, s, hpn, hpl⟩ := fitsI_0 (h.wri w hw).1
  have := hs _ (List.getElem_mem hnk)
  omega
theorem ctV_pos {v : Nat} {a : List Sec} : ∀ (l : List (Nat × Nat)), (∀ e ∈ l, e.1 + e.2 ≤ a.length) → posS (ctV v a l) = (l.flatMap fun e => List.range' e.1 e.2).map fun i => (v, i)
  | [], _ => rfl
  | e :: l, h => by
    have ih := ctV_pos (v := v) l fun x hx => h x (by simp [hx])
    rw [show ctV v a (e :: l) = ctE v a e :: ctV v a l from rfl, show posS (ctE v a e :: ctV v a l) = posW (ctE v a e) ++ posS (ctV v a l) from rfl, ih, List.flatMap_cons, List.map_append]
    congr 1
    rw [posW, ctE_len (h e (by simp))]
    rfl
theorem CtOk.pos_eq {P : Img} {L : List (List (Nat × Nat))} : ∀ {n : Nat}, CtOk P L n → posS (ctW P L n) = (List.range n).flatMap fun v => ((L.getD v []).flatMap fun e => List.range' e.1 e.2).map fun i => (v, i)
  | 0, _ => by simp [ctW, posS]
  | n + 1, h => by
    rw [ctW_succ, posS_app, CtOk.pos_eq (n := n) ⟨by have := h.len; omega, fun v hv => h.pos v (by omega), fun v hv => h.gap v (by omega)⟩, ctV_pos _ fun e he => (h.pos n (by omega) e he).2, List.range_succ, List.flatMap_append]
    simp
theorem Pt2.ct {p q : Pt} (h : Pt2 p q) : CtOk q.im (mkd p q) q.im.length := by
  have hl : p.dirty.length = q.im.length := by rw [h.len, h.hq.len]
  refine ⟨Nat.le_refl _, fun v hv e he => ?_, fun v hv => ?_⟩
  · rw [mkd_getD p q v (by omega)] at he
    refine ⟨runsN_posE _ e he, ?_⟩
    rw [← imAt_len h.sz v, ← h.dirtyN v (by omega)]
    exact runsN_bd (fun x hx => mkL_lt hx) e he
  · rw [mkd_getD p q v (by omega)]
    exact runsN_gap (elsN_lt _ _)
theorem ct_pos {p q : Pt} (h : Pt2 p q) : posS (ctW q.im (mkd p q) q.im.length) = (List.range q.im.length).flatMap fun v => (mkL p q v).map fun i => (v, i) := by
  have hl : p.dirty.length = q.im.length := by rw [h.len, h.hq.len]
  rw [h.ct.pos_eq]
  refine flatMap_congr' fun v hv => ?_
  rw [mkd_getD p q v (by have := List.mem_range.1 hv; omega), runsN_flat]
theorem ct_apply {p q : Pt} (h : Pt2 p q) (hc : CovP p q) : apR p.im (ctW q.im (mkd p q) q.im.length) = (q.im, 0, 0) := by
  have hI := h.ct.wri
  have hz : imgSz p.im = imgSz q.im := by rw [sz_imgSz h.sz, sz_imgSz rfl]
  obtain ⟨a, b⟩ := apA_at (ctW q.im (mkd p q) q.im.length) p.im h.sz hI
  rw [apR, hz, h.hq.im, if_neg (by simp), apI_A _ _ _ fun w hw => by rw [hz]; exact (hI w hw).1]
  rw [img_at_ext a fun v i => ?_]
  rw [b]
  split
  · rfl
  · rename_i hn
    rcases Classical.em (atI p.im v i = atI q.im v i) with e | e
    · exact e
    · exfalso
      refine hn ?_
      rw [ct_pos h, List.mem_flatMap]
      have := trT_mem h hc v i e
      rw [trT_pos p q _ (Nat.le_refl _), List.mem_flatMap] at this
      obtain ⟨u, hu, hm⟩ := this
      obtain ⟨j, hj, e⟩ := List.mem_map.1 hm
      have hl : p.dirty.length = q.im.length := by rw [h.len, h.hq.len]
      exact ⟨u, by rw [← hl]; exact hu, List.mem_map.2 ⟨j, (List.mem_filter.1 hj).1, e⟩⟩
theorem ct_apC {p q : Pt} (h : Pt2 p q) (hc : CovP p q) {base num tm : Int} (b0 : 0 ≤ base) (b1 : base < num) (b2 : num ≤ 1073741824) (t : inB tm 0 1073741824 = true) : apC p.im ⟨base, num, tm, [], ctW q.im (mkd p q) q.im.length⟩ = (q.im, 0) := by
  have hz : imgSz p.im = imgSz q.im := by rw [sz_imgSz h.sz, sz_imgSz rfl]
  rw [apC, hz, if_neg (by simp [h.hq.im]), if_neg (by simp [h.ct.chk h.hq.im b0 b1 b2 t]), ct_apply h hc]
end Go.Proofs.YtpedbpbmnchllaaGreatDoor
namespace Go.Proofs.YtpedbpbmnchllaaGreatDoor
open Go.Proofs
theorem mkW_bit {d : List Bm} {v s c : Nat} (hv : v < d.length) (u i : Nat) : ((mkW d v s c).getD u ⟨1, 0⟩).w.testBit i = ((d.getD u ⟨1, 0⟩).w.testBit i || (decide (u = v) && decide (s ≤ i) && decide (i < s + c))) := by
  rw [mkW, List.getD_eq_getElem?_getD]
  by_cases h : v = u
  · subst h
    rw [List.getElem?_set_self hv, Option.getD_some]
    simp only [setB]
    rw [Nat.testBit_or, maskN_bit]
    simp
  · rw [List.getElem?_set_ne h, ← List.getD_eq_getElem?_getD]
    simp [show ¬ u = v from fun e => h e.symm]
end Go.Proofs.YtpedbpbmnchllaaGreatDoor
namespace Go.Proofs.YtpedbpbmnchllaaGreatDoor
open Go.Proofs
theorem frE_bit (n : Nat) (l : List (Nat × Nat)) (i : Nat) : (frE n l).w.testBit i = true ↔ i ∈ l.flatMap fun e => List.range' e.1 e.2 := by
  induction l using snoc_ind with
  | h0 => simp [frE]
  | h1 l e ih =>
    rw [frE_snoc, setB]
    show ((frE n l).w ||| maskN e.1 (e.1 + e.2)).testBit i = true ↔ _
    rw [Nat.testBit_or, maskN_bit, Bool.or_eq_true, ih, List.flatMap_append, List.mem_append]
    simp [List.mem_range'_1]
theorem fr_runs (n w d : Nat) : elsN n ((frE n (runsN (elsN n w))).w ||| d) = elsN n (w ||| d) := by
  refine List.filter_congr fun i hi => ?_
  have hi := List.mem_range.1 hi
  rw [Nat.testBit_or, Nat.testBit_or]
  congr 1
  have := frE_bit n (runsN (elsN n w)) i
  rw [runsN_flat, elsN_mem] at this
  rw [Bool.eq_iff_iff, this]
  exact ⟨fun h => h.2, fun h => ⟨hi, h⟩⟩
theorem mxP_tn {z : List Nat} {X : List (List (Nat × Nat))} {p q : Pt} (hz : z.length = p.dirty.length) (hn : ∀ v, v < z.length → z.getD v 0 = (p.dirty.getD v ⟨1, 0⟩).n)
    (hX : ∀ v, v < z.length → ∃ u, X.getD v [] = runsN (elsN (z.getD v 0) u) ∧ u ||| (q.dirty.getD v ⟨1, 0⟩).w = (p.dirty.getD v ⟨1, 0⟩).w ||| (q.dirty.getD v ⟨1, 0⟩).w) : mxP (tnD z X q.dirty) = mkd p q := by
  rw [mxP, tnD, List.map_map, mkd, hz]
  refine List.map_congr_left fun v hv => ?_
  have hv := List.mem_range.1 hv
  obtain ⟨u, h1, h2⟩ := hX v (by omega)
  show runsN (elsN (frE (z.getD v 0) (X.getD v [])).n ((frE (z.getD v 0) (X.getD v [])).w ||| (q.dirty.getD v ⟨1, 0⟩).w)) = mk1 (p.dirty.getD v ⟨1, 0⟩) (q.dirty.getD v ⟨1, 0⟩)
  rw [frE_n, h1, fr_runs, h2, hn v (by omega), mk1]
theorem tnD_ok {z : List Nat} {X : List (List (Nat × Nat))} {d : List Bm} (hz : SzOkN z) (hX : ExOk z X) (hd : DirtyOk z d) : DirtyOk z (tnD z X d) := ⟨tnD_len z X d, fun v h h2 => by
  have hl := hd.len
  have hx := hX.len
  have hv1 : v < X.length := by omega
  have hv2 : v < d.length := by omega
  obtain ⟨a, b⟩ := hd.ok v hv2 h2
  obtain ⟨c, e⟩ := hz.ok _ (List.getElem_mem h2)
  rw [tnD_get z X d v h h2 hv1 hv2]
  have hn := frE_n z[v] X[v]
  have hf := frE_ok c e (hX.ok v hv1 h2)
  refine ⟨orB_ok hf a (by rw [hn, b]), ?_⟩
  show (frE z[v] X[v]).n = z[v]
  exact hn⟩
theorem tnT_ok {t : Trk} {i : Nat} {c : Int} {X : List (List (Nat × Nat))} (ht : TrkOk t) (c0 : 0 ≤ c) (c1 : c ≤ 1073741824) (hX : ExOk t.z X) : TrkOk (tnT t i c X) where
  z := ht.z
  few := by show (t.peers.mapIdx _).length ≤ 4; rw [List.length_mapIdx]; exact ht.few
  ok := fun p hp => by
    obtain ⟨j, hj, rfl⟩ := List.getElem_of_mem hp
    have hj' : j < t.peers.length := by simpa [tnT] using hj
    have hpj := ht.ok _ (List.getElem_mem hj')
    simp only [tnT, List.getElem_mapIdx]
    split
    · exact ⟨hpj.site, c0, c1, tnD_ok ht.z hX hpj.dirty⟩
    · exact hpj
  inc := fun j hj => by
    have hj' : j + 1 < t.peers.length := by simpa [tnT] using hj
    have := ht.inc j hj'
    simp only [tnT, List.getElem_mapIdx]
    split <;> split <;> exact this
theorem apI_fit : ∀ (ws : List Wr) (k : Img) (i : Nat), (apI k ws i).2.2 = 0 → ∀ w ∈ ws, fitsS (imgSz k) w = 0
  | [], _, _, _, _, hw => by simp at hw
  | w :: ws, k, i, h, x, hx => by
    rw [apI] at h
    by_cases h0 : fitsS (imgSz k) w = 0
    · rw [if_neg (by simp [h0])] at h
      have hs : imgSz (ap1 k w) = imgSz k := by rw [sz_imgSz (ap1_sz h0), sz_imgSz rfl]
      rcases List.mem_cons.1 hx with rfl | hx
      · exact h0
      · rw [← hs]; exact apI_fit ws _ _ h x hx
    · rw [if_pos h0] at h
      exact absurd h h0
theorem fit_WOk {z : List Nat} {w : Wr} (h : fitsS (zI z) w = 0) : WOk z w := by
  have hz := zI_len z
  unfold fitsS at h
  split at h
  · cases h
  · rename_i h1
    split at h
    · cases h
    · rename_i h2
      split at h
      · cases h
      · rename_i h3
        have hv : w.volume.toNat < z.length := by omega
        have hg : (zI z).getD w.volume.toNat 0 = (z[w.volume.toNat] : Int) := by
          rw [List.getD_eq_getElem?_getD, List.getElem?_eq_getElem (by omega), Option.getD_some, zI_get]
        rw [hg] at h3
        exact ⟨by omega, by omega, hv, by omega, fun _ => by omega⟩
theorem mW_ok {z : List Nat} {ws : List Wr} (hz : SzOkN z) (h : ∀ w ∈ ws, WOk z w) : DirtyOk z (mW (cleanB z) ws) := by
  induction ws using snoc_ind with
  | h0 => exact cleanB_ok hz
  | h1 ws w ih =>
    rw [mW_snoc]
    have hw := h w (by simp)
    exact mkW_ok (ih fun x hx => h x (by simp [hx])) hw.v1 (hw.s1 hw.v1)
theorem apA_snoc (k : Img) (ws : List Wr) (w : Wr) : apA k (ws ++ [w]) = ap1 (apA k ws) w := by simp [apA]
theorem apA_sz {k : Img} {z : List Nat} (hk : k.map List.length = z) {ws : List Wr} (h : ∀ w ∈ ws, fitsS (zI z) w = 0) : (apA k ws).map List.length = z := by
  induction ws using snoc_ind with
  | h0 => exact hk
  | h1 ws w ih =>
    have ih := ih fun x hx => h x (by simp [hx])
    rw [apA_snoc, ap1_sz (by rw [sz_imgSz ih]; exact h w (by simp)), ih]
theorem Cov.stepW {b k : Img} {d : List Bm} {w : Wr} (hf : fitsS (imgSz k) w = 0) (hv : w.volume.toNat < d.length) (h : Cov b d k) : Cov b (mkW d w.volume.toNat w.start.toNat w.data.length) (ap1 k w) := fun v i hi => by
  rw [mkW_bit hv, Bool.or_eq_false_iff] at hi
  rw [ap1_at hf, if_neg, h v i hi.1]
  intro hm
  rw [posW, List.mem_map] at hm
  obtain ⟨j, hj, e⟩ := hm
  rw [Prod.mk.injEq] at e
  rw [List.mem_range'_1] at hj
  obtain ⟨e1, e2⟩ := e
  have h2 := hi.2
  rw [← e1, ← e2] at h2
  simp at h2
  omega
theorem Cov.all {b : Img} {z : List Nat} (hz : SzOkN z) (hb : b.map List.length = z) {ws : List Wr} (h : ∀ w ∈ ws, fitsS (zI z) w = 0) : Cov b (mW (cleanB z) ws) (apA b ws) := by
  induction ws using snoc_ind with
  | h0 => exact fun _ _ _ => rfl
  | h1 ws w ih =>
    have h1 : ∀ w ∈ ws, fitsS (zI z) w = 0 := fun x hx => h x (by simp [hx])
    rw [mW_snoc, apA_snoc]
    refine (ih h1).stepW (by rw [sz_imgSz (apA_sz hb h1)]; exact h w (by simp)) ?_
    rw [(mW_ok hz fun x hx => fit_WOk (h1 x hx)).len]
    exact (fit_WOk (h w (by simp))).v1
end Go.Proofs.YtpedbpbmnchllaaGreatDoor
namespace Go.Proofs.YtpedbpbmnchllaaGreatDoor
open Go.Proofs
def few22 (ws : List Wr) : Bool := decide (ws.length ≤ 40) && decide (∀ w ∈ ws.take 60, w.data.length ≤ 24)
theorem few22_1 {ws : List Wr} (h : few22 ws = true) : ws.length ≤ 40 ∧ ∀ w ∈ ws, w.data.length ≤ 24 := by
  rw [few22, Bool.and_eq_true, decide_eq_true_eq, decide_eq_true_eq] at h
  refine ⟨h.1, ?_⟩
  have := h.2
  rwa [List.take_of_length_le (by have := h.1; omega)] at this
theorem few22_cc (H : Hp) (V : List Nat) (ws : List Wr) : CC Tryz.prog 26 [.sl .sh 3 (ws.map wrC)] H V (Pu (cb (few22 ws)) H V) := by
  refine CC.of_swp Tryz.func26 rfl (by kernel_rfl) (by rw [Tryz.ntmps26]; exact len_le _ _ rfl) fun hok hokH => ?_
  clear hok
  refine SWp.seq (Wp.s ?_)
  simp -implicitDefEqProofs [go_sem, args0]
  refine SWp.join (α := Unit) (fun _ => ([(0, .sl .sh 3 (ws.map wrC))], H, V)) (fun _ => ∀ w ∈ ws.take 60, w.data.length ≤ 24) ?_ ?_
  · refine SWp.seq (Wp.s ?_)
    simp -implicitDefEqProofs [go_sem]
    refine SWp.block ?_
    refine SWp.loop (α := Nat) (fun i => ([(0, .sl .sh 3 (ws.map wrC)), (3, ci i)], H, V)) (fun i => i ≤ ws.length ∧ i ≤ 60 ∧ ∀ w ∈ ws.take i, w.data.length ≤ 24) (fun i => 60 - i) 0 ⟨Nat.zero_le _, Nat.zero_le _, by simp⟩ (Sh.forget (by simp [go_sem]) rfl rfl) ?_
    rintro i ⟨hi, hi2, hp⟩
    dsimp only
    refine SWp.seq (SWp.seq (Wp.s ?_))
    by_cases h1 : i < ws.length
    case neg =>
      have h1' : ¬ (i : Int) < ws.length := by omega
      simp -implicitDefEqProofs [go_sem, h1, h1']
      refine Wp.s ?_
      simp -implicitDefEqProofs [go_sem]
      refine ⟨?_, Sh.forget (by simp [go_sem]) rfl rfl⟩
      rw [List.take_of_length_le (by omega)]
      rwa [List.take_of_length_le (by omega)] at hp
    have h1' : (i : Int) < ws.length := by omega
    by_cases h2 : i < 60
    case neg =>
      have h2' : ¬ (i : Int) < 60 := by omega
      simp -implicitDefEqProofs [go_sem, h1, h1', h2']
      refine Wp.s ?_
      simp -implicitDefEqProofs [go_sem]
      refine ⟨?_, Sh.forget (by simp [go_sem]) rfl rfl⟩
      obtain rfl : i = 60 := by omega
      exact hp
    have h2' : (i : Int) < 60 := by omega
    simp -implicitDefEqProofs [go_sem, h1, h1', h2']
    refine Wp.s ?_
    simp -implicitDefEqProofs [go_sem]
    refine SWp.seq (SWp.block (SWp.seq (Wp.s ?_)))
    by_cases he : 24 < ws[i].data.length
    · have he' : 24 < (ws[i].data.length : Int) := by omega
      simp -implicitDefEqProofs [go_sem, h1, he']
      refine Wp.s ?_
      simp -implicitDefEqProofs [go_sem]
      exact Fin.bool (by rw [few22, decide_eq_false (p := ∀ w ∈ ws.take 60, w.data.length ≤ 24) (fun q => by have := q _ (List.mem_take_iff_getElem.2 ⟨i, by omega, rfl⟩); omega), Bool.and_false]) hokH (by simp) (by simp)
    · have he' : ¬ 24 < (ws[i].data.length : Int) := by omega
      simp -implicitDefEqProofs [go_sem, h1, he']
      refine Wp.s ?_
      simp -implicitDefEqProofs [go_sem]
      refine Wp.s ?_
      simp -implicitDefEqProofs [go_sem]
      refine ⟨i + 1, ⟨by omega, by omega, fun v hv => ?_⟩, by omega, Sh.forget ?_ rfl rfl⟩
      · rw [List.take_succ_eq_append_getElem h1, List.mem_append, List.mem_singleton] at hv
        rcases hv with hv | rfl
        · exact hp v hv
        · omega
      · simp [go_sem, wrap_succ (show i ≤ 1000000000 by omega)]
  rintro _ he
  dsimp only
  refine SWp.seq (Wp.s ?_)
  simp -implicitDefEqProofs [go_sem]
  refine Wp.s ?_
  simp -implicitDefEqProofs [go_sem]
  refine Fin.bool ?_ hokH (by simp) (by simp)
  rw [few22, decide_eq_true he, Bool.and_true]
  simp
  omega
def wlE (ws : List Wr) : List CV := [.sl .sh 3 (ws.map wrC)]
@[go_sem, simp] theorem wlE_len (l : List Wr) : (wlE l).length = 1 := rfl
@[go_sem, simp] theorem wlE_all (l : List Wr) : allOne (wlE l) = true := rfl
@[go_sem, simp] theorem wlE_0 (l : List Wr) (h : 0 < (wlE l).length) : (wlE l)[0] = .sl .sh 3 (l.map wrC) := rfl
theorem okE_wls (jb jv : Nat) : ∀ (l : List (List Wr)), okE jb jv (l.map wlE)
  | [] => trivial
  | e :: l => by rw [List.map_cons, okE]; exact ⟨by simp [wlE, okL, okV, okE_wrs, okTk], okE_wls jb jv l⟩
structure Rls where
  com : Img
  old : List Wr
  new : List Wr
  rds : List (List Wr)
def rlC (x : Rls) : List CV := [.sl .sh 1 (x.com.map imE), .sl .sh 3 (x.old.map wrC), .sl .sh 3 (x.new.map wrC), .sl .sh 1 (x.rds.map wlE)]
@[go_sem, simp] theorem rlC_len (x : Rls) : (rlC x).length = 4 := rfl
@[go_sem, simp] theorem rlC_all (x : Rls) : allOne (rlC x) = true := rfl
@[go_sem, simp] theorem rlC_take (x : Rls) : (rlC x).take 4 = rlC x := rfl
@[go_sem, simp] theorem rlC_drop (x : Rls) : (rlC x).drop 4 = [] := rfl
@[go_sem, simp] theorem rlC_0 (x : Rls) (h : 0 < (rlC x).length) : (rlC x)[0] = .sl .sh 1 (x.com.map imE) := rfl
@[go_sem, simp] theorem rlC_1 (x : Rls) (h : 1 < (rlC x).length) : (rlC x)[1] = .sl .sh 3 (x.old.map wrC) := rfl
@[go_sem, simp] theorem rlC_2 (x : Rls) (h : 2 < (rlC x).length) : (rlC x)[2] = .sl .sh 3 (x.new.map wrC) := rfl
@[go_sem, simp] theorem rlC_3 (x : Rls) (h : 3 < (rlC x).length) : (rlC x)[3] = .sl .sh 1 (x.rds.map wlE) := rfl
@[go_sem] theorem okL_rlC (jb jv : Nat) (x : Rls) : okL jb jv (rlC x) = True := by
  simp [rlC, okL, okV, go_sem, okE_ims, okE_wrs, okE_wls]
def wlsR (x : Rls) : List (List Wr) := x.old :: x.new :: x.rds
structure RlsB (x : Rls) : Prop where
  n : ∀ l ∈ wlsR x, l.length ≤ 9223372036854775807
  d : ∀ l ∈ wlsR x, ∀ w ∈ l, w.data.length ≤ 9223372036854775807
def okW (x : Rls) (l : List Wr) : Bool := few22 l && decide ((apR x.com l).2.2 = 0)
def fewR (x : Rls) : Bool := few07 x.com && decide (x.rds.length ≤ 6) && (wlsR x).all (okW x)
set_option maxRecDepth 8000 in
theorem fewL_cc (H : Hp) (V : List Nat) (x : Rls) (hx : RlsB x) : CC Tryz.prog 5 [.agg (rlC x)] H V (Pu (cb (fewR x)) H V) := by
  refine CC.of_swp Tryz.func5 rfl (by kernel_rfl) (by rw [Tryz.ntmps5]; exact len_le _ _ rfl) fun hok hokH => ?_
  clear hok
  refine SWp.seq (Wp.s ?_)
  simp -implicitDefEqProofs [go_sem, args0]
  refine SWp.seq (SWp.seq (Wp.s ?_))
  simp -implicitDefEqProofs [go_sem]
  refine CC.mono (few07_cc _ _ .sh x.com) ?_
  rintro _ _ _ ⟨rfl, rfl, rfl⟩
  rcases c1 : few07 x.com with - | -
  · simp -implicitDefEqProofs [go_sem]
    refine Wp.s ?_
    simp -implicitDefEqProofs [go_sem]
    exact Fin.bool (by rw [fewR, c1]; rfl) hokH (by simp) (by simp)
  by_cases c2 : 6 < x.rds.length
  · have c2' : 6 < (x.rds.length : Int) := by omega
    simp -implicitDefEqProofs [go_sem, c2']
    refine Wp.s ?_
    simp -implicitDefEqProofs [go_sem]
    exact Fin.bool (by rw [fewR, c1, decide_eq_false (p := x.rds.length ≤ 6) (by omega)]; rfl) hokH (by simp) (by simp)
  have c2' : ¬ 6 < (x.rds.length : Int) := by omega
  have h07 : x.com.length ≤ 9 ∧ ∀ v ∈ x.com, v.length ≤ 24 := by
    rw [few07, Bool.and_eq_true, decide_eq_true_eq, decide_eq_true_eq] at c1
    exact c1
  simp -implicitDefEqProofs [go_sem, c2']
  refine Wp.s ?_
  simp -implicitDefEqProofs [go_sem]
  have e0 : fewR x = (wlsR x).all (okW x) := by rw [fewR, c1, decide_eq_true (p := x.rds.length ≤ 6) (by omega)]; rfl
  have hwl : (wlsR x).length = x.rds.length + 2 := rfl
  refine SWp.join (α := Unit) (fun _ => ([], H, V)) (fun _ => (wlsR x).all (okW x) = true) ?_ ?_
  · refine SWp.seq (Wp.s ?_)
    simp -implicitDefEqProofs [go_sem]
    refine ⟨by omega, ?_⟩
    refine SWp.block ?_
    refine SWp.loop (α := Nat) (fun i => ([(1, .ptr H.length 0), (25, .sl (.own V.length 0) 1 ((wlsR x).map wlE)), (26, ci (wlsR x).length), (27, ci i)], H ++ [some (rlC x)], V ++ [0])) (fun i => i ≤ (wlsR x).length ∧ ∀ w ∈ (wlsR x).take i, okW x w = true) (fun i => (wlsR x).length - i) 0 ⟨Nat.zero_le _, by simp⟩ (Sh.forget (by simp [go_sem, wlsR, wlE]) rfl (by simp [wlsR])) ?_
    rintro i ⟨hi, hp⟩
    dsimp only
    have hB := hx.n
    have hD := hx.d
    rw [e0]
    generalize wlsR x = l at hi hp hwl hB hD ⊢
    refine SWp.seq (Wp.s ?_)
    simp -implicitDefEqProofs [go_sem]
    refine SWp.seq (Wp.s ?_)
    simp -implicitDefEqProofs [go_sem]
    refine ⟨fun h => ?_, fun h => ⟨?_, Sh.trim0 (by simp [go_sem]) (by simp [go_sem]) hokH (by simp) (by simp) (by simp)⟩⟩
    case refine_2 =>
      rw [List.take_of_length_le h] at hp
      exact hp
    have hl := List.getElem_mem h
    refine SWp.seq (SWp.block (SWp.seq (Wp.s ?_)))
    simp -implicitDefEqProofs [go_sem, h]
    refine SWp.seq (Wp.s ?_)
    simp -implicitDefEqProofs [go_sem]
    refine CC.mono (imApplyU_cc _ _ .sh x.com l[i] (by omega) (hB _ hl) (hD _ hl)) ?_
    rintro _ _ _ ⟨rfl, rfl, rfl⟩
    simp -implicitDefEqProofs [go_sem, apV]
    refine SWp.seq (Wp.s ?_)
    simp -implicitDefEqProofs [go_sem]
    refine CC.mono (few22_cc _ _ l[i]) ?_
    rintro _ _ _ ⟨rfl, rfl, rfl⟩
    rcases c3 : few22 l[i] with - | -
    · simp -implicitDefEqProofs [go_sem]
      refine Wp.s ?_
      simp -implicitDefEqProofs [go_sem]
      refine Fin.bool ?_ hokH (by simp) (by simp)
      rw [List.all_eq_false.2 ⟨l[i], hl, by simp [okW, c3]⟩]
    by_cases c4 : (apR x.com l[i]).2.2 = 0
    case neg =>
      have c4' : ¬ (((apR x.com l[i]).2.2 : Nat) : Int) = 0 := by omega
      simp -implicitDefEqProofs [go_sem, c4, c4']
      refine Wp.s ?_
      simp -implicitDefEqProofs [go_sem]
      refine Fin.bool ?_ hokH (by simp) (by simp)
      rw [List.all_eq_false.2 ⟨l[i], hl, by simp [okW, c4]⟩]
    simp -implicitDefEqProofs [go_sem, c4]
    refine Wp.s ?_
    simp -implicitDefEqProofs [go_sem]
    refine Wp.s ?_
    simp -implicitDefEqProofs [go_sem]
    refine ⟨i + 1, ⟨by omega, fun w hw => ?_⟩, by omega, ?_⟩
    · rw [List.take_succ_eq_append_getElem h, List.mem_append, List.mem_singleton] at hw
      rcases hw with hw | rfl
      · exact hp w hw
      · rw [okW, c3, decide_eq_true c4]; rfl
    · refine Sh.trim (L := [some (rlC x)]) ?_ (by simp [go_sem, okE_wls]) hokH (by simp [go_sem]) (by simp) (by simp) (by simp)
      simp [go_sem, wrap_succ (show i ≤ 1000000000 by omega)]
  rintro _ he
  dsimp only
  refine SWp.seq (Wp.s ?_)
  simp -implicitDefEqProofs [go_sem]
  refine Wp.s ?_
  simp -implicitDefEqProofs [go_sem]
  exact Fin.bool (by rw [e0, he]) hokH (by simp) (by simp)
end Go.Proofs.YtpedbpbmnchllaaGreatDoor
namespace Go.Proofs.YtpedbpbmnchllaaGreatDoor
open Go.Proofs
theorem PtOk.of {site : Int} {lin : List Spn} {d : List Bm} {im : Img} {z : List Nat} (hz : SzOkN z) (hd : DirtyOk z d) (hi : im.map List.length = z) (hs : inD site 0 = true) (hl : LinOk lin) : PtOk ⟨site, lin, d, im⟩ where
  site := hs
  lin := hl
  im := by show sizesE (imgSz im) = 0; rw [sz_imgSz hi]; exact hz.sizes
  len := by show d.length = im.length; rw [hd.len, ← hi, List.length_map]
  dirty := fun v h h2 => by
    subst hi
    obtain ⟨a, b⟩ := hd.ok v h (by rw [List.length_map]; exact h2)
    refine ⟨a, ?_⟩
    show d[v].n = im[v].length
    rw [b, List.getElem_map]
  few := by
    show im.length ≤ 1000
    have := hz.few
    rw [← hi, List.length_map] at this
    omega
def rzs (x : Rls) : List Nat := x.com.map List.length
def rlP (x : Rls) : Pt := ⟨0, linO 7, mW (cleanB (rzs x)) x.old, apA x.com x.old⟩
def rlQ (x : Rls) : Pt := ⟨1, linC 5 9, mW (cleanB (rzs x)) x.new, apA x.com x.new⟩
structure RlsF (x : Rls) : Prop where
  z : SzOkN (rzs x)
  o : ∀ w ∈ x.old, fitsS (zI (rzs x)) w = 0
  n : ∀ w ∈ x.new, fitsS (zI (rzs x)) w = 0
  lo : x.old.length ≤ 40
  ln : x.new.length ≤ 40
  do' : ∀ w ∈ x.old, w.data.length ≤ 24
  dn : ∀ w ∈ x.new, w.data.length ≤ 24
  ao : apR x.com x.old = (apA x.com x.old, 0, 0)
  an : apR x.com x.new = (apA x.com x.new, 0, 0)
theorem apR_fit {k : Img} {ws : List Wr} (h : (apR k ws).2.2 = 0) : sizesE (imgSz k) = 0 ∧ (∀ w ∈ ws, fitsS (imgSz k) w = 0) ∧ apR k ws = (apA k ws, 0, 0) := by
  rw [apR] at h ⊢
  by_cases h0 : sizesE (imgSz k) = 0
  · rw [if_neg (by simp [h0])] at h ⊢
    have := apI_fit ws k 0 h
    exact ⟨h0, this, apI_A ws k 0 this⟩
  · rw [if_pos h0] at h
    exact absurd h h0
theorem RlsF.of {x : Rls} (h : fewR x = true) : RlsF x := by
  rw [fewR, Bool.and_eq_true, Bool.and_eq_true] at h
  obtain ⟨⟨h1, _⟩, h2⟩ := h
  rw [few07, Bool.and_eq_true, decide_eq_true_eq, decide_eq_true_eq] at h1
  have h2 := List.all_eq_true.1 h2
  have ho := h2 x.old (by simp [wlsR])
  have hn := h2 x.new (by simp [wlsR])
  rw [okW, Bool.and_eq_true, decide_eq_true_eq] at ho hn
  obtain ⟨a1, a2⟩ := few22_1 ho.1
  obtain ⟨b1, b2⟩ := few22_1 hn.1
  obtain ⟨s0, f1, g1⟩ := apR_fit ho.2
  obtain ⟨_, f2, g2⟩ := apR_fit hn.2
  have hz : imgSz x.com = zI (rzs x) := sz_imgSz rfl
  rw [hz] at f1 f2
  obtain ⟨c1, c2⟩ := sizes_pos s0
  have c3 := (sizesE_0 s0).1
  rw [imgSz, List.length_map] at c3
  refine ⟨⟨by rw [rzs, List.length_map]; exact c1, by rw [rzs, List.length_map]; exact c3, fun n hn => ?_⟩, f1, f2, a1, b1, a2, b2, g1, g2⟩
  obtain ⟨v, hv, rfl⟩ := List.mem_map.1 hn
  have := h1.2 v hv
  have := List.length_pos_iff.2 (c2 v hv).1
  omega
theorem RlsF.dirO {x : Rls} (h : RlsF x) : DirtyOk (rzs x) (mW (cleanB (rzs x)) x.old) := mW_ok h.z fun w hw => fit_WOk (h.o w hw)
theorem RlsF.dirN {x : Rls} (h : RlsF x) : DirtyOk (rzs x) (mW (cleanB (rzs x)) x.new) := mW_ok h.z fun w hw => fit_WOk (h.n w hw)
theorem RlsF.szO {x : Rls} (h : RlsF x) : (apA x.com x.old).map List.length = rzs x := apA_sz rfl h.o
theorem RlsF.szN {x : Rls} (h : RlsF x) : (apA x.com x.new).map List.length = rzs x := apA_sz rfl h.n
theorem RlsF.pt2 {x : Rls} (h : RlsF x) : Pt2 (rlP x) (rlQ x) :=
  ⟨PtOk.of h.z h.dirO h.szO (by decide) (linO_ok ⟨by decide, by decide⟩), PtOk.of h.z h.dirN h.szN (by decide) (linC_ok ⟨by decide, by decide, by decide⟩), h.szO.trans h.szN.symm⟩
theorem RlsF.duo {x : Rls} (h : RlsF x) : Duo (rlP x) (rlQ x) 7 5 9 := ⟨h.pt2, rfl, rfl, by decide, by decide, by decide, by decide, by decide, rfl, rfl, by
  show (mW (cleanB (rzs x)) x.old).length ≤ 8
  rw [h.dirO.len]; exact h.z.few⟩
theorem RlsF.cov {x : Rls} (h : RlsF x) : CovP (rlP x) (rlQ x) := CovP.of (Cov.all h.z rfl h.o) (Cov.all h.z rfl h.n)
set_option maxRecDepth 8000 in
set_option maxHeartbeats 1600000 in
theorem runBoth_cc (H : Hp) (V : List Nat) (x : Rls) (h : RlsF x) : CC Tryz.prog 6 [.agg (rlC x)] H V (Pu (.tup [.agg (ptC (rlP x)), .agg (ptC (rlQ x)), .agg (trkC (tkW (rzs x) [0] 5 x.new)), cb true]) H V) := by
  refine CC.of_swp Tryz.func6 rfl (by kernel_rfl) (by rw [Tryz.ntmps6]; exact len_le _ _ rfl) fun hok hokH => ?_
  clear hok
  have hz : imgSz x.com = zI (rzs x) := sz_imgSz rfl
  have hcl : x.com.length ≤ 8 := by have := h.z.few; rwa [rzs, List.length_map] at this
  have hlo := h.lo
  have hln := h.ln
  have tO := tkW_ok (ss := [1]) (c := 5) h.z ⟨by decide, by simp, by simp⟩ (by decide) (by decide) fun w hw => fit_WOk (h.o w hw)
  have tN := tkW_ok (ss := [0]) (c := 5) h.z ⟨by decide, by simp, by simp⟩ (by decide) (by decide) fun w hw => fit_WOk (h.n w hw)
  refine SWp.seq (Wp.s ?_)
  simp -implicitDefEqProofs [go_sem, args0]
  refine SWp.seq (Wp.s ?_)
  simp -implicitDefEqProofs [go_sem]
  refine CC.mono (runSizes_cc _ _ x.com (by omega)) ?_
  rintro _ _ _ ⟨rfl, rfl, rfl⟩
  rw [hz]
  simp -implicitDefEqProofs [go_sem]
  refine SWp.seq (Wp.s ?_)
  simp -implicitDefEqProofs [go_sem]
  refine CC.mono (imApplyU_cc _ _ .sh x.com x.old (by omega) (by omega) (fun w hw => by have := h.do' w hw; omega)) ?_
  rintro _ _ _ ⟨rfl, rfl, rfl⟩
  rw [h.ao]
  simp -implicitDefEqProofs [go_sem, apV]
  refine SWp.seq (Wp.s ?_)
  simp -implicitDefEqProofs [go_sem]
  refine CC.mono (imApplyU_cc _ _ .sh x.com x.new (by omega) (by omega) (fun w hw => by have := h.dn w hw; omega)) ?_
  rintro _ _ _ ⟨rfl, rfl, rfl⟩
  rw [h.an]
  simp -implicitDefEqProofs [go_sem, apV]
  refine SWp.seq (Wp.s ?_)
  simp -implicitDefEqProofs [go_sem]
  refine CC.mono (runTrack_cc _ _ (rzs x) 1 x.old h.z ⟨by decide, by simp, by simp⟩ (fun w hw => fit_WOk (h.o w hw)) (by omega)) ?_
  rintro _ _ _ ⟨rfl, rfl, rfl⟩
  simp -implicitDefEqProofs [go_sem]
  refine SWp.seq (Wp.s ?_)
  simp -implicitDefEqProofs [go_sem]
  refine CC.mono (runTrack_cc _ _ (rzs x) 0 x.new h.z ⟨by decide, by simp, by simp⟩ (fun w hw => fit_WOk (h.n w hw)) (by omega)) ?_
  rintro _ _ _ ⟨rfl, rfl, rfl⟩
  simp -implicitDefEqProofs [go_sem]
  refine SWp.seq (Wp.s ?_)
  simp -implicitDefEqProofs [go_sem]
  refine CC.le (.cons (.refl _) (.cons (.sh _ _ _) (.cons (.refl _) (.cons (.refl _) (.cons (.refl _) .nil))))) ?_
  refine CC.mono (runPoint_cc _ _ 0 (linO 7) (tkW (rzs x) [1] 5 x.old) 0 (apA x.com x.old) tO Nat.one_pos) ?_
  rintro _ _ _ ⟨rfl, rfl, rfl⟩
  rw [show (⟨0, linO 7, ((tkW (rzs x) [1] 5 x.old).peers[0]'Nat.one_pos).dirty, apA x.com x.old⟩ : Pt) = rlP x from rfl]
  simp -implicitDefEqProofs [go_sem]
  refine SWp.seq (Wp.s ?_)
  simp -implicitDefEqProofs [go_sem]
  refine CC.le (.cons (.refl _) (.cons (.sh _ _ _) (.cons (.refl _) (.cons (.refl _) (.cons (.refl _) .nil))))) ?_
  refine CC.mono (runPoint_cc _ _ 1 (linC 5 9) (tkW (rzs x) [0] 5 x.new) 0 (apA x.com x.new) tN Nat.one_pos) ?_
  rintro _ _ _ ⟨rfl, rfl, rfl⟩
  rw [show (⟨1, linC 5 9, ((tkW (rzs x) [0] 5 x.new).peers[0]'Nat.one_pos).dirty, apA x.com x.new⟩ : Pt) = rlQ x from rfl]
  simp -implicitDefEqProofs [go_sem]
  refine SWp.seq (SWp.drawnT [H.length + 1, H.length + 2, H.length + 3] [21, 22, 23] (.s 0 .ld <| .s 1 .ld <| .s 2 .ld <| .s 3 .pl <| .s 4 .pl <| .s 5 .pl <| .s 6 .pl <| .s 7 .pl <| .s 8 .pl <| .s 9 .pl <| .s 10 .pl <| .s 11 .pl <| .s 12 .pl <| .s 13 .pl <| .s 14 .pl <| .s 15 .pl <| .s 16 .pl <| .s 17 .pl <| .s 18 .pl <| .s 19 .pl <| .s 20 .pl <| .s 21 .st <| .s 22 .st <| .s 23 .st <| .s 24 .pl <| .n) (by kernel_rfl) (by kernel_rfl) ?_)
  simp -implicitDefEqProofs [go_sem]
  refine Wp.s ?_
  simp -implicitDefEqProofs [go_sem]
  exact Fin.pu (.refl _) (by simp [go_sem]) hokH (by simp) (by simp)
end Go.Proofs.YtpedbpbmnchllaaGreatDoor
namespace Go.Proofs.YtpedbpbmnchllaaGreatDoor
open Go.Proofs
theorem DirtyOk.getN {z : List Nat} {d : List Bm} (h : DirtyOk z d) (v : Nat) (hv : v < z.length) : z.getD v 0 = (d.getD v ⟨1, 0⟩).n := by
  have hl := h.len
  have hv2 : v < d.length := by omega
  rw [List.getD_eq_getElem?_getD, List.getD_eq_getElem?_getD, List.getElem?_eq_getElem hv, List.getElem?_eq_getElem hv2, Option.getD_some, Option.getD_some, (h.ok v hv2 hv).2]
theorem mkd_ex {z : List Nat} {p q : Pt} (h : Pt2 p q) (hp : DirtyOk z p.dirty) : ExOk z (mkd p q) := ⟨by rw [mkd_len, hp.len], mkd_small h, fun v hv h2 e he => by
  have hml := mkd_len p q
  have hpq := h.len
  rw [mkd_get p q v hv (by omega) (by omega)] at he
  have := mk1_bd e he
  rw [← (hp.ok v (by omega) h2).2]
  exact this⟩
theorem mkd_tn {z : List Nat} {p q : Pt} (h : Pt2 p q) (hp : DirtyOk z p.dirty) : mxP (tnD z (mkd p q) q.dirty) = mkd p q := by
  refine mxP_tn hp.len.symm (fun v hv => hp.getN v hv) fun v hv => ⟨(p.dirty.getD v ⟨1, 0⟩).w ||| (q.dirty.getD v ⟨1, 0⟩).w, ?_, by rw [Nat.or_assoc, Nat.or_self]⟩
  rw [mkd_getD p q v (by rw [hp.len]; exact hv), mkL, hp.getN v hv]
def rlT (x : Rls) : Pt := ⟨1, linC 5 9, tnD (rzs x) (mkd (rlP x) (rlQ x)) (rlQ x).dirty, (rlQ x).im⟩
def rlW (x : Rls) : Cyc := ⟨5, 10, 0, [], ctW (rlQ x).im (mkd (rlP x) (rlQ x)) (rlQ x).im.length⟩
theorem RlsF.ex {x : Rls} (h : RlsF x) : ExOk (rzs x) (mkd (rlP x) (rlQ x)) := mkd_ex h.pt2 h.dirO
theorem RlsF.tOk {x : Rls} (h : RlsF x) : PtOk (rlT x) := PtOk.of h.z (tnD_ok h.z h.ex h.dirN) h.szN (by decide) (linC_ok ⟨by decide, by decide, by decide⟩)
theorem RlsF.tW {x : Rls} (h : RlsF x) : ctW (rlT x).im (mxP (rlT x).dirty) (rlT x).dirty.length = ctW (rlQ x).im (mkd (rlP x) (rlQ x)) (rlQ x).im.length := by
  have e : mxP (rlT x).dirty = mkd (rlP x) (rlQ x) := mkd_tn h.pt2 h.dirO
  have l : (rlT x).dirty.length = (rlQ x).im.length := by
    rw [show (rlT x).dirty.length = (rzs x).length from tnD_len .., ← h.szN, List.length_map]; rfl
  rw [e, l]; rfl
set_option maxRecDepth 8000 in
set_option maxHeartbeats 3200000 in
theorem Reversed_law (H : Hp) (V : List Nat) (x : Rls) (hx : RlsB x) : CC Tryz.prog 3 [.agg (rlC x)] H V (Pu (cb true) H V) := by
  refine CC.of_swp Tryz.func3 rfl (by kernel_rfl) (by rw [Tryz.ntmps3]; exact len_le _ _ rfl) fun hok hokH => ?_
  clear hok
  refine SWp.seq (Wp.s ?_)
  simp -implicitDefEqProofs [go_sem, args0]
  refine SWp.seq (SWp.seq (Wp.s ?_))
  simp -implicitDefEqProofs [go_sem]
  refine CC.mono (fewL_cc _ _ x hx) ?_
  rintro _ _ _ ⟨rfl, rfl, rfl⟩
  rcases hF : fewR x with - | -
  · simp -implicitDefEqProofs [go_sem]
    refine Wp.s ?_
    simp -implicitDefEqProofs [go_sem]
    exact Fin.bool rfl hokH (by simp) (by simp)
  have F := RlsF.of hF
  clear hF
  have hP := F.pt2
  have hD := F.duo
  have hC := F.cov
  have hT := F.tOk
  have hTW := F.tW
  have hE := F.ex
  have tN := tkW_ok (ss := [0]) (c := 5) F.z ⟨by decide, by simp, by simp⟩ (by decide) (by decide) fun w hw => fit_WOk (F.n w hw)
  have tT := tnT_ok (i := 0) (c := 5) tN (by decide) (by decide) hE
  have hchk : chkC (rlW x) (imgSz (rlQ x).im) = 0 := hP.ct.chk hP.hq.im (by decide) (by decide) (by decide) (by decide)
  have hqm : ∀ v ∈ (rlQ x).im, v.length ≤ 63 := fun v hv => by
    have : v.length ∈ rzs x := by rw [← F.szN]; exact List.mem_map.2 ⟨v, hv, rfl⟩
    exact (F.z.ok _ this).2
  have hws : WrS (rlW x).wrs := fun w hw => Nat.le_trans (hP.ct.wrs hqm w hw) (by decide)
  have hap : apC (rlP x).im (rlW x) = ((rlQ x).im, 0) := ct_apC hP hC (by decide) (by decide) (by decide) (by decide)
  have hql : (rlQ x).im.length ≤ 8 := by
    have := congrArg List.length F.szN
    rw [List.length_map] at this
    rw [show (rlQ x).im.length = (rzs x).length from this]; exact F.z.few
  have hpl : (rlP x).im.length ≤ 8 := by rw [← hP.hp.len]; exact hD.dl
  have hwl : (rlW x).wrs.length ≤ 8 * 63 := Nat.le_trans (ctW_len (im := (rlQ x).im) (mkd_small hP) _) (Nat.mul_le_mul_right _ hql)
  have hTd : (rlT x).dirty.length ≤ 8 := by rw [show (rlT x).dirty.length = (rzs x).length from tnD_len ..]; exact F.z.few
  simp -implicitDefEqProofs [go_sem]
  refine Wp.s ?_
  simp -implicitDefEqProofs [go_sem]
  refine SWp.seq (Wp.s ?_)
  simp -implicitDefEqProofs [go_sem]
  refine CC.mono (runBoth_cc _ _ x F) ?_
  rintro _ _ _ ⟨rfl, rfl, rfl⟩
  simp -implicitDefEqProofs [go_sem]
  refine SWp.seq (Wp.s ?_)
  simp -implicitDefEqProofs [go_sem]
  refine CC.mono (begin_cc _ _ (rlP x) (rlQ x) 7 5 9 hD) ?_
  rintro _ _ _ ⟨rfl, rfl, rfl⟩
  simp -implicitDefEqProofs [go_sem]
  refine SWp.seq (Wp.s ?_)
  simp -implicitDefEqProofs [go_sem]
  refine CC.le (.cons (.refl _) (.cons (.refl _) (.cons (.refl _) (.cons (.refl _) (.cons (.nil 1 (by decide)) .nil))))) ?_
  refine CC.mono (rcycle_cc _ _ (rlP x) (rlQ x) 7 5 9 10 0 hD (by decide) (by decide) hchk hws) ?_
  rintro _ _ _ ⟨rfl, rfl, rfl⟩
  rw [show (⟨((5 : Nat) : Int), 10, 0, [], ctW (rlQ x).im (mkd (rlP x) (rlQ x)) (rlQ x).im.length⟩ : Cyc) = rlW x from rfl]
  simp -implicitDefEqProofs [go_sem]
  refine SWp.seq (Wp.s ?_)
  simp -implicitDefEqProofs [go_sem]
  refine CC.mono (turn_cc _ _ (tkW (rzs x) [0] 5 x.new) 0 5 (mkd (rlP x) (rlQ x)) tN Nat.one_pos (by decide) (by decide) hE) ?_
  rintro _ _ _ ⟨rfl, rfl, rfl⟩
  simp -implicitDefEqProofs [go_sem]
  refine SWp.seq (Wp.s ?_)
  simp -implicitDefEqProofs [go_sem]
  refine CC.mono (runPoint_cc _ _ 1 (rlQ x).lin (tnT (tkW (rzs x) [0] 5 x.new) 0 5 (mkd (rlP x) (rlQ x))) 0 (rlQ x).im tT Nat.one_pos) ?_
  rintro _ _ _ ⟨rfl, rfl, rfl⟩
  rw [show (⟨1, (rlQ x).lin, ((tnT (tkW (rzs x) [0] 5 x.new) 0 5 (mkd (rlP x) (rlQ x))).peers[0]'Nat.one_pos).dirty, (rlQ x).im⟩ : Pt) = rlT x from rfl]
  simp -implicitDefEqProofs [go_sem]
  refine SWp.seq (Wp.s ?_)
  simp -implicitDefEqProofs [go_sem]
  refine CC.mono (round_cc _ _ ⟨1, 0, 0, 3, 5, false⟩ (rlT x) 5 9 10 0 ⟨by decide, by decide, by decide, by decide, by decide, by decide, by decide, by decide, by decide, by decide, by decide, rfl⟩ hT hTd rfl rfl rfl (by decide) (by decide) (by rw [hTW]; exact hchk) (by rw [hTW]; exact hws)) ?_
  rintro _ _ _ ⟨rfl, rfl, rfl⟩
  rw [hTW, show (⟨(⟨1, 0, 0, 3, 5, false⟩ : Prc).cy, 10, 0, [], ctW (rlQ x).im (mkd (rlP x) (rlQ x)) (rlQ x).im.length⟩ : Cyc) = rlW x from rfl]
  simp -implicitDefEqProofs [go_sem]
  refine SWp.seq (SWp.seq (Wp.s ?_))
  simp -implicitDefEqProofs [go_sem]
  refine Wp.s ?_
  simp -implicitDefEqProofs [go_sem]
  refine SWp.seq (Wp.s ?_)
  simp -implicitDefEqProofs [go_sem]
  refine CC.mono (cyApply_cc _ _ (rlP x).im (rlW x) (by omega) (by omega) hws (Nat.zero_le _)) ?_
  rintro _ _ _ ⟨rfl, rfl, rfl⟩
  rw [hap, apcV]
  simp -implicitDefEqProofs [go_sem]
  refine SWp.seq (Wp.s ?_)
  simp -implicitDefEqProofs [go_sem]
  refine CC.mono (cyApply_cc _ _ (rlP x).im (rlW x) (by omega) (by omega) hws (Nat.zero_le _)) ?_
  rintro _ _ _ ⟨rfl, rfl, rfl⟩
  rw [hap, apcV]
  simp -implicitDefEqProofs [go_sem]
  refine SWp.seq (Wp.s ?_)
  simp -implicitDefEqProofs [go_sem]
  refine CC.mono (same22_cc _ _ (rlW x).wrs (rlW x).wrs (by omega) hws) ?_
  rintro _ _ _ ⟨rfl, rfl, rfl⟩
  simp -implicitDefEqProofs [go_sem]
  refine CC.mono (imSame_cc _ _ .sh .sh (rlQ x).im (rlQ x).im (by omega) (fun v hv => Nat.le_trans (hqm v hv) (by decide))) ?_
  rintro _ _ _ ⟨rfl, rfl, rfl⟩
  simp -implicitDefEqProofs [go_sem]
  refine CC.mono (imSame_cc _ _ .sh .sh (rlQ x).im (rlQ x).im (by omega) (fun v hv => Nat.le_trans (hqm v hv) (by decide))) ?_
  rintro _ _ _ ⟨rfl, rfl, rfl⟩
  simp -implicitDefEqProofs [go_sem]
  refine Wp.s ?_
  simp -implicitDefEqProofs [go_sem]
  exact Fin.bool (by simp) hokH (by simp) (by simp)
end Go.Proofs.YtpedbpbmnchllaaGreatDoor
namespace Go.Proofs.YtpedbpbmnchllaaGreatDoor
open Go.Proofs
end Go.Proofs.YtpedbpbmnchllaaGreatDoor
namespace Go.Proofs.YtpedbpbmnchllaaGreatDoor
open Go.Proofs
end Go.Proofs.YtpedbpbmnchllaaGreatDoor
namespace Go.Proofs.YtpedbpbmnchllaaGreatDoor
open Go.Proofs
end Go.Proofs.YtpedbpbmnchllaaGreatDoor
namespace Go.Proofs.YtpedbpbmnchllaaGreatDoor
open Go.Proofs
end Go.Proofs.YtpedbpbmnchllaaGreatDoor
namespace Go.Proofs.YtpedbpbmnchllaaGreatDoor
open Go.RowKit

def gh0 (w : World) : Gh where
  lim k := match w.heap[k]? with
    | some (.cells c _ _) => c.size
    | _ => 0
  box := []
  tip := []

theorem gh0_inv (w : World) (hg : Glob (gh0 w) w) : Inv (gh0 w) w [] [] where
  glob := hg
  boxlen := rfl
  tiplen := rfl
  limv k h := by
    simp only [gh0] at h ⊢
    split at h
    · rename_i c e fr hc
      exact ⟨c, e, fr, hc, by simp⟩
    · omega
  tips := by intro t k h; simp [gh0] at h
  boxes := by intro b k h; simp [gh0] at h
  uniq := by intro b b' k cs cs' h; simp at h
  live := by intro b cs h; simp at h

theorem gh0_lim {w : World} {k o : Nat} {u : Value} (h : w.cell? ⟨k, o, none⟩ = some u) : o < (gh0 w).lim k := by
  simp only [World.cell?] at h
  simp only [gh0]
  split at h
  · rename_i c e fr hc
    simp only [hc]
    simp at h
    obtain ⟨h, _⟩ := Array.getElem?_eq_some_iff.1 h
    exact h
  · cases h

theorem law_calls {P : Program} {f : FuncId} {args : Array Value} {W : World} {cs : List CV} {R : CV → Hp → List Nat → Prop} (hglob : Glob (gh0 W) W) (hrel : RelL (gh0 W) W [] cs args.toList) (h : CC P f cs [] [] R)
    (hR : ∀ r H V, R r H V → r = .v (.bool true)) : Calls P f args W fun e W' => e = .returned (.bool true) ∧ Below W.heap.size W W' := by
  have := h.2 (gh0 W) W args.toList (gh0_inv W hglob) hrel
  rw [Array.toArray_toList] at this
  refine this.mono ?_
  rintro e w' ⟨u, m', r, H', V', rfl, hr, _, hu, hx⟩
  obtain rfl := hR _ _ _ hr
  rw [RelV] at hu
  subst hu
  exact ⟨rfl, hx.os, hx.tape, hx.output, hx.size, fun k hk => hx.same k hk (by simp [gh0]) (by simp [gh0])⟩

def Opens (P : Program) (t : TypeId) (S : List CV → Prop) : Prop :=
  ∀ (H : Type) (enc : TypeId × Value → H) (w : World) (base : Nat) (spare : Nat → Bool) (held : Bool) (fuel : Nat) (us : List Value) (x : DataW H × List MemPlace),
    DataW.trod enc P w base spare held fuel t us = some x → ∃ cs, S cs ∧ RelL (gh0 w) w [] cs us ∧ ∀ u ∈ us, u.oneCell' = true

theorem relL_one {m : Gh} {w : World} {V : List Nat} {c : CV} {u : Value} (h : RelV m w V c u) : RelL m w V [c] [u] := by
  rw [RelL]; exact ⟨u, [], rfl, h, by rw [RelL]⟩

theorem relL_nil {m : Gh} {w : World} {V : List Nat} : RelL m w V [] [] := by rw [RelL]
theorem relL_mk2 {m : Gh} {w : World} {V : List Nat} {c : CV} {u : Value} {cs : List CV} {us : List Value} (h : RelV m w V c u) (h2 : RelL m w V cs us) : RelL m w V (c :: cs) (u :: us) := by
  rw [RelL]; exact ⟨u, us, rfl, h, h2⟩
variable {P : Program} {t e : TypeId}
theorem Opens.int {k : IntKind} (ht : P.underlying t = some (.int k)) : Opens P t fun cs => ∃ n, cs = [.v (.int k n)] ∧ (Lit.int k n).wf = true := by
  intro H enc w base spare held fuel us x h
  obtain ⟨n, rfl, _, hw⟩ := DataW.trod_int ht h
  exact ⟨_, ⟨n, rfl, hw⟩, relL_one (by rw [RelV]), by simp [Value.oneCell']⟩

theorem cells_get {w : World} {base : Nat} {a : Addr} {n : Nat} {us : List Value} (h : w.cells? base a n = some us) : us.length = n ∧ ∀ j, j < n → w.cell? (a.add j) = us[j]? := by
  unfold World.cells? at h
  split at h
  · exact ⟨by simpa using mapM_some_length h, fun j hj => mapM_some_get h j j (by simp [hj])⟩
  · cases h

theorem add_none {a : Addr} (ha : a.spot = none) (i : Nat) : a.add i = ⟨a.block, a.off + i, none⟩ := by
  cases a with
  | mk b o s =>
    simp only at ha
    subst ha
    unfold Addr.add
    split <;> simp_all

theorem Opens.slice {sz : Nat} {S : List CV → Prop} (ht : P.underlying t = some (.slice e)) (hs : P.cellsOf e = sz) (h0 : 0 < sz) (he : Opens P e S) :
    Opens P t fun cs => ∃ xs, cs = [.sl .sh sz xs] ∧ xs.length ≤ maxLen ∧ ∀ x ∈ xs, S x := by
  intro H enc w base spare held fuel us x h
  rcases DataW.trod_slice ht h with ⟨rfl, _⟩ | ⟨a, len, cap, elems, rest, n, _, rfl, rfl, hb, hl, hm, hlen, hel, hsp, hns⟩
  · refine ⟨_, ⟨[], rfl, by simp, by simp⟩, relL_one ?_, by simp [Value.oneCell']⟩
    rw [RelV]
    exact ⟨none, 0, rfl, by simp, trivial, h0, .inl rfl⟩
  · have key : ∀ i, i < len → ∃ (cs : List CV) (vs : List Value), S cs ∧ RelL (gh0 w) w [] cs vs ∧ (∀ u ∈ vs, u.oneCell' = true) ∧ vs.length = sz ∧ ∀ j, j < sz → w.cell? ((a.add (i * sz)).add j) = vs[j]? := by
      intro i hi
      have h1 := hel i hi
      rw [List.getElem?_eq_getElem (by omega)] at h1
      obtain ⟨vs, h2, h3⟩ := Option.bind_eq_some_iff.1 h1
      obtain ⟨cs, h4, h5, h6⟩ := he _ enc w base spare held n vs _ h3
      rw [hs] at h2
      obtain ⟨h7, h8⟩ := cells_get h2
      exact ⟨cs, vs, h4, h5, h6, h7, h8⟩
    by_cases hz : len = 0
    · subst hz
      refine ⟨_, ⟨[], rfl, by simp, by simp⟩, relL_one ?_, by simp [Value.oneCell']⟩
      rw [RelV]
      exact ⟨some a, cap, rfl, by simp, trivial, h0, .inl rfl⟩
    · have hsp : a.spot = none := by
        obtain ⟨cs, vs, _, _, _, h7, h8⟩ := key 0 (by omega)
        have h9 := h8 0 h0
        rw [List.getElem?_eq_getElem (by omega)] at h9
        have : (a.add (0 * sz)).add 0 = a := by simp [Addr.add]
        rw [this] at h9
        simp only [World.cell?] at h9
        split at h9
        · split at h9
          · cases h9
          · rename_i h; simpa using h
        · cases h9
      let g : Nat → List CV := fun i => if h : i < len then Classical.choose (key i h) else []
      have hg : ∀ i (h : i < len), ∃ (vs : List Value), S (g i) ∧ RelL (gh0 w) w [] (g i) vs ∧ (∀ u ∈ vs, u.oneCell' = true) ∧ vs.length = sz ∧ ∀ j, j < sz → w.cell? ((a.add (i * sz)).add j) = vs[j]? := by
        intro i h
        have := Classical.choose_spec (key i h)
        simp only [g, h, dif_pos]
        exact this
      have cell : ∀ i j, i < len → j < sz → ∃ u, w.cell? ⟨a.block, a.off + i * sz + j, none⟩ = some u := by
        intro i j hi hj
        obtain ⟨vs, _, _, _, h7, h8⟩ := hg i hi
        have h9 := h8 j hj
        rw [List.getElem?_eq_getElem (by omega), add_none hsp, add_none rfl] at h9
        exact ⟨_, h9⟩
      refine ⟨_, ⟨(List.range len).map g, rfl, by simp; omega, ?_⟩, relL_one ?_, by simp [Value.oneCell']⟩
      · intro x hx
        obtain ⟨i, hi, rfl⟩ := List.mem_map.1 hx
        obtain ⟨_, h4, _⟩ := hg i (by simpa using hi)
        exact h4
      · rw [RelV]
        refine ⟨some a, cap, by simp, by simp; omega, trivial, h0, .inr ⟨a.block, a.off, by cases a; simp_all, ?_, relE_mk fun j c hc => ?_⟩⟩
        · obtain ⟨u, hu⟩ := cell (len - 1) (sz - 1) (by omega) (by omega)
          have := gh0_lim hu
          simp only [List.length_map, List.length_range]
          have h1 : len * sz = (len - 1) * sz + sz := by
            rw [← Nat.succ_mul]; congr 1; omega
          omega
        · simp only [List.getElem?_map, Option.map_eq_some_iff] at hc
          obtain ⟨i, hi, rfl⟩ := hc
          obtain ⟨hi', hi⟩ := List.getElem?_eq_some_iff.1 hi
          simp at hi hi'
          subst hi
          obtain ⟨vs, h4, h5, h6, h7, h8⟩ := hg j hi'
          have hl := relL_length h5
          refine ⟨by omega, relC_mk fun q c hc => ?_⟩
          obtain ⟨u, hu, hv⟩ := relL_get h5 q c hc
          have hq : q < sz := by
            have := (List.getElem?_eq_some_iff.1 hc).1
            omega
          have h9 := h8 q hq
          rw [hu, add_none hsp, add_none rfl] at h9
          exact ⟨u, h9, hv, h6 u (List.mem_of_getElem? hu)⟩

def OpensF (P : Program) (N : Nat) (fs : List Field) (o : Nat) (S : List CV → Prop) : Prop :=
  ∀ (H : Type) (enc : TypeId × Value → H) (w : World) (base : Nat) (spare : Nat → Bool) (held : Bool) (fuel : Nat) (us : List Value), us.length = N →
    (∀ f ∈ fs, ∃ x, DataW.trod enc P w base spare held fuel f.type ((us.drop f.offset).take (P.cellsOf f.type)) = some x) →
    ∃ cs, S cs ∧ RelL (gh0 w) w [] cs (us.drop o) ∧ ∀ u ∈ us.drop o, u.oneCell' = true

theorem OpensF.nil {N : Nat} : OpensF P N [] N fun cs => cs = [] := by
  intro H enc w base spare held fuel us hl h
  subst hl
  exact ⟨_, rfl, by rw [List.drop_length, RelL], by simp⟩

theorem OpensF.cons {N : Nat} {f : Field} {fs : List Field} {o n : Nat} {S S' : List CV → Prop} (ho : f.offset = o) (hn : P.cellsOf f.type = n) (h1 : Opens P f.type S) (h2 : OpensF P N fs (o + n) S') :
    OpensF P N (f :: fs) o fun cs => ∃ a b, cs = a ++ b ∧ S a ∧ S' b := by
  intro H enc w base spare held fuel us hl h
  obtain ⟨x, hx⟩ := h f (by simp)
  rw [ho, hn] at hx
  obtain ⟨a, ha, ra, oa⟩ := h1 _ enc w base spare held fuel _ _ hx
  obtain ⟨b, hb, rb, ob⟩ := h2 _ enc w base spare held fuel us hl fun g hg => h g (List.mem_cons_of_mem _ hg)
  have hd : us.drop o = (us.drop o).take n ++ us.drop (o + n) := by
    rw [← List.drop_drop, List.take_append_drop]
  refine ⟨_, ⟨a, b, rfl, ha, hb⟩, ?_, ?_⟩
  · rw [hd]; exact relL_append ra rb
  · rw [hd]
    intro u hu
    rcases List.mem_append.1 hu with h | h
    · exact oa u h
    · exact ob u h

theorem Opens.struct {fs : Array Field} {S : List CV → Prop} (ht : P.underlying t = some (.struct fs)) {N : Nat} (hN : P.cellsOf t = N) (h : OpensF P N fs.toList 0 S) : Opens P t S := by
  intro H enc w base spare held fuel us x hx
  obtain ⟨xs, n, _, _, hl, hl2, hf⟩ := DataW.trod_struct ht hx
  obtain ⟨cs, h1, h2, h3⟩ := h _ enc w base spare held n us (by omega) (by
    intro f hf'
    obtain ⟨i, hi⟩ := List.getElem?_of_mem hf'
    have := hf i f (by simpa using hi)
    have hi' : i < fs.size := by
      have := (List.getElem?_eq_some_iff.1 hi).1
      simpa using this
    rw [this, List.getElem?_eq_getElem (by omega)]
    exact ⟨_, rfl⟩)
  exact ⟨cs, h1, by simpa using h2, by simpa using h3⟩

theorem Opens.array {n sz : Nat} {S : List CV → Prop} (ht : P.underlying t = some (.array n e)) (hs : P.cellsOf e = sz) (hN : P.cellsOf t = n * sz) (he : Opens P e S) :
    Opens P t fun cs => ∃ xs : List (List CV), cs = xs.flatten ∧ xs.length = n ∧ ∀ x ∈ xs, S x := by
  intro H enc w base spare held fuel us x hx
  obtain ⟨xs, m, _, _, hl, hl2, hf⟩ := DataW.trod_array ht hx
  rw [hN] at hl
  rw [hs] at hf
  have key : ∀ q, q ≤ n → ∃ ys : List (List CV), ys.length = q ∧ (∀ x ∈ ys, S x) ∧ RelL (gh0 w) w [] ys.flatten (us.drop ((n - q) * sz)) ∧ ∀ u ∈ us.drop ((n - q) * sz), u.oneCell' = true := by
    intro q
    induction q with
    | zero =>
      intro _
      refine ⟨[], rfl, by simp, ?_, ?_⟩
      · rw [Nat.sub_zero, List.drop_of_length_le (by omega), List.flatten_nil, RelL]
      · rw [Nat.sub_zero, List.drop_of_length_le (by omega)]; simp
    | succ q ih =>
      intro hq
      obtain ⟨ys, h1, h2, h3, h4⟩ := ih (by omega)
      have hx := hf (n - (q + 1)) (by omega)
      rw [List.getElem?_eq_getElem (by omega)] at hx
      obtain ⟨a, ha, ra, oa⟩ := he _ enc w base spare held m _ _ hx
      have hd : us.drop ((n - (q + 1)) * sz) = (us.drop ((n - (q + 1)) * sz)).take sz ++ us.drop ((n - q) * sz) := by
        have : (n - q) * sz = (n - (q + 1)) * sz + sz := by
          rw [← Nat.succ_mul]; congr 1; omega
        rw [this, ← List.drop_drop, List.take_append_drop]
      refine ⟨a :: ys, by simp [h1], by simpa using ⟨ha, h2⟩, ?_, ?_⟩
      · rw [hd, List.flatten_cons]; exact relL_append ra h3
      · rw [hd]
        intro u hu
        rcases List.mem_append.1 hu with h | h
        · exact oa u h
        · exact h4 u h
  obtain ⟨ys, h1, h2, h3, h4⟩ := key n (Nat.le_refl _)
  rw [Nat.sub_self, Nat.zero_mul, List.drop_zero] at h3 h4
  exact ⟨_, ⟨ys, rfl, h1, h2⟩, h3, h4⟩

theorem Opens.mono {S S' : List CV → Prop} (h : Opens P t S) (hs : ∀ cs, S cs → S' cs) : Opens P t S' := by
  intro H enc w base spare held fuel us x hx
  obtain ⟨cs, h1, h2, h3⟩ := h _ enc w base spare held fuel us x hx
  exact ⟨cs, hs cs h1, h2, h3⟩

variable {H : Type} {enc : TypeId × Value → H} {w : World} {base : Nat} {spare : Nat → Bool} {held : Bool}
theorem Opens.args {S : List CV → Prop} (h : Opens P t S) {us : Array Value} {d : DataW H} {p : List MemPlace} (hd : DataW.Trod enc P w base spare held t (.agg us) d p) :
    ∃ cs, S cs ∧ RelV (gh0 w) w [] (.agg cs) (.agg us) := by
  obtain ⟨fuel, hf⟩ := hd
  obtain ⟨cs, h1, h2, _⟩ := h _ enc w base spare held fuel _ _ hf
  refine ⟨cs, h1, ?_⟩
  rw [RelV]
  refine ⟨us.toList, by simp, ?_⟩
  simpa [Value.cells] using h2

theorem trodAll_below (hl : laidOutB P = true) {W W' : World} (hb : Below W.heap.size W W') : ∀ {ts : List TypeId} {vs : List Value} {ds : List (DataW H)} {p : List MemPlace},
    (ts.all fun t => P.readableRec t && decide (t < P.types.size)) = true → DataW.TrodAll enc P W 0 (fun _ => true) true ts vs ds p → DataW.TrodAll enc P W' 0 (fun b => decide (b < W.heap.size)) true ts vs ds p
  | [], [], [], p, _, h => h
  | t :: ts, v :: vs, d :: ds, p, ht, h => by
    obtain ⟨p, q, h1, h2, rfl⟩ := h
    simp only [List.all_cons, Bool.and_eq_true, decide_eq_true_eq] at ht
    refine ⟨p, q, Below.trod hl ht.1.1 ht.1.2 h1 hb ?_, trodAll_below hl hb ht.2 h2, rfl⟩
    obtain ⟨m, hm⟩ := h1
    exact DataW.trod_lt m _ _ _ hm
  | [], [], _ :: _, _, _, h => h.elim
  | [], _ :: _, _, _, _, h => h.elim
  | _ :: _, [], _, _, _, h => h.elim
  | _ :: _, _ :: _, [], _, _, h => h.elim
end Go.Proofs.YtpedbpbmnchllaaGreatDoor
namespace Go.Proofs.YtpedbpbmnchllaaGreatDoor
open Go.Proofs
theorem exMapF {α : Type} {f : α → List CV} : ∀ {xs : List (List CV)}, (∀ x ∈ xs, ∃ a, x = f a) → ∃ ys : List α, xs = ys.map f
  | [], _ => ⟨[], rfl⟩
  | x :: xs, h => by
    obtain ⟨a, rfl⟩ := h x (by simp)
    obtain ⟨ys, rfl⟩ := exMapF fun y hy => h y (List.mem_cons_of_mem _ hy)
    exact ⟨a :: ys, rfl⟩
theorem opens_int : Opens Tryz.prog 3 fun cs => ∃ n, cs = ic n :=
  (Opens.int Tryz.underlying3).mono fun _ ⟨n, h, _⟩ => ⟨n, h⟩
theorem opens_u8 : Opens Tryz.prog 5 fun cs => ∃ b, cs = u8 b :=
  (Opens.int Tryz.underlying5).mono fun _ ⟨n, h, hw⟩ => ⟨byt n, by
    simp only [Lit.wf, Bool.and_eq_true, decide_eq_true_eq] at hw
    have h1 : 0 ≤ n := hw.1
    have h2 : n ≤ 255 := hw.2
    rw [h, u8, byt_toNat, Int.emod_eq_of_lt h1 (by omega)]⟩
theorem opens_sl {t e sz : Nat} {α : Type} {f : α → List CV} (ht : Tryz.prog.underlying t = some (.slice e)) (hs : Tryz.prog.cellsOf e = sz) (h0 : 0 < sz) (he : Opens Tryz.prog e fun cs => ∃ a, cs = f a) :
    Opens Tryz.prog t fun cs => ∃ l : List α, cs = [.sl .sh sz (l.map f)] ∧ l.length ≤ maxLen :=
  (Opens.slice ht hs h0 he).mono fun _ ⟨xs, h, hl, hx⟩ => by
    obtain ⟨ys, rfl⟩ := exMapF hx
    exact ⟨ys, h, by simpa using hl⟩
theorem flat_u8' : ∀ l : List UInt8, (l.map u8).flatten = l.map fun b => CV.v (.int .u8 (b.toNat : Int))
  | [] => rfl
  | b :: l => by rw [List.map_cons, List.flatten_cons]; exact congrArg (_ :: ·) (flat_u8' l)
theorem opens_sec : Opens Tryz.prog 99 fun cs => ∃ s : Sec, cs = secC s :=
  (Opens.array (sz := 1) Tryz.underlying99 (by kernel_rfl) (by kernel_rfl) opens_u8).mono fun cs ⟨xs, h, hl, hx⟩ => by
    obtain ⟨l, rfl⟩ := exMapF hx
    refine ⟨⟨l, by simpa using hl⟩, ?_⟩
    rw [h]; exact flat_u8' l
theorem opens_secs : Opens Tryz.prog 93 fun cs => ∃ l : List Sec, cs = [.sl .sh 8 (l.map secC)] ∧ l.length ≤ maxLen := opens_sl Tryz.underlying93 (by kernel_rfl) (by decide) opens_sec
theorem opens_im : Opens Tryz.prog 93 fun cs => ∃ l : List Sec, cs = imE l := opens_secs.mono fun _ ⟨l, h, _⟩ => ⟨l, h⟩
theorem opens_img : Opens Tryz.prog 23 fun cs => ∃ l : Img, cs = [.sl .sh 1 (l.map imE)] ∧ l.length ≤ maxLen := opens_sl Tryz.underlying23 (by kernel_rfl) (by decide) opens_im
end Go.Proofs.YtpedbpbmnchllaaGreatDoor
namespace Go.Proofs.YtpedbpbmnchllaaGreatDoor
open Go.Proofs
theorem glob_of_laid {W : World} (h : laidMetH Tryz.prog [("math/bits.deBruijn64tab", Go.Proofs.YtpedbpbmnchllaaGreatDoor.Rows.laid_math_bits_deBruijn64tab)] W) : Glob (gh0 W) W := by
  rw [MakeChecks.laidMetH_plain _ _ _ (by kernel_rfl)] at h
  obtain ⟨g, t, cs, fuel, p, hg, hty, hvar, hd⟩ := Lib.laidMet.reads h (.head _)
  obtain rfl := Option.some.inj ((show Tryz.prog.globalNamed "math/bits.deBruijn64tab" = some 0 by kernel_rfl).symm.trans hg)
  obtain rfl := Option.some.inj ((show (Tryz.prog.globals[0]?).map (·.type) = some 218 by kernel_rfl).symm.trans hty)
  have hcs := Lib.cells_of_tab (k := .u8) (zs := dbT.map fun (n : Nat) => (n : Int)) Tryz.underlying218 Tryz.underlying5 (by kernel_rfl) (by kernel_rfl) hd
  have key : ∀ (j n : Nat), dbT[j]? = some n → W.cell? ⟨0, j, none⟩ = some (.int .u8 (n : Int)) := fun j n hj => by
    rw [World.var?_cell hg hvar j, ← Array.getElem?_toList, hcs]
    simp [hj]
  intro g ns hgt
  match g, hgt with
  | 0, hgt =>
    obtain rfl := Option.some.inj hgt
    have := gh0_lim (key 63 6 rfl)
    exact ⟨by rw [dbT_len]; omega, key⟩
end Go.Proofs.YtpedbpbmnchllaaGreatDoor
namespace Go.Proofs.YtpedbpbmnchllaaGreatDoor
open Go.Proofs
theorem opens_wrB : Opens Tryz.prog 101 fun cs => ∃ x : {x : Wr // x.data.length ≤ 9223372036854775807}, cs = wrC x.1 :=
  (Opens.struct Tryz.underlying101 (N := 3) (by kernel_rfl) (.cons rfl (n := 1) (by kernel_rfl) opens_int (.cons rfl (n := 1) (by kernel_rfl) opens_int (.cons rfl (n := 1) (by kernel_rfl) opens_secs .nil)))).mono fun cs h => by
    obtain ⟨_, _, rfl, ⟨a, rfl⟩, _, _, rfl, ⟨b, rfl⟩, _, _, rfl, ⟨c, rfl, hc⟩, rfl⟩ := h
    exact ⟨⟨⟨a, b, c⟩, Nat.le_trans hc (by decide)⟩, rfl⟩
def WlB (l : List Wr) : Prop := l.length ≤ 9223372036854775807 ∧ ∀ w ∈ l, w.data.length ≤ 9223372036854775807
theorem opens_wrsB : Opens Tryz.prog 24 fun cs => ∃ l : {l : List Wr // WlB l}, cs = wlE l.1 :=
  (opens_sl (sz := 3) Tryz.underlying24 (by kernel_rfl) (by decide) opens_wrB).mono fun cs ⟨l, h, hl⟩ => by
    refine ⟨⟨l.map (·.1), by rw [List.length_map]; exact Nat.le_trans hl (by decide), fun w hw => ?_⟩, ?_⟩
    · obtain ⟨x, _, rfl⟩ := List.mem_map.1 hw
      exact x.2
    · rw [h, wlE, List.map_map]; rfl
theorem opens_wlsB : Opens Tryz.prog 25 fun cs => ∃ l : {l : List (List Wr) // ∀ x ∈ l, WlB x}, cs = [.sl .sh 1 (l.1.map wlE)] :=
  (opens_sl (sz := 1) Tryz.underlying25 (by kernel_rfl) (by decide) opens_wrsB).mono fun cs ⟨l, h, hl⟩ => by
    refine ⟨⟨l.map (·.1), fun w hw => ?_⟩, ?_⟩
    · obtain ⟨x, _, rfl⟩ := List.mem_map.1 hw
      exact x.2
    · rw [h, List.map_map]; rfl
theorem opens_rls : Opens Tryz.prog 27 fun cs => ∃ x : Rls, cs = rlC x ∧ RlsB x :=
  (Opens.struct Tryz.underlying27 (N := 4) (by kernel_rfl) (.cons rfl (n := 1) (by kernel_rfl) opens_img (.cons rfl (n := 1) (by kernel_rfl) opens_wrsB (.cons rfl (n := 1) (by kernel_rfl) opens_wrsB (.cons rfl (n := 1) (by kernel_rfl) opens_wlsB .nil))))).mono fun cs h => by
    obtain ⟨_, _, rfl, ⟨a, rfl, _⟩, _, _, rfl, ⟨b, rfl⟩, _, _, rfl, ⟨c, rfl⟩, _, _, rfl, ⟨d, rfl⟩, rfl⟩ := h
    refine ⟨⟨a, b.1, c.1, d.1⟩, rfl, fun l hl => ?_, fun l hl => ?_⟩ <;>
    · simp only [wlsR, List.mem_cons] at hl
      rcases hl with rfl | rfl | hl
      · first | exact b.2.1 | exact b.2.2
      · first | exact c.2.1 | exact c.2.2
      · first | exact (d.2 l hl).1 | exact (d.2 l hl).2
end Go.Proofs.YtpedbpbmnchllaaGreatDoor
