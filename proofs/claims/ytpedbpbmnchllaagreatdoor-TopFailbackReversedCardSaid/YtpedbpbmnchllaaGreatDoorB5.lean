import Derived.Test.YtpedbpbmnchllaaGreatDoorB4
set_option linter.unusedSimpArgs false
set_option linter.unusedVariables false
set_option linter.unusedSectionVars false
namespace Go.Proofs.YtpedbpbmnchllaaGreatDoor
open Go.Proofs
def zI (z : List Nat) : List Int := z.map fun (n : Nat) => (n : Int)
theorem zI_len (z : List Nat) : (zI z).length = z.length := List.length_map ..
theorem zI_get (z : List Nat) (i : Nat) (h : i < (zI z).length) : (zI z)[i] = ((z[i]'(by rwa [zI_len] at h) : Nat) : Int) := by simp [zI]
structure SzOkN (z : List Nat) : Prop where
  few : z.length ≤ 8
  lo : 1 ≤ z.length
  ok : ∀ n ∈ z, 1 ≤ n ∧ n ≤ 63
theorem SzOkN.sizes {z : List Nat} (h : SzOkN z) : sizesE (zI z) = 0 := by
  have h1 := h.few
  have h2 := h.lo
  have h3 : (zI z).any badSz = false := by
    rw [List.any_eq_false]
    intro x hx
    obtain ⟨n, hn, rfl⟩ := List.mem_map.1 hx
    have := h.ok n hn
    simp [badSz]; omega
  rw [sizesE, zI_len]
  rw [if_neg (by omega), h3]; rfl
structure DirtyOk (z : List Nat) (d : List Bm) : Prop where
  len : d.length = z.length
  ok : ∀ v (h : v < d.length) (h2 : v < z.length), BmOk d[v] ∧ d[v].n = z[v]
def cleanB (z : List Nat) : List Bm := z.map fun n => ⟨n, 0⟩
theorem cleanB_ok {z : List Nat} (h : SzOkN z) : DirtyOk z (cleanB z) := ⟨by simp [cleanB], fun v h1 h2 => by
  have := h.ok z[v] (List.getElem_mem h2)
  simp only [cleanB, List.getElem_map]
  exact ⟨⟨this.1, this.2, Nat.two_pow_pos _⟩, trivial⟩⟩
theorem between_cc (H : Hp) (V : List Nat) (n low high : Int) (h1 : low ≤ n) (h2 : n ≤ high) : CC Tryz.prog 85 [ci n, ci low, ci high] H V (Pu (cb true) H V) := by
  refine CC.of_swp Tryz.func85 rfl (by kernel_rfl) (by rw [Tryz.ntmps85]; exact len_le _ _ rfl) fun hok hokH => ?_
  clear hok
  refine SWp.seq (Wp.s ?_)
  simp -implicitDefEqProofs [go_sem, args0]
  refine SWp.seq (Wp.s ?_)
  simp -implicitDefEqProofs [go_sem, h1, h2]
  refine Wp.s ?_
  simp -implicitDefEqProofs [go_sem]
  exact Fin.bool rfl hokH (by simp) (by simp)
theorem tsite_cc (H : Hp) (V : List Nat) (n : Int) (h1 : 0 ≤ n) (h2 : n ≤ 3) : CC Tryz.prog 84 [ci n] H V (Pu (cb true) H V) := by
  refine CC.of_swp Tryz.func84 rfl (by kernel_rfl) (by rw [Tryz.ntmps84]; exact len_le _ _ rfl) fun hok hokH => ?_
  clear hok
  refine SWp.seq (Wp.s ?_)
  simp -implicitDefEqProofs [go_sem, args0]
  refine SWp.seq (Wp.s ?_)
  simp -implicitDefEqProofs [go_sem]
  refine CC.mono (between_cc _ _ n 0 3 h1 h2) ?_
  rintro _ _ _ ⟨rfl, rfl, rfl⟩
  simp -implicitDefEqProofs [go_sem]
  refine Wp.s ?_
  simp -implicitDefEqProofs [go_sem]
  exact Fin.bool rfl hokH (by simp) (by simp)
theorem clean_cc (H : Hp) (V : List Nat) (z : List Nat) (hz : SzOkN z) : CC Tryz.prog 106 [.sl .sh 1 ((zI z).map ic)] H V (Pu (.tup [.sl .sh 2 ((cleanB z).map bmC), er 0]) H V) := by
  refine CC.of_swp Tryz.func106 rfl (by kernel_rfl) (by rw [Tryz.ntmps106]; exact len_le _ _ rfl) fun hok hokH => ?_
  clear hok
  have h8 := hz.few
  have hzl := zI_len z
  refine SWp.seq (Wp.s ?_)
  simp -implicitDefEqProofs [go_sem, args0]
  refine SWp.seq (Wp.s ?_)
  simp -implicitDefEqProofs [go_sem]
  refine SWp.join (α := Nat) (fun v => ([(4, .sl (.own V.length v) 2 ((cleanB z).map bmC))], H, V ++ [v])) (fun _ => True) ?_ ?_
  · refine SWp.seq (Wp.s ?_)
    simp -implicitDefEqProofs [go_sem, hzl]
    refine SWp.block ?_
    refine SWp.loop (α := Nat × Nat) (fun x => ([(4, .sl (.own V.length x.2) 2 ((cleanB (z.take x.1)).map bmC)), (9, .sl .sh 1 ((zI z).map ic)), (10, ci z.length), (11, ci x.1)], H, V ++ [x.2])) (fun x => x.1 ≤ z.length) (fun x => z.length - x.1) (0, 0) (Nat.zero_le _) (Sh.tokT (by simp [go_sem, cleanB]) rfl rfl) ?_
    rintro ⟨i, v⟩ hi
    dsimp only at hi ⊢
    refine SWp.seq (Wp.s ?_)
    simp -implicitDefEqProofs [go_sem]
    refine SWp.seq (Wp.s ?_)
    simp -implicitDefEqProofs [go_sem]
    refine ⟨fun h => ?_, fun h => ?_⟩
    case refine_2 =>
      obtain rfl : i = z.length := by omega
      rw [List.take_of_length_le (Nat.le_refl _)]
      exact ⟨v, Sh.forget (by simp [go_sem]) rfl rfl⟩
    have hiz : i < (zI z).length := by omega
    obtain ⟨n1, n2⟩ := hz.ok z[i] (List.getElem_mem h)
    refine SWp.seq (SWp.block (SWp.seq (Wp.s ?_)))
    simp -implicitDefEqProofs [go_sem, hiz, zI_get]
    refine SWp.seq (Wp.s ?_)
    simp -implicitDefEqProofs [go_sem]
    refine CC.mono (bmNew_cc _ _ z[i] n1 n2) ?_
    rintro _ _ _ ⟨rfl, rfl, rfl⟩
    simp -implicitDefEqProofs [go_sem]
    refine SWp.seq (SWp.seq (Wp.s ?_))
    simp -implicitDefEqProofs [go_sem]
    refine Wp.s ?_
    simp -implicitDefEqProofs [go_sem]
    refine Wp.s ?_
    simp -implicitDefEqProofs [go_sem]
    have hcl : (cleanB (z.take i)).length = i := by simp [cleanB]; omega
    refine ⟨by omega, ?_⟩
    refine Wp.s ?_
    simp -implicitDefEqProofs [go_sem]
    refine ⟨i + 1, by omega, by omega, v + 1, ?_⟩
    refine Sh.trim0 ?_ ?_ hokH (by simp) (by simp) (by simp)
    · rw [List.take_succ_eq_append_getElem h, show cleanB (z.take i ++ [z[i]]) = cleanB (z.take i) ++ [⟨z[i], 0⟩] by simp only [cleanB, List.map_append, List.map_cons, List.map_nil]]
      simp [go_sem, wrap_succ (show i ≤ 1000000000 by omega)]
    · simp [go_sem, okE_bms, okE_ints]
  rintro v -
  dsimp only
  refine SWp.seq (Wp.s ?_)
  simp -implicitDefEqProofs [go_sem]
  refine Wp.s ?_
  simp -implicitDefEqProofs [go_sem]
  exact Fin.pu (.tup (.cons (.sh _ _ _) (.cons (.refl _) .nil))) (by simp [go_sem, okE_bms]) hokH (by simp) (by simp)
theorem chkB1_cc (H : Hp) (V : List Nat) (b : Bm) (n : Nat) (hb : BmOk b) (hn : b.n = n) : CC Tryz.prog 124 [.agg (bmC b), ci n] H V (Pu (.tup [cb true, er 0]) H V) := by
  refine CC.of_swp Tryz.func124 rfl (by kernel_rfl) (by rw [Tryz.ntmps124]; exact len_le _ _ rfl) fun hok hokH => ?_
  clear hok
  refine SWp.seq (Wp.s ?_)
  simp -implicitDefEqProofs [go_sem, args0]
  refine SWp.seq (SWp.seq (Wp.s ?_))
  simp -implicitDefEqProofs [go_sem]
  refine CC.mono (bmCheck_cc _ _ b hb) ?_
  rintro _ _ _ ⟨rfl, rfl, rfl⟩
  simp -implicitDefEqProofs [go_sem]
  refine SWp.seq (Wp.s ?_)
  simp -implicitDefEqProofs [go_sem]
  refine Wp.s ?_
  simp -implicitDefEqProofs [go_sem]
  refine SWp.seq (SWp.seq (Wp.s ?_))
  simp -implicitDefEqProofs [go_sem, hn]
  refine Wp.s ?_
  simp -implicitDefEqProofs [go_sem]
  refine SWp.seq (Wp.s ?_)
  simp -implicitDefEqProofs [go_sem]
  refine Wp.s ?_
  simp -implicitDefEqProofs [go_sem]
  exact Fin.pu (.refl _) (by simp [go_sem]) hokH (by simp) (by simp)
theorem each_cc (H : Hp) (V : List Nat) (z : List Nat) (d : List Bm) (hd : DirtyOk z d) (hz : z.length ≤ 8) : CC Tryz.prog 123 [.sl .sh 2 (d.map bmC), .sl .sh 1 ((zI z).map ic), .fn 124 []] H V (Pu (.tup [.any, er 0]) H V) := by
  refine CC.of_swp Tryz.func123 rfl (by kernel_rfl) (by rw [Tryz.ntmps123]; exact len_le _ _ rfl) fun hok hokH => ?_
  clear hok
  have hzl := zI_len z
  have hl := hd.len
  refine SWp.seq (Wp.s ?_)
  simp -implicitDefEqProofs [go_sem, args0]
  refine SWp.seq (Wp.s ?_)
  simp -implicitDefEqProofs [go_sem]
  refine SWp.join (α := Nat) (fun v => ([(8, .any)], H, V ++ [v])) (fun _ => True) ?_ ?_
  · refine SWp.seq (Wp.s ?_)
    simp -implicitDefEqProofs [go_sem, hl]
    refine SWp.block ?_
    refine SWp.loop (α := Nat × Nat) (fun x => ([(0, .sl .sh 2 (d.map bmC)), (1, .sl .sh 1 ((zI z).map ic)), (2, .fn 124 []), (8, .sl (.own V.length x.2) 1 (List.replicate x.1 [cb true])), (13, ci z.length), (14, ci x.1)], H, V ++ [x.2])) (fun x => x.1 ≤ z.length) (fun x => z.length - x.1) (0, 0) (Nat.zero_le _) (Sh.tokT (by simp [go_sem]) rfl rfl) ?_
    rintro ⟨i, v⟩ hi
    dsimp only at hi ⊢
    refine SWp.seq (Wp.s ?_)
    simp -implicitDefEqProofs [go_sem]
    refine SWp.seq (Wp.s ?_)
    simp -implicitDefEqProofs [go_sem]
    refine ⟨fun h => ?_, fun h => ?_⟩
    case refine_2 => exact ⟨v, Sh.forget (by simp [go_sem]) rfl rfl⟩
    have hiz : i < (zI z).length := by omega
    have hid : i < d.length := by omega
    obtain ⟨n1, n2⟩ := hd.ok i hid h
    refine SWp.seq (SWp.block (SWp.seq (Wp.s ?_)))
    simp -implicitDefEqProofs [go_sem]
    refine SWp.seq (SWp.drawnT [] [] (.s 0 .pl <| .s 1 .pl <| .s 2 .pl <| .s 3 .pl <| .s 4 .pl <| .s 5 .pl <| .s 6 .pl <| .s 7 .pl <| .s 8 .pl <| .s 9 .pl <| .s 10 .pl <| .s 11 .pl <| .s 12 .pl <| .s 13 .pl <| .s 14 .pl <| .n) (by kernel_rfl) (by kernel_rfl) ?_)
    simp -implicitDefEqProofs [go_sem, hid, hiz, zI_get]
    refine CC.mono (chkB1_cc _ _ d[i] z[i] n1 n2) ?_
    rintro _ _ _ ⟨rfl, rfl, rfl⟩
    simp -implicitDefEqProofs [go_sem]
    refine SWp.seq (SWp.seq (Wp.s ?_))
    simp -implicitDefEqProofs [go_sem]
    refine Wp.s ?_
    simp -implicitDefEqProofs [go_sem]
    refine Wp.s ?_
    simp -implicitDefEqProofs [go_sem]
    refine ⟨by omega, ?_⟩
    refine Wp.s ?_
    simp -implicitDefEqProofs [go_sem]
    refine ⟨i + 1, by omega, by omega, v + 1, Sh.forget ?_ rfl (by simp)⟩
    simp [go_sem, wrap_succ (show i ≤ 1000000000 by omega), List.replicate_succ']
  rintro v -
  dsimp only
  refine SWp.seq (Wp.s ?_)
  simp -implicitDefEqProofs [go_sem]
  refine Wp.s ?_
  simp -implicitDefEqProofs [go_sem]
  exact Fin.pu (.refl _) (by simp [go_sem, okV, okL]) hokH (by simp) (by simp)
theorem chkBs_cc (H : Hp) (V : List Nat) (z : List Nat) (d : List Bm) (hd : DirtyOk z d) (hz : z.length ≤ 8) : CC Tryz.prog 86 [.sl .sh 2 (d.map bmC), .sl .sh 1 ((zI z).map ic)] H V (Pu (er 0) H V) := by
  refine CC.of_swp Tryz.func86 rfl (by kernel_rfl) (by rw [Tryz.ntmps86]; exact len_le _ _ rfl) fun hok hokH => ?_
  clear hok
  have hzl := zI_len z
  have hl := hd.len
  refine SWp.seq (Wp.s ?_)
  simp -implicitDefEqProofs [go_sem, args0]
  refine SWp.seq (SWp.seq (Wp.s ?_))
  simp -implicitDefEqProofs [go_sem, hl, hzl]
  refine Wp.s ?_
  simp -implicitDefEqProofs [go_sem]
  refine SWp.seq (Wp.s ?_)
  simp -implicitDefEqProofs [go_sem]
  refine CC.mono (each_cc _ _ z d hd hz) ?_
  rintro _ _ _ ⟨rfl, rfl, rfl⟩
  simp -implicitDefEqProofs [go_sem]
  refine Wp.s ?_
  simp -implicitDefEqProofs [go_sem]
  exact Fin.er rfl hokH (by simp) (by simp)
end Go.Proofs.YtpedbpbmnchllaaGreatDoor
namespace Go.Proofs.YtpedbpbmnchllaaGreatDoor
open Go.Proofs
structure Pee where
  site : Nat
  common : Int
  dirty : List Bm
def prC (p : Pee) : List CV := [ci p.site, ci p.common, .sl .sh 2 (p.dirty.map bmC)]
@[go_sem, simp] theorem prC_len (p : Pee) : (prC p).length = 3 := rfl
@[go_sem, simp] theorem prC_all (p : Pee) : allOne (prC p) = true := rfl
@[go_sem, simp] theorem prC_take (p : Pee) : (prC p).take 3 = prC p := rfl
@[go_sem, simp] theorem prC_drop (p : Pee) : (prC p).drop 3 = [] := rfl
@[go_sem, simp] theorem prC_0 (p : Pee) (h : 0 < (prC p).length) : (prC p)[0] = ci p.site := rfl
@[go_sem, simp] theorem prC_1 (p : Pee) (h : 1 < (prC p).length) : (prC p)[1] = ci p.common := rfl
@[go_sem, simp] theorem prC_2 (p : Pee) (h : 2 < (prC p).length) : (prC p)[2] = .sl .sh 2 (p.dirty.map bmC) := rfl
@[go_sem] theorem okL_prC (jb jv : Nat) (p : Pee) : okL jb jv (prC p) = True := by simp [prC, okL, go_sem, okE_bms]
theorem okE_prs (jb jv : Nat) : ∀ (l : List Pee), okE jb jv (l.map prC)
  | [] => trivial
  | e :: l => by rw [List.map_cons, okE]; exact ⟨by rw [okL_prC]; trivial, okE_prs jb jv l⟩
structure Trk where
  z : List Nat
  peers : List Pee
def trkC (t : Trk) : List CV := [.sl .sh 1 ((zI t.z).map ic), .sl .sh 3 (t.peers.map prC)]
@[go_sem, simp] theorem trkC_len (t : Trk) : (trkC t).length = 2 := rfl
@[go_sem, simp] theorem trkC_all (t : Trk) : allOne (trkC t) = true := rfl
@[go_sem, simp] theorem trkC_take (t : Trk) : (trkC t).take 2 = trkC t := rfl
@[go_sem, simp] theorem trkC_drop (t : Trk) : (trkC t).drop 2 = [] := rfl
@[go_sem, simp] theorem trkC_0 (t : Trk) (h : 0 < (trkC t).length) : (trkC t)[0] = .sl .sh 1 ((zI t.z).map ic) := rfl
@[go_sem, simp] theorem trkC_1 (t : Trk) (h : 1 < (trkC t).length) : (trkC t)[1] = .sl .sh 3 (t.peers.map prC) := rfl
@[go_sem] theorem okL_trkC (jb jv : Nat) (t : Trk) : okL jb jv (trkC t) = True := by simp [trkC, okL, go_sem, okE_prs, okE_ints]
structure PeeOk (z : List Nat) (p : Pee) : Prop where
  site : p.site ≤ 3
  c0 : 0 ≤ p.common
  c1 : p.common ≤ 1073741824
  dirty : DirtyOk z p.dirty
structure TrkOk (t : Trk) : Prop where
  z : SzOkN t.z
  few : t.peers.length ≤ 4
  ok : ∀ p ∈ t.peers, PeeOk t.z p
  inc : ∀ i (h : i + 1 < t.peers.length), t.peers[i].site < t.peers[i + 1].site
def siteAt (l : List Pee) (i : Nat) : Int := if h : 0 < i ∧ i ≤ l.length then ((l[i - 1]'(by omega)).site : Int) else -1
theorem siteAt_succ (l : List Pee) (i : Nat) (h : i < l.length) : siteAt l (i + 1) = ((l[i].site : Nat) : Int) := by
  rw [siteAt, dif_pos ⟨by omega, by omega⟩]; rfl
theorem siteAt_lt {t : Trk} (ht : TrkOk t) (i : Nat) (h : i < t.peers.length) : siteAt t.peers i < ((t.peers[i].site : Nat) : Int) := by
  cases i with
  | zero => rw [siteAt, dif_neg (by omega)]; omega
  | succ i => rw [siteAt_succ _ _ (by omega)]; have := ht.inc i h; omega
set_option maxRecDepth 8000 in
theorem tkCheck_cc (H : Hp) (V : List Nat) (t : Trk) (ht : TrkOk t) : CC Tryz.prog 41 [.agg (trkC t)] H V (Pu (er 0) H V) := by
  refine CC.of_swp Tryz.func41 rfl (by kernel_rfl) (by rw [Tryz.ntmps41]; exact len_le _ _ rfl) fun hok hokH => ?_
  clear hok
  have hz := ht.z.sizes
  have hf := ht.few
  have h8 := ht.z.few
  have hzl := zI_len t.z
  refine SWp.seq (Wp.s ?_)
  simp -implicitDefEqProofs [go_sem, args0]
  refine SWp.seq (SWp.seq (Wp.s ?_))
  simp -implicitDefEqProofs [go_sem]
  refine CC.mono (New_cc _ _ .sh (zI t.z) (by omega)) ?_
  rintro _ _ _ ⟨rfl, rfl, rfl⟩
  rw [hz]
  simp -implicitDefEqProofs [go_sem]
  refine SWp.seq (Wp.s ?_)
  simp -implicitDefEqProofs [go_sem]
  refine Wp.s ?_
  simp -implicitDefEqProofs [go_sem]
  refine SWp.seq (SWp.seq (Wp.s ?_))
  simp -implicitDefEqProofs [go_sem, show ¬ (4 : Int) < t.peers.length by omega, show ¬ 4 < t.peers.length by omega]
  refine Wp.s ?_
  simp -implicitDefEqProofs [go_sem]
  refine SWp.seq (Wp.s ?_)
  simp -implicitDefEqProofs [go_sem]
  refine SWp.join (α := Unit) (fun _ => ([], H, V)) (fun _ => True) ?_ ?_
  · refine SWp.seq (Wp.s ?_)
    simp -implicitDefEqProofs [go_sem]
    refine SWp.block ?_
    refine SWp.loop (α := Nat) (fun i => ([(1, .ptr H.length 0), (5, ci (siteAt t.peers i)), (23, .sl .sh 3 (t.peers.map prC)), (24, ci t.peers.length), (25, ci i)], H ++ [some (trkC t)], V)) (fun i => i ≤ t.peers.length) (fun i => t.peers.length - i) 0 (Nat.zero_le _) (Sh.forget (by simp [go_sem, siteAt]) rfl rfl) ?_
    intro i hi
    dsimp only
    refine SWp.seq (Wp.s ?_)
    simp -implicitDefEqProofs [go_sem]
    refine SWp.seq (Wp.s ?_)
    simp -implicitDefEqProofs [go_sem]
    refine ⟨fun h => ?_, fun h => Sh.trim0 (by simp [go_sem]) (by simp [go_sem]) hokH (Nat.le_refl _) (by simp) (by simp)⟩
    have hsl := siteAt_lt ht i h
    have hss := siteAt_succ t.peers i h
    obtain ⟨p1, p2, p3, p4⟩ := ht.ok t.peers[i] (List.getElem_mem h)
    refine SWp.seq (SWp.block (SWp.seq (Wp.s ?_)))
    simp -implicitDefEqProofs [go_sem, h]
    refine SWp.seq (SWp.block (SWp.seq (Wp.s ?_)))
    simp -implicitDefEqProofs [go_sem]
    refine CC.mono (tsite_cc _ _ t.peers[i].site (by omega) (by omega)) ?_
    rintro _ _ _ ⟨rfl, rfl, rfl⟩
    simp -implicitDefEqProofs [go_sem]
    have hle : ¬ ((t.peers[i].site : Nat) : Int) ≤ siteAt t.peers i := by omega
    refine Wp.s ?_
    simp -implicitDefEqProofs [go_sem, hle]
    refine CC.mono (between_cc _ _ t.peers[i].common 0 1073741824 p2 p3) ?_
    rintro _ _ _ ⟨rfl, rfl, rfl⟩
    simp -implicitDefEqProofs [go_sem]
    refine SWp.seq (SWp.seq (Wp.s ?_))
    simp -implicitDefEqProofs [go_sem]
    refine CC.mono (chkBs_cc _ _ t.z t.peers[i].dirty p4 (by omega)) ?_
    rintro _ _ _ ⟨rfl, rfl, rfl⟩
    simp -implicitDefEqProofs [go_sem]
    refine SWp.seq (Wp.s ?_)
    simp -implicitDefEqProofs [go_sem]
    refine Wp.s ?_
    simp -implicitDefEqProofs [go_sem]
    refine Wp.s ?_
    simp -implicitDefEqProofs [go_sem]
    refine Wp.s ?_
    simp -implicitDefEqProofs [go_sem]
    refine ⟨i + 1, by omega, by omega, ?_⟩
    rw [hss]
    refine Sh.trim (L := [some (trkC t)]) ?_ (by simp [go_sem, okE_prs]) hokH (by rw [okH_some, okL_trkC]; exact ⟨trivial, trivial⟩) (Nat.le_refl _) (by simp) (by simp)
    simp [go_sem, wrap_succ (show i ≤ 1000000000 by omega)]
  rintro _ -
  dsimp only
  refine SWp.seq (Wp.s ?_)
  simp -implicitDefEqProofs [go_sem]
  refine Wp.s ?_
  simp -implicitDefEqProofs [go_sem]
  exact Fin.er rfl hokH (by simp) (by simp)
theorem tkOwn_cc (H : Hp) (V : List Nat) (b : Bm) : CC Tryz.prog 142 [.agg (bmC b)] H V (Pu (.agg (bmC b)) H V) := by
  refine CC.of_swp Tryz.func142 rfl (by kernel_rfl) (by rw [Tryz.ntmps142]; exact len_le _ _ rfl) fun hok hokH => ?_
  clear hok
  refine SWp.seq (Wp.s ?_)
  simp -implicitDefEqProofs [go_sem, args0]
  refine SWp.seq (SWp.drawnT [] [6] (.s 0 .pl <| .s 1 .pl <| .s 2 .pl <| .s 3 .pl <| .s 4 .pl <| .s 5 .pl <| .s 6 .st <| .n) (by kernel_rfl) (by kernel_rfl) ?_)
  simp -implicitDefEqProofs [go_sem]
  refine CC.mono (cloneW_cc _ _ b.w) ?_
  rintro _ _ _ ⟨rfl, rfl, rfl⟩
  simp -implicitDefEqProofs [go_sem]
  refine Wp.s ?_
  simp -implicitDefEqProofs [go_sem]
  refine Fin.frozY (b := H.length + 2) (cs := [wv b.w]) (r1 := .agg [ci b.n, .bsl (H.length + 2) 0 1 1]) (r2 := .agg (bmC b)) ⟨rfl, rfl, rfl⟩ (.refl _) (hget _ _ 2) (.agg (.cons (.refl _) (.cons (.bsl 0 1 1 (by simp)) .nil))) (by omega) (by simp [go_sem]) hokH (by simp) (by simp)
def bmF (l : List Bm) : List CV := (l.map bmC).flatten
theorem bmF_len : ∀ (l : List Bm), (bmF l).length = l.length * 2
  | [] => rfl
  | b :: l => by rw [bmF, List.map_cons, List.flatten_cons, ← bmF, List.length_append, bmF_len l, bmC_len, List.length_cons]; omega
theorem bmF_snoc (l : List Bm) (b : Bm) : bmF (l ++ [b]) = bmF l ++ bmC b := by simp [bmF]
theorem chunks_bmF : ∀ (l : List Bm), chunks 2 l.length (bmF l) = l.map bmC
  | [] => rfl
  | o :: B => by
    rw [List.length_cons, chunks, bmF, List.map_cons, List.flatten_cons, ← bmF]
    rw [show (bmC o ++ bmF B).take 2 = bmC o from rfl, show (bmC o ++ bmF B).drop 2 = bmF B from rfl, chunks_bmF B]
theorem okL_bmF (jb jv : Nat) : ∀ (l : List Bm), okL jb jv (bmF l) = True
  | [] => by simp [bmF, okL]
  | b :: l => by
    have := okL_bmF jb jv l
    have h2 := okL_bmC jb jv b
    rw [bmF, List.map_cons, List.flatten_cons, ← bmF]
    exact eq_true (okL_app (of_eq_true h2) (of_eq_true this))
def OwA (h : Nat) (l : List Bm) (cv : CV) (W : Hp) : Prop :=
  (cv = .v (.slice none 0 0) ∧ l = []) ∨ ∃ j, l ≠ [] ∧ cv = .bsa (h + j) l.length 2 ∧ W[j]? = some (some (bmF l))
def OwR (l : List Bm) (H : Hp) (V : List Nat) : CV → Hp → List Nat → Prop := fun r H' V' => ∃ W, H' = H ++ W ∧ V' = V ∧ OwA H.length l r W
theorem tkOwnAll_cc (H : Hp) (V : List Nat) (l : List Bm) (hl : l.length ≤ 1000) : CC Tryz.prog 128 [.sl .sh 2 (l.map bmC)] H V (OwR l H V) := by
  refine CC.of_swp Tryz.func128 rfl (by kernel_rfl) (by rw [Tryz.ntmps128]; exact len_le _ _ rfl) fun hok hokH => ?_
  clear hok
  refine SWp.seq (Wp.s ?_)
  simp -implicitDefEqProofs [go_sem, args0]
  refine SWp.seq (Wp.s ?_)
  simp -implicitDefEqProofs [go_sem]
  refine SWp.join (α := CV × Hp) (fun x => ([(3, x.1)], H ++ x.2, V)) (fun x => OwA H.length l x.1 x.2) ?_ ?_
  · refine SWp.seq (Wp.s ?_)
    simp -implicitDefEqProofs [go_sem]
    refine SWp.block ?_
    refine SWp.loop (α := Nat × CV × Hp) (fun x => ([(3, x.2.1), (6, .sl .sh 2 (l.map bmC)), (7, ci l.length), (8, ci x.1)], H ++ x.2.2, V)) (fun x => x.1 ≤ l.length ∧ OwA H.length (l.take x.1) x.2.1 x.2.2) (fun x => l.length - x.1) (0, .v (.slice none 0 0), []) ⟨Nat.zero_le _, .inl ⟨rfl, rfl⟩⟩ (Sh.forget (by simp [go_sem]) (by simp) rfl) ?_
    rintro ⟨i, cv, W⟩ ⟨hi, hc⟩
    dsimp only at hi hc ⊢
    refine SWp.seq (Wp.s ?_)
    simp -implicitDefEqProofs [go_sem]
    refine SWp.seq (Wp.s ?_)
    simp -implicitDefEqProofs [go_sem]
    refine ⟨fun h => ?_, fun h => ?_⟩
    case refine_2 =>
      rw [List.take_of_length_le (by omega)] at hc
      exact ⟨cv, W, hc, Sh.forget (by simp [go_sem]) rfl rfl⟩
    have htk := List.take_succ_eq_append_getElem h
    refine SWp.seq (SWp.block (SWp.seq (Wp.s ?_)))
    simp -implicitDefEqProofs [go_sem, h]
    rcases hc with ⟨rfl, hln⟩ | ⟨j, hne, rfl, hj⟩
    · refine SWp.opx (pre := [_, _, _, _]) (post := [_]) rfl (by intro c e; cases e) ?_
      simp -implicitDefEqProofs [go_sem]
      refine CC.mono (tkOwn_cc _ _ l[i]) ?_
      rintro _ _ _ ⟨rfl, rfl, rfl⟩
      simp -implicitDefEqProofs [go_sem]
      refine ⟨_, _, _, appboxN (sz := 2) (tk := .ti) (ys := [bmC l[i]]) slTy30 slTy30 (by decide) rfl rfl (by simp) (by simp), ?_⟩
      simp -implicitDefEqProofs [go_sem]
      refine Wp.s ?_
      simp -implicitDefEqProofs [go_sem]
      refine ⟨i + 1, _, W ++ [some (bmC l[i]), some (bmC l[i])], ⟨by omega, .inr ⟨W.length + 1, ?_, rfl, ?_⟩⟩, by omega, Sh.forget ?_ rfl rfl⟩
      · rw [htk]; exact List.append_ne_nil_of_right_ne_nil _ (by simp)
      · rw [htk, hln, List.nil_append, List.getElem?_append_right (by omega), Nat.add_sub_cancel_left]; simp [bmF]
      · have hone : (l.take (i + 1)).length = 1 := by rw [htk, hln]; rfl
        simp only [hone]
        simp [go_sem, wrap_succ (show i ≤ 1000000000 by omega)]
    · have hjl := (List.getElem?_eq_some_iff.1 hj).1
      have hj2 : (W ++ [some (bmC l[i])])[j]? = some (some (bmF (l.take i))) := by rw [List.getElem?_append_left hjl]; exact hj
      have hj3 : (H ++ (W ++ [some (bmC l[i])]))[H.length + j]? = some (some (bmF (l.take i))) := by rw [hget]; exact hj2
      have hbl := bmF_len (l.take i)
      rw [List.length_take] at hbl
      refine Wp.s ?_
      simp -implicitDefEqProofs [go_sem]
      refine CC.mono (tkOwn_cc _ _ l[i]) ?_
      rintro _ _ _ ⟨rfl, rfl, rfl⟩
      simp -implicitDefEqProofs [go_sem, hbx_of hj2, hbx_of hj3, hbl]
      refine ⟨by omega, ?_⟩
      refine Wp.s ?_
      simp -implicitDefEqProofs [go_sem]
      refine ⟨i + 1, _, (W ++ [some (bmC l[i])]).set j none ++ [some (bmF (l.take (i + 1)))], ⟨by omega, .inr ⟨W.length + 1, ?_, rfl, ?_⟩⟩, by omega, Sh.forget ?_ ?_ rfl⟩
      · rw [htk]; exact List.append_ne_nil_of_right_ne_nil _ (by simp)
      · rw [List.getElem?_append_right (by simp)]; simp
      · simp only [htk, List.length_append, List.length_singleton, List.length_take]
        simp [go_sem, wrap_succ (show i ≤ 1000000000 by omega)]
      · rw [htk, bmF_snoc]
  rintro ⟨cv, W⟩ hc
  dsimp only at hc ⊢
  refine SWp.seq (Wp.s ?_)
  simp -implicitDefEqProofs [go_sem]
  refine Wp.s ?_
  simp -implicitDefEqProofs [go_sem]
  exact Fin.self ⟨W, rfl, rfl, hc⟩
end Go.Proofs.YtpedbpbmnchllaaGreatDoor
namespace Go.Proofs.YtpedbpbmnchllaaGreatDoor
open Go.Proofs
theorem mpTyPeers : mpTy Tryz.prog 162 = some (.agg #[.int .i64 0, .int .i64 0, .slice none 0 0]) := by kernel_rfl
@[go_sem] theorem mpTyPeers1 : (mpTy Tryz.prog 162).isSome = true := by rw [mpTyPeers]; rfl
@[go_sem] theorem withO_peers (K : Value → Prop) : withO (mpTy Tryz.prog 162) K = K (.agg #[.int .i64 0, .int .i64 0, .slice none 0 0]) := by rw [mpTyPeers]; rfl
theorem tkKeys_cc (H : Hp) (V : List Nat) (L b2 b : Nat) (ks : List Int) (vs : List CV) (I : List Nat → Hp → List Nat → Prop)
    (hb2 : H[b2]? = some (some [.mv b])) (hb : H[b]? = some (some [.objm ks vs]))
    (h0 : I [] (H ++ [some [.obji b ks.length []]]) V)
    (hI : ∀ s G W, I s G W → G[H.length]? = some (some [.obji b ks.length s]) ∧ G[b]? = some (some [.objm ks vs]) ∧ ∀ i ∈ s, i < ks.length)
    (hy : ∀ s i G W, I s G W → (h : i < ks.length) → i ∉ s → YC Tryz.prog L [ci (ks[i])] (G.set H.length (some [.obji b ks.length (s ++ [i])])) W (fun r G' W' => r = .v (.bool true) ∧ I (s ++ [i]) G' W')) :
    CC Tryz.prog 149 [.yl L, .ptr b2 0] H V (fun _ H' V' => ∃ s, I s H' V' ∧ ∀ i, i < ks.length → i ∈ s) := by
  refine CC.of_swp Tryz.func149 rfl (by kernel_rfl) (by rw [Tryz.ntmps149]; exact len_le _ _ rfl) fun hok hokH => ?_
  clear hok
  refine SWp.seq (Wp.s ?_)
  simp -implicitDefEqProofs [go_sem, args0, hbx_of hb2, hbm_some hb]
  refine SWp.block ?_
  refine SWp.loop (α := List Nat × Hp × List Nat) (fun x => ([(0, .yl L), (5, .it H.length)], x.2.1, x.2.2)) (fun x => I x.1 x.2.1 x.2.2) (fun x => uns x.1 (List.range ks.length)) ([], _, V) h0 (Sh.forget (by simp -implicitDefEqProofs [go_sem]) rfl rfl) ?_
  rintro ⟨s, G, W⟩ hi
  dsimp only at hi ⊢
  obtain ⟨g1, g2, g3⟩ := hI _ _ _ hi
  refine SWp.seq (Wp.s ?_)
  simp -implicitDefEqProofs [go_sem]
  unfold cnext
  dsimp only
  refine ⟨rfl, b, ks.length, s, ks, vs, g1, g2, rfl, g3, fun hall => ?_, fun i hil hni => ?_⟩
  · simp -implicitDefEqProofs [go_sem]
    refine SWp.seq (Wp.s ?_)
    simp -implicitDefEqProofs [go_sem]
    exact Fin.self ⟨s, hi, hall⟩
  · have hbl : b < H.length := by
      rcases Nat.lt_or_ge b H.length with h | h
      · exact h
      · rw [List.getElem?_eq_none h] at hb; cases hb
    have hql : H.length < G.length := (List.getElem?_eq_some_iff.1 g1).1
    have q1 : (G.set H.length (some [.obji b ks.length (s ++ [i])]))[H.length]? = some (some [.obji b ks.length (s ++ [i])]) := List.getElem?_set_self hql
    have q2 : (G.set H.length (some [.obji b ks.length (s ++ [i])]))[b]? = some (some [.objm ks vs]) := by rw [List.getElem?_set_ne (by omega)]; exact g2
    simp -implicitDefEqProofs [go_sem]
    refine SWp.seq (Wp.s ?_)
    simp -implicitDefEqProofs [go_sem]
    refine SWp.block (SWp.seq (Wp.s ?_))
    simp -implicitDefEqProofs [go_sem]
    unfold centry
    dsimp only
    refine ⟨b, ks.length, s, i, ks, vs, q1, q2, rfl, hil, ?_⟩
    rw [List.getElem?_eq_getElem hil, Option.getD_some]
    simp -implicitDefEqProofs [go_sem]
    refine SWp.seq (Wp.s ?_)
    simp -implicitDefEqProofs [go_sem]
    refine YC.mono (hy s i G W hi hil hni) ?_
    rintro _ G2 W2 ⟨rfl, hi2⟩
    simp -implicitDefEqProofs [go_sem]
    refine Wp.s ?_
    simp -implicitDefEqProofs [go_sem]
    exact ⟨s ++ [i], G2, W2, hi2, uns_lt s i hni _ (by simpa using hil), Sh.forget (by simp -implicitDefEqProofs [go_sem]) rfl rfl⟩
def ClA (h : Nat) (ks : List Int) (s : List Nat) (cv : CV) (xs : List Int) (W : Hp) : Prop :=
  (xs = s.map (fun i => ks.getD i 0) ∧ s.Nodup) ∧ ((cv = .sl .ti 1 [] ∧ xs = []) ∨ ∃ j, cv = .bsa (h + (j + 3)) xs.length 1 ∧ W[j]? = some (some (xs.map ci)))
def ColA (ks : List Int) (H : Hp) (V : List Nat) : CV → Hp → List Nat → Prop := fun r H' V' => ∃ (xs : List Int) (W : Hp), H' = H ++ W ∧ V' = V ∧ xs.Perm ks ∧ ((r = .sl .ti 1 [] ∧ xs = []) ∨ ∃ j, r = .bsa (H.length + j) xs.length 1 ∧ W[j]? = some (some (xs.map ci)))
theorem nodup_lenL : ∀ (s l : List Nat), s.Nodup → (∀ i ∈ s, i ∈ l) → s.length ≤ l.length
  | [], l, _, _ => Nat.zero_le _
  | x :: s, l, h, h2 => by
    rw [List.nodup_cons] at h
    have hx := h2 x (by simp)
    have := nodup_lenL s (l.erase x) h.2 fun i hi => (List.mem_erase_of_ne (fun e : i = x => h.1 (e ▸ hi))).2 (h2 i (by simp [hi]))
    rw [List.length_erase_of_mem hx] at this
    have := List.length_pos_of_mem hx
    rw [List.length_cons]; omega
theorem nodup_len {s : List Nat} {n : Nat} (h : s.Nodup) (h2 : ∀ i ∈ s, i < n) : s.length ≤ n := by
  have := nodup_lenL s (List.range n) h fun i hi => List.mem_range.2 (h2 i hi)
  rwa [List.length_range] at this
theorem seen_perm {s : List Nat} {ks : List Int} (h : s.Nodup) (h2 : ∀ i ∈ s, i < ks.length) (h3 : ∀ i, i < ks.length → i ∈ s) : (s.map (fun i => ks.getD i 0)).Perm ks := by
  have hp : s.Perm (List.range ks.length) := by
    rw [List.perm_ext_iff_of_nodup h List.nodup_range]
    intro i
    rw [List.mem_range]
    exact ⟨h2 i, h3 i⟩
  refine (hp.map _).trans (.of_eq ?_)
  refine List.ext_getElem (by simp) fun i a b => ?_
  simp [List.getD_eq_getElem?_getD, b]
theorem tkAppSeq_cc (H : Hp) (V : List Nat) (b2 b : Nat) (ks : List Int) (vs : List CV) (hb2 : H[b2]? = some (some [.mv b])) (hb : H[b]? = some (some [.objm ks vs])) (hkl : ks.length ≤ 1000000) :
    CC Tryz.prog 152 [.sl .ti 1 [], .fn 149 [.ptr b2 0]] H V (ColA ks H V) := by
  refine CC.of_swp0 Tryz.func152 rfl (by kernel_rfl) (by rw [Tryz.ntmps152]; exact len_le _ _ rfl) fun hok hokH => ?_
  have hb2l := (List.getElem?_eq_some_iff.1 hb2).1
  have hbl := (List.getElem?_eq_some_iff.1 hb).1
  refine SWp0.seq (SWp.s0 (Wp.s ?_))
  simp -implicitDefEqProofs [go_sem, args0]
  refine SWp0.join (α := CV × List Int × Option (List CV) × Hp) (fun x => ([(2, .ptr H.length 0)], H ++ (some [x.1] :: none :: x.2.2.1 :: x.2.2.2), V)) (fun x => (∃ s, ClA H.length ks s x.1 x.2.1 x.2.2.2) ∧ x.2.1.Perm ks) ?_ ?_
  · refine SWp0.seq (SWp.s0 (Wp.s ?_))
    simp -implicitDefEqProofs [go_sem]
    refine SWp0.block (SWp0.range [(2, .ptr H.length 0)] rfl (by simp -implicitDefEqProofs [go_sem]) ?_)
    simp -implicitDefEqProofs [go_sem]
    generalize hbd : Code.block 1 _ = bd
    generalize has : Code.region 2 _ _ = asg
    refine CC.mono (tkKeys_cc _ V _ b2 b ks vs (fun s G W => W = V ∧ ∃ cv xs Wg, G = H ++ (some [cv] :: some [lpc 13 #[7] asg bd [(2, .ptr H.length 0)] .ready none] :: some [.obji b ks.length s] :: Wg) ∧ ClA H.length ks s cv xs Wg ∧ (∀ i ∈ s, i < ks.length)) ?_ ?_ ?_ ?_ ?_) ?_
    · rw [List.getElem?_append_left hb2l]; exact hb2
    · rw [List.getElem?_append_left hbl]; exact hb
    · exact ⟨rfl, .sl .ti 1 [], [], [], by simp, ⟨⟨rfl, List.nodup_nil⟩, .inl ⟨rfl, rfl⟩⟩, by simp⟩
    · rintro s _ _ ⟨rfl, cv, xs, Wg, rfl, hc, hs⟩
      exact ⟨by rw [List.length_append]; exact Go.Proofs.YtpedbpbmnchllaaGreatDoor.hget H _ 2, by rw [List.getElem?_append_left hbl]; exact hb, hs⟩
    · rintro s i _ V1 ⟨rfl, cv, xs, Wg, rfl, hc, hs⟩ hil hni
      have e : List.set (H ++ (some [cv] :: some [lpc 13 #[7] asg bd [(2, .ptr H.length 0)] .ready none] :: some [.obji b ks.length s] :: Wg)) (H ++ [some [.sl .ti 1 []], some [lpc 13 #[7] asg bd [(2, .ptr H.length 0)] .ready none]]).length (some [.obji b ks.length (s ++ [i])]) =
          H ++ (some [cv] :: some [lpc 13 #[7] asg bd [(2, .ptr H.length 0)] .ready none] :: some [.obji b ks.length (s ++ [i])] :: Wg) := by
        rw [List.length_append, List.set_append_right _ _ (by omega), Nat.add_sub_cancel_left]; rfl
      rw [e]
      have hsi : ∀ j ∈ s ++ [i], j < ks.length := by
        intro j hj
        rcases List.mem_append.1 hj with hj | hj
        · exact hs j hj
        · rw [List.mem_singleton.1 hj]; exact hil
      have hsi' : ∀ j, j ∈ s ∨ j = i → j < ks.length := fun j hj => hsi j (by simpa using hj)
      have hnd : (s ++ [i]).Nodup := by
        rw [List.nodup_append]
        refine ⟨hc.1.2, by simp, fun a1 ha1 b1 hb1 e1 => ?_⟩
        rw [List.mem_singleton] at hb1
        rw [e1, hb1] at ha1; exact hni ha1
      have hxl : xs.length < ks.length := by
        have := nodup_len hnd hsi
        rw [hc.1.1, List.length_map]
        simp at this; omega
      have hget : ks.getD i 0 = ks[i] := by rw [List.getD_eq_getElem?_getD, List.getElem?_eq_getElem hil]; rfl
      refine YC.of_round (n := 13) (ps := #[7]) (bd := bd) (T := [(2, .ptr H.length 0)]) (Go.Proofs.YtpedbpbmnchllaaGreatDoor.hget _ _ 1) rfl (by decide) ?_
      subst hbd has
      refine Wp.s ?_
      simp -implicitDefEqProofs [go_sem, tps]
      generalize hlp : lpc 13 #[7] _ _ _ LoopState.busy none = lp
      generalize hqq : RQ 13 #[7] _ _ _ _ _ = QQ
      rcases hc with ⟨hx0, ⟨rfl, hxe⟩ | ⟨j, rfl, hj⟩⟩
      · refine SWp.block (SWp.opx (pre := [_, _, _]) (post := [_]) rfl (by intro c e; cases e) ?_)
        simp -implicitDefEqProofs [go_sem]
        refine ⟨_, _, _, appbox (sz := 1) (tk := .ti) (ys := [[ci ks[i]]]) slTy33 slTy33 rfl rfl (by simp) (by simp), ?_⟩
        simp -implicitDefEqProofs [go_sem]
        rw [← hqq, ← hlp]
        refine ⟨Go.Proofs.YtpedbpbmnchllaaGreatDoor.hget _ _ 1, rfl, rfl, .bsa (H.length + (Wg.length + 3)) 1 1, [ks[i]], Wg ++ [some [ci ks[i]]], ?_, ⟨⟨by have h1 := hx0.1; rw [hxe] at h1; rw [List.map_append, ← h1, List.map_singleton, hget]; rfl, hnd⟩, .inr ⟨Wg.length, rfl, by simp⟩⟩, hsi'⟩
        rw [List.set_append_right _ _ (by omega), Nat.add_sub_cancel_left]
        simp
      · refine SWp.block (Wp.s ?_)
        simp -implicitDefEqProofs [go_sem, hbx_of hj, set_W3]
        rw [← hqq, ← hlp]
        refine ⟨by omega, Go.Proofs.YtpedbpbmnchllaaGreatDoor.hget _ _ 1, rfl, rfl, .bsa (H.length + (Wg.length + 3)) (xs ++ [ks[i]]).length 1, xs ++ [ks[i]], Wg.set j none ++ [some ((xs ++ [ks[i]]).map ci)], ?_, ⟨⟨by rw [List.map_append, ← hx0.1, List.map_singleton, hget], hnd⟩, .inr ⟨Wg.length, rfl, by simp⟩⟩, hsi'⟩
        rw [List.set_append_right _ _ (by omega), Nat.add_sub_cancel_left]
        simp
    · rintro _ _ _ ⟨s, ⟨rfl, cv, xs, Wg, rfl, hc, hs⟩, hall⟩
      refine .inl ⟨Go.Proofs.YtpedbpbmnchllaaGreatDoor.hget _ _ 1, ?_⟩
      refine ⟨cv, xs, some [.obji b ks.length s], Wg, ⟨⟨s, hc⟩, by rw [hc.1.1]; exact seen_perm hc.1.2 hs hall⟩, Sh.forget (by simp -implicitDefEqProofs [go_sem]) ?_ rfl⟩
      rw [List.set_append_right _ _ (by omega), Nat.add_sub_cancel_left]; rfl
  · rintro ⟨cv, xs, ob, Wg⟩ ⟨⟨s, hc⟩, hxl⟩
    dsimp only at hc hxl ⊢
    refine SWp0.seq (SWp.s0 (Wp.s ?_))
    simp -implicitDefEqProofs [go_sem]
    refine SWp.s0 (Wp.s ?_)
    simp -implicitDefEqProofs [go_sem]
    refine Fin.self ⟨xs, _, rfl, rfl, hxl, ?_⟩
    rcases hc.2 with ⟨rfl, rfl⟩ | ⟨j, rfl, hj⟩
    · exact .inl ⟨rfl, rfl⟩
    · exact .inr ⟨j + 3, rfl, hj⟩
theorem tkCollect_cc (H : Hp) (V : List Nat) (b2 b : Nat) (ks : List Int) (vs : List CV) (hb2 : H[b2]? = some (some [.mv b])) (hb : H[b]? = some (some [.objm ks vs])) (hkl : ks.length ≤ 1000000) :
    CC Tryz.prog 147 [.fn 149 [.ptr b2 0]] H V (ColA ks H V) := by
  refine CC.of_swp Tryz.func147 rfl (by kernel_rfl) (by rw [Tryz.ntmps147]; exact len_le _ _ rfl) fun hok hokH => ?_
  clear hok
  refine SWp.seq (Wp.s ?_)
  simp -implicitDefEqProofs [go_sem, args0]
  refine SWp.seq (Wp.s ?_)
  simp -implicitDefEqProofs [go_sem]
  refine CC.le (.cons (.nilti 1 (by decide)) (.cons (.refl _) .nil)) (CC.mono (tkAppSeq_cc _ _ b2 b ks vs hb2 hb hkl) ?_)
  rintro r _ _ ⟨xs, W, rfl, rfl, h1, h2⟩
  simp -implicitDefEqProofs [go_sem]
  refine Wp.s ?_
  simp -implicitDefEqProofs [go_sem]
  exact Fin.self ⟨xs, W, rfl, rfl, h1, h2⟩
def srt (l : List Int) : List Int := l.mergeSort fun x y => decide (x ≤ y)
theorem srt_len (l : List Int) : (srt l).length = l.length := by rw [srt, List.length_mergeSort]
theorem srt_perm {l m : List Int} (h : l.Perm m) : srt l = srt m := by
  have hs : ∀ z : List Int, (srt z).Pairwise fun x y => x ≤ y := fun z => by
    have := List.pairwise_mergeSort (le := fun x y : Int => decide (x ≤ y)) (fun a b c => by simp; omega) (fun a b => by simp; omega) z
    exact this.imp fun h => by simpa using h
  refine List.Perm.eq_of_pairwise (fun a b _ _ h1 h2 => Int.le_antisymm h1 h2) (hs l) (hs m) ?_
  exact ((List.mergeSort_perm l _).trans h).trans (List.mergeSort_perm m _).symm
structure SortA : Prop where
  box : ∀ (H : Hp) (V : List Nat) (b : Nat) (xs : List Int), H[b]? = some (some (xs.map ci)) → xs.length ≤ 1000000 →
    CC Tryz.prog 148 [.bsa b xs.length 1] H V (fun _ H' V' => H' = H.set b (some ((srt xs).map ci)) ∧ V' = V)
  none : ∀ (H : Hp) (V : List Nat), CC Tryz.prog 148 [.sl .ti 1 []] H V (fun _ H' V' => H' = H ∧ V' = V)
def SrtA (ks : List Int) (H : Hp) (V : List Nat) : CV → Hp → List Nat → Prop := fun r H' V' => r = .sl .sh 1 ((srt ks).map ic) ∧ H' = H ∧ V' = V
theorem tkSorted_cc (hs : SortA) (H : Hp) (V : List Nat) (b2 b : Nat) (ks : List Int) (vs : List CV) (hb2 : H[b2]? = some (some [.mv b])) (hb : H[b]? = some (some [.objm ks vs])) (hkl : ks.length ≤ 1000000) :
    CC Tryz.prog 135 [.fn 149 [.ptr b2 0]] H V (SrtA ks H V) := by
  refine CC.of_swp Tryz.func135 rfl (by kernel_rfl) (by rw [Tryz.ntmps135]; exact len_le _ _ rfl) fun hok hokH => ?_
  clear hok
  refine SWp.seq (Wp.s ?_)
  simp -implicitDefEqProofs [go_sem, args0]
  refine SWp.seq (Wp.s ?_)
  simp -implicitDefEqProofs [go_sem]
  refine CC.mono (tkCollect_cc _ _ b2 b ks vs hb2 hb hkl) ?_
  rintro r _ _ ⟨xs, W, rfl, rfl, h1, ⟨rfl, hxe⟩ | ⟨j, rfl, hj⟩⟩
  · simp -implicitDefEqProofs [go_sem]
    refine SWp.seq (Wp.s ?_)
    simp -implicitDefEqProofs [go_sem]
    refine CC.mono (hs.none _ _) ?_
    rintro _ _ _ ⟨rfl, rfl⟩
    simp -implicitDefEqProofs [go_sem]
    refine Wp.s ?_
    simp -implicitDefEqProofs [go_sem]
    exact Fin.pure (r' := .sl .sh 1 []) ⟨by subst hxe; rw [← srt_perm h1, show srt [] = [] from List.mergeSort_nil]; rfl, rfl, rfl⟩ (by simp) (by simp) (.sh _ _ _) (by simp -implicitDefEqProofs [go_sem]) hokH
  · simp -implicitDefEqProofs [go_sem]
    refine SWp.seq (Wp.s ?_)
    simp -implicitDefEqProofs [go_sem]
    have hxl : xs.length = ks.length := h1.length_eq
    have hxs := srt_len xs
    have hj' : (H ++ W)[H.length + j]? = some (some (xs.map ci)) := by rw [hget]; exact hj
    refine CC.mono (hs.box _ _ _ xs hj' (by omega)) ?_
    rintro _ _ _ ⟨rfl, rfl⟩
    simp -implicitDefEqProofs [go_sem]
    refine Wp.s ?_
    simp -implicitDefEqProofs [go_sem]
    have hjl := (List.getElem?_eq_some_iff.1 hj').1
    refine Fin.froz (b := H.length + j) (o := 0) (n := xs.length) (sz := 1) (cs := (srt xs).map ci) (xs := (srt xs).map ic) ⟨by rw [srt_perm h1], rfl, rfl⟩ (.bsa _ _ _) (by rw [hget]; exact List.getElem?_set_self (List.getElem?_eq_some_iff.1 hj).1) ?_ ?_ (by omega) (by rw [okE_ints]; trivial) hokH ?_ (by simp)
    · rw [List.drop_zero, ← hxs, chunks_ci]
    · rw [List.length_map]; omega
    · simp
end Go.Proofs.YtpedbpbmnchllaaGreatDoor
namespace Go.Proofs.YtpedbpbmnchllaaGreatDoor
open Go.Proofs Go.Shelf Go.Sort
theorem sortA : SortA where
  box H V b xs hb hx := by
    refine ⟨⟨Tryz.f148, Tryz.func148, rfl, by kernel_rfl⟩, fun m w us hi hu => ?_⟩
    rw [RelL] at hu
    obtain ⟨u, r, rfl, h1, h2⟩ := hu
    rw [RelL] at h2; subst h2
    rw [RelV] at h1
    obtain ⟨k, cap, c, e, rfl, g1, g2, hk, hc, g3⟩ := h1
    obtain ⟨c', e', q1, q2, q3, q4⟩ := hi.alive hb hk ⟨c, e, _, hc⟩
    rw [hc] at q1; cases q1
    have hH : Holds (Value.int .i64) w k 0 xs.toArray := by
      intro j hj
      have hj' : j < xs.length := by simpa using hj
      obtain ⟨v, a1, a2, _⟩ := relC_get q4 j (ci xs[j]) (by rw [List.getElem?_map, List.getElem?_eq_getElem hj']; rfl)
      rw [RelV] at a2; subst a2
      refine ⟨by rw [a1, getElem!_pos _ j (by simpa using hj')]; simp, ?_⟩
      simp [World.frozen?, hc]
    refine (AnyM.slices_Sort_int sortLay k 0 cap xs w hH (Array.getElem?_eq_some_iff.1 hc).1 (by omega)).mono ?_
    rintro _ _ ⟨rfl, n, os, rfl⟩
    obtain ⟨s1, s2⟩ := step_sorted (ys := xs.mergeSort fun x y => decide (x ≤ y)) hi hb hk hc (by simp) n os
    exact ⟨_, m, .any, _, _, rfl, ⟨rfl, rfl⟩, s1, by rw [RelV]; trivial, s2⟩
  none H V := by
    refine ⟨⟨Tryz.f148, Tryz.func148, rfl, by kernel_rfl⟩, fun m w us hi hu => ?_⟩
    rw [RelL] at hu
    obtain ⟨u, r, rfl, h1, h2⟩ := hu
    rw [RelL] at h2; subst h2
    rw [RelV] at h1
    obtain ⟨base, cap, rfl, g1, g2, g3, g4⟩ := h1
    refine (AnyM.slices_Sort_int_none sortLay base cap w).mono ?_
    rintro _ _ ⟨rfl, rfl⟩
    exact ⟨_, m, .any, _, _, rfl, ⟨rfl, rfl⟩, hi, by rw [RelV]; trivial, Ext.refl _ _ _⟩
end Go.Proofs.YtpedbpbmnchllaaGreatDoor
namespace Go.Proofs.YtpedbpbmnchllaaGreatDoor
open Go.Proofs
theorem keysM_cc (H : Hp) (V : List Nat) (m : Nat) (hm : m < H.length) : CC Tryz.prog 136 [.mv m] H V (fun r H' V' => r = .fn 149 [.ptr H.length 0] ∧ H' = H ++ [some [.mv m]] ∧ V = V') := by
  refine CC.of_swp Tryz.func136 rfl (by kernel_rfl) (by rw [Tryz.ntmps136]; exact len_le _ _ rfl) fun hok hokH => ?_
  refine SWp.seq (Wp.s ?_)
  simp -implicitDefEqProofs [go_sem, args0]
  refine Wp.s ?_
  simp -implicitDefEqProofs [go_sem]
  refine Fin.cut (H.length + 1) V.length ⟨rfl, rfl, rfl⟩ (by omega) (Nat.le_refl _) (List.take_of_length_le (by simp)) (List.take_of_length_le (Nat.le_refl _)) (.refl _) (by simp [go_sem]) ?_
  intro b' cs hb
  rw [List.getElem?_append] at hb
  split at hb
  · exact okL_mono (by omega) (Nat.le_refl _) (hokH b' cs hb)
  · exact okH_get (i := H.length + 1) (j := V.length) (L := [some [.mv m]]) (by simp [go_sem]; exact Nat.lt_succ_of_lt hm) _ _ hb
def IncI (ks : List Int) : Prop := ∀ i (h : i + 1 < ks.length), ks[i] < ks[i + 1]
theorem IncI.lt {ks : List Int} (h : IncI ks) : ∀ (j i : Nat) (hj : j < ks.length) (hi : i < j), ks[i] < ks[j]
  | 0, i, hj, hi => absurd hi (Nat.not_lt_zero _)
  | j + 1, i, hj, hi => by
    have h1 := h j hj
    rcases Nat.lt_or_ge i j with h2 | h2
    · have := IncI.lt h j i (by omega) h2
      omega
    · obtain rfl : i = j := by omega
      exact h1
theorem IncI.keyAt {ks : List Int} (h : IncI ks) (i : Nat) (hi : i < ks.length) : keyAt ks ks[i] = some i := by
  rw [Go.Proofs.YtpedbpbmnchllaaGreatDoor.keyAt, List.findIdx?_eq_some_iff_getElem]
  refine ⟨hi, by simp, fun j hj => ?_⟩
  have := h.lt i j hi hj
  simp; omega
theorem IncI.srt {ks : List Int} (h : IncI ks) : srt ks = ks := by
  rw [Go.Proofs.YtpedbpbmnchllaaGreatDoor.srt]
  refine List.mergeSort_of_pairwise ?_
  rw [List.pairwise_iff_getElem]
  intro i j hi hj hij
  have := h.lt j i hj hij
  simp; omega
theorem okL_objm {i j : Nat} {ks : List Int} {cs : List (List CV)} (h : okL i j [.objm ks (cs.map .agg)]) : okE i j cs := by
  rw [okL, okV, okL_iff] at h
  have h1 := h.1
  clear h
  induction cs with
  | nil => trivial
  | cons c cs ih =>
    rw [okE]
    refine ⟨?_, ih fun x hx => h1 x (by simp [hx])⟩
    have := h1 (.agg c) (by simp)
    rwa [okV] at this
set_option maxRecDepth 8000 in
theorem list_cc (H : Hp) (V : List Nat) (m : Nat) (ks : List Int) (cs : List (List CV)) (hm : H[m]? = some (some [.objm ks (cs.map .agg)])) (hk : IncI ks) (hlen : cs.length = ks.length) (h3 : ∀ c ∈ cs, c.length = 3 ∧ allOne c = true) (hl : ks.length ≤ 1000) : CC Tryz.prog 107 [.mv m] H V (Fr 3 cs H V) := by
  refine CC.of_swp Tryz.func107 rfl (by kernel_rfl) (by rw [Tryz.ntmps107]; exact len_le _ _ rfl) fun hok hokH => ?_
  clear hok
  have hml := (List.getElem?_eq_some_iff.1 hm).1
  refine SWp.seq (Wp.s ?_)
  simp -implicitDefEqProofs [go_sem, args0]
  refine SWp.seq (Wp.s ?_)
  simp -implicitDefEqProofs [go_sem]
  refine SWp.join (α := Nat) (fun v => ([(3, .sl (.own V.length v) 3 cs)], H, V ++ [v])) (fun _ => True) ?_ ?_
  · refine SWp.seq (Wp.s ?_)
    simp -implicitDefEqProofs [go_sem]
    refine CC.mono (keysM_cc _ _ m hml) ?_
    rintro _ _ _ ⟨rfl, rfl, rfl⟩
    simp -implicitDefEqProofs [go_sem]
    refine CC.mono (tkSorted_cc sortA _ _ H.length m ks (cs.map .agg) (by simp) (by rw [List.getElem?_append_left hml]; exact hm) (by omega)) ?_
    rintro _ _ _ ⟨rfl, rfl, hV⟩
    rw [hk.srt, hV]
    simp -implicitDefEqProofs [go_sem]
    refine SWp.block ?_
    refine SWp.loop (α := Nat × Nat) (fun x => ([(0, .mv m), (3, .sl (.own V.length x.2) 3 (cs.take x.1)), (8, .sl .sh 1 (ks.map ic)), (9, ci ks.length), (10, ci x.1)], H, V ++ [x.2])) (fun x => x.1 ≤ ks.length) (fun x => ks.length - x.1) (0, 0) (Nat.zero_le _) ?_ ?_
    · exact Gst.trans (Sh.trim0 (T' := [(0, .mv m), (3, .v (.slice none 0 0)), (8, .sl .sh 1 (ks.map ic)), (9, ci ks.length), (10, ci 0)]) (by simp [go_sem]) (by simp [go_sem, okE_ints]; rw [okV]; exact hml) hokH (Nat.le_refl _) (by simp) (by simp)) (Sh.tokT (by simp [go_sem]) rfl rfl)
    rintro ⟨i, v⟩ hi
    dsimp only at hi ⊢
    refine SWp.seq (Wp.s ?_)
    simp -implicitDefEqProofs [go_sem]
    refine SWp.seq (Wp.s ?_)
    simp -implicitDefEqProofs [go_sem]
    refine ⟨fun h => ?_, fun h => ?_⟩
    case refine_2 =>
      rw [List.take_of_length_le (by omega)]
      exact ⟨v, Sh.forget (by simp [go_sem]) rfl rfl⟩
    have hic : i < cs.length := by omega
    obtain ⟨l3, a3⟩ := h3 cs[i] (List.getElem_mem hic)
    have hlk : ∀ z, mlook z ks (cs.map .agg) ks[i] = .agg cs[i] := fun z => by
      rw [mlook, hk.keyAt i h]; simp [hic]
    refine SWp.seq (SWp.block (SWp.seq (Wp.s ?_)))
    simp -implicitDefEqProofs [go_sem, h]
    refine Wp.s ?_
    simp -implicitDefEqProofs [go_sem, hbm_some hm, hlk, l3, a3]
    refine ⟨by omega, ?_⟩
    refine Wp.s ?_
    simp -implicitDefEqProofs [go_sem]
    refine ⟨i + 1, by omega, by omega, v + 1, Sh.forget ?_ rfl (by simp)⟩
    simp [go_sem, wrap_succ (show i ≤ 1000000000 by omega)]
  rintro v -
  dsimp only
  refine SWp.seq (Wp.s ?_)
  simp -implicitDefEqProofs [go_sem]
  refine Wp.s ?_
  simp -implicitDefEqProofs [go_sem]
  exact Fin.fr (W := []) (okL_objm (hokH _ _ hm)) hokH (by simp)
end Go.Proofs.YtpedbpbmnchllaaGreatDoor
namespace Go.Proofs.YtpedbpbmnchllaaGreatDoor
open Go.Proofs
structure SitesOk (ss : List Nat) : Prop where
  few : ss.length ≤ 4
  ok : ∀ s ∈ ss, s ≤ 3
  inc : ∀ i (h : i + 1 < ss.length), ss[i] < ss[i + 1]
theorem SitesOk.lt {ss : List Nat} (h : SitesOk ss) : ∀ (j i : Nat) (hj : j < ss.length) (hi : i < j), ss[i] < ss[j]
  | 0, i, hj, hi => absurd hi (Nat.not_lt_zero _)
  | j + 1, i, hj, hi => by
    have h1 := h.inc j hj
    rcases Nat.lt_or_ge i j with h2 | h2
    · have := SitesOk.lt h j i (by omega) h2
      omega
    · obtain rfl : i = j := by omega
      exact h1
theorem SitesOk.zI {ss : List Nat} (h : SitesOk ss) : IncI (zI ss) := fun i hi => by
  rw [zI_get, zI_get]
  have := h.inc i (by rwa [zI_len] at hi)
  omega
theorem SitesOk.none {ss : List Nat} (h : SitesOk ss) (i : Nat) (hi : i < ss.length) : keyAt (Go.Proofs.YtpedbpbmnchllaaGreatDoor.zI (ss.take i)) ((ss[i] : Nat) : Int) = .none := by
  rw [keyAt, List.findIdx?_eq_none_iff]
  intro x hx
  obtain ⟨n, hn, rfl⟩ := List.mem_map.1 hx
  obtain ⟨j, hj, rfl⟩ := List.mem_take_iff_getElem.1 hn
  have := h.lt i j hi (by omega)
  simp; omega
theorem zI_snoc (z : List Nat) (n : Nat) : zI (z ++ [n]) = zI z ++ [(n : Int)] := by simp [zI]
def newP (z : List Nat) (c : Int) (s : Nat) : Pee := ⟨s, c, cleanB z⟩
def newT (z ss : List Nat) (c : Int) : Trk := ⟨z, ss.map (newP z c)⟩
theorem newT_ok {z ss : List Nat} {c : Int} (hz : SzOkN z) (hs : SitesOk ss) (c0 : 0 ≤ c) (c1 : c ≤ 1073741824) : TrkOk (newT z ss c) where
  z := hz
  few := by show (ss.map _).length ≤ 4; rw [List.length_map]; exact hs.few
  ok p hp := by
    obtain ⟨s, h, rfl⟩ := List.mem_map.1 hp
    exact ⟨hs.ok s h, c0, c1, cleanB_ok hz⟩
  inc i h := by
    have h' : i + 1 < ss.length := by simpa [newT] using h
    have := hs.inc i h'
    simpa [newT, newP] using this
def mpOf (z ss : List Nat) (c : Int) : CV := .objm (zI ss) ((ss.map fun s => prC (newP z c s)).map .agg)
theorem okL_objmI {i j : Nat} {ks : List Int} {cs : List (List CV)} (h : okE i j cs) : okL i j [.objm ks (cs.map .agg)] := by
  rw [okL, okV, okL_iff]
  refine ⟨?_, trivial⟩
  induction cs with
  | nil => simp
  | cons c cs ih =>
    rw [okE] at h
    intro x hx
    rcases List.mem_cons.1 hx with rfl | hx
    · rw [okV]; exact h.1
    · exact ih h.2 x hx
theorem okL_mpOf (i j : Nat) (z ss : List Nat) (c : Int) : okL i j [mpOf z ss c] := by
  refine okL_objmI ?_
  have := okE_prs i j (ss.map (newP z c))
  rwa [List.map_map] at this
theorem tkNew_cc (H : Hp) (V : List Nat) (z ss : List Nat) (c : Int) (hz : SzOkN z) (hs : SitesOk ss) (c0 : 0 ≤ c) (c1 : c ≤ 1073741824) : CC Tryz.prog 67 [.sl .sh 1 ((zI z).map ic), .sl .sh 1 ((zI ss).map ic), ci c] H V (Pu (.tup [.agg (trkC (newT z ss c)), er 0]) H V) := by
  refine CC.of_swp Tryz.func67 rfl (by kernel_rfl) (by rw [Tryz.ntmps67]; exact len_le _ _ rfl) fun hok hokH => ?_
  clear hok
  have hzl := zI_len z
  have hsl := zI_len ss
  have h4 := hs.few
  have h8 := hz.few
  refine SWp.seq (Wp.s ?_)
  simp -implicitDefEqProofs [go_sem, args0]
  refine SWp.seq (SWp.seq (Wp.s ?_))
  simp -implicitDefEqProofs [go_sem]
  refine CC.mono (New_cc _ _ .sh (zI z) (by omega)) ?_
  rintro _ _ _ ⟨rfl, rfl, rfl⟩
  rw [hz.sizes]
  simp -implicitDefEqProofs [go_sem]
  refine SWp.seq (Wp.s ?_)
  simp -implicitDefEqProofs [go_sem]
  refine Wp.s ?_
  simp -implicitDefEqProofs [go_sem]
  refine SWp.seq (SWp.seq (Wp.s ?_))
  simp -implicitDefEqProofs [go_sem, hsl, show ¬ (4 : Int) < ss.length by omega, show ¬ 4 < ss.length by omega]
  refine Wp.s ?_
  simp -implicitDefEqProofs [go_sem]
  refine SWp.join (α := Unit) (fun _ => ([(0, .sl .sh 1 ((zI z).map ic)), (1, .sl .sh 1 ((zI ss).map ic)), (2, ci c), (6, .ptr H.length 0)], H ++ [some [.v (.slice none 0 0), .v (.slice none 0 0)]], V)) (fun _ => True) ?_ ?_
  · refine SWp.seq (Wp.s ?_)
    simp -implicitDefEqProofs [go_sem, hsl]
    refine SWp.block ?_
    refine SWp.loop (α := Nat) (fun i => ([(0, .sl .sh 1 ((zI z).map ic)), (1, .sl .sh 1 ((zI ss).map ic)), (2, ci c), (6, .ptr H.length 0), (32, .sl .sh 1 ((zI ss).map ic)), (33, ci ss.length), (34, ci i)], H ++ [some [.v (.slice none 0 0), .v (.slice none 0 0)]], V)) (fun i => i ≤ ss.length) (fun i => ss.length - i) 0 (Nat.zero_le _) (Sh.forget (by simp [go_sem]) rfl rfl) ?_
    intro i hi
    dsimp only
    refine SWp.seq (Wp.s ?_)
    simp -implicitDefEqProofs [go_sem]
    refine SWp.seq (Wp.s ?_)
    simp -implicitDefEqProofs [go_sem]
    refine ⟨fun h => ?_, fun h => Sh.forget (by simp [go_sem]) rfl rfl⟩
    have hiz : i < (zI ss).length := by omega
    refine SWp.seq (SWp.block (SWp.seq (Wp.s ?_)))
    simp -implicitDefEqProofs [go_sem, hiz, zI_get]
    refine SWp.seq (Wp.s ?_)
    simp -implicitDefEqProofs [go_sem]
    refine CC.mono (tsite_cc _ _ ss[i] (by omega) (by have := hs.ok _ (List.getElem_mem h); omega)) ?_
    rintro _ _ _ ⟨rfl, rfl, rfl⟩
    simp -implicitDefEqProofs [go_sem]
    refine Wp.s ?_
    simp -implicitDefEqProofs [go_sem]
    refine Wp.s ?_
    simp -implicitDefEqProofs [go_sem]
    refine ⟨i + 1, by omega, by omega, Sh.forget ?_ rfl rfl⟩
    simp [go_sem, wrap_succ (show i ≤ 1000000000 by omega)]
  rintro _ -
  dsimp only
  refine SWp.seq (Wp.s ?_)
  simp -implicitDefEqProofs [go_sem]
  refine SWp.join (α := Unit) (fun _ => ([(0, .sl .sh 1 ((zI z).map ic)), (2, ci c), (6, .ptr H.length 0), (12, .mv (H.length + 1))], H ++ [some [.v (.slice none 0 0), .v (.slice none 0 0)], some [mpOf z ss c]], V)) (fun _ => True) ?_ ?_
  · refine SWp.seq (Wp.s ?_)
    simp -implicitDefEqProofs [go_sem, hsl]
    refine SWp.block ?_
    refine SWp.loop (α := Nat) (fun i => ([(0, .sl .sh 1 ((zI z).map ic)), (2, ci c), (6, .ptr H.length 0), (12, .mv (H.length + 1)), (44, .sl .sh 1 ((zI ss).map ic)), (45, ci ss.length), (46, ci i)], H ++ [some [.v (.slice none 0 0), .v (.slice none 0 0)], some [mpOf z (ss.take i) c]], V)) (fun i => i ≤ ss.length) (fun i => ss.length - i) 0 (Nat.zero_le _) (Sh.forget (by simp [go_sem]) rfl rfl) ?_
    intro i hi
    dsimp only
    refine SWp.seq (Wp.s ?_)
    simp -implicitDefEqProofs [go_sem]
    refine SWp.seq (Wp.s ?_)
    simp -implicitDefEqProofs [go_sem]
    refine ⟨fun h => ?_, fun h => ?_⟩
    case refine_2 =>
      rw [List.take_of_length_le (by omega)]
      exact Sh.forget (by simp [go_sem]) rfl rfl
    have hiz : i < (zI ss).length := by omega
    have hno := hs.none i h
    have hnx : mpOf z (ss.take (i + 1)) c = .objm (zI (ss.take i) ++ [((ss[i] : Nat) : Int)]) ((((ss.take i).map fun s => prC (newP z c s)).map .agg) ++ [.agg (prC (newP z c ss[i]))]) := by
      rw [List.take_succ_eq_append_getElem h, mpOf, zI_snoc, List.map_append, List.map_append]; rfl
    have hmp : mpOf z (ss.take i) c = .objm (zI (ss.take i)) (((ss.take i).map fun s => prC (newP z c s)).map .agg) := rfl
    rw [hmp]
    generalize (((ss.take i).map fun s => prC (newP z c s)).map CV.agg) = vs at hnx
    generalize zI (ss.take i) = ks at hno hnx
    have hlk : ∀ (zz : Value) (vs : List CV), mlook zz ks vs ((ss[i] : Nat) : Int) = zval zz := fun zz vs => by rw [mlook, hno]
    have hput : ∀ y vs, mput ks vs ((ss[i] : Nat) : Int) y = .objm (ks ++ [((ss[i] : Nat) : Int)]) (vs ++ [y]) := fun y vs => by rw [mput, hno]
    have hm1 : ∀ (L : Hp), (H ++ (some [.v (.slice none 0 0), .v (.slice none 0 0)] :: some [.objm ks vs] :: L))[H.length + 1]? = some (some [.objm ks vs]) := fun L => hget _ _ 1
    refine SWp.seq (SWp.block (SWp.seq (Wp.s ?_)))
    simp -implicitDefEqProofs [go_sem, hiz, zI_get]
    refine SWp.seq (SWp.seq (Wp.s ?_))
    simp -implicitDefEqProofs [go_sem, hbm_some (hm1 []), hlk, hno, zval]
    refine Wp.s ?_
    simp -implicitDefEqProofs [go_sem]
    refine SWp.seq (Wp.s ?_)
    simp -implicitDefEqProofs [go_sem]
    refine CC.mono (clean_cc _ _ z hz) ?_
    rintro _ _ _ ⟨rfl, rfl, rfl⟩
    simp -implicitDefEqProofs [go_sem]
    refine SWp.seq (SWp.seq (Wp.s ?_))
    simp -implicitDefEqProofs [go_sem]
    refine Wp.s ?_
    simp -implicitDefEqProofs [go_sem]
    refine Wp.s ?_
    simp -implicitDefEqProofs [go_sem, hbm_some (hm1 _), hput]
    refine Wp.s ?_
    simp -implicitDefEqProofs [go_sem]
    refine ⟨i + 1, by omega, by omega, ?_⟩
    have hok : okL (H.length + 2) V.length [mpOf z (ss.take (i + 1)) c] := okL_mpOf _ _ _ _ _
    rw [hnx] at hok ⊢
    refine Sh.trim (L := [some [.v (.slice none 0 0), .v (.slice none 0 0)], some [.objm (ks ++ [((ss[i] : Nat) : Int)]) (vs ++ [.agg (prC (newP z c ss[i]))])]]) ?_ ?_ hokH ?_ (Nat.le_refl _) ?_ ?_
    · simp [go_sem, wrap_succ (show i ≤ 1000000000 by omega)]
    · simp [go_sem, okE_ints]
      rw [okV]; exact Nat.lt_succ_self _
    · rw [okH_some, okH_some]
      exact ⟨by simp [okL, okV], hok, trivial⟩
    · simp [newP, prC]
    · simp
  rintro _ -
  dsimp only
  refine SWp.seq (SWp.seq (Wp.s ?_))
  simp -implicitDefEqProofs [go_sem]
  refine CC.mono (between_cc _ _ c 0 1073741824 c0 c1) ?_
  rintro _ _ _ ⟨rfl, rfl, rfl⟩
  simp -implicitDefEqProofs [go_sem]
  refine Wp.s ?_
  simp -implicitDefEqProofs [go_sem]
  refine SWp.seq (Wp.s ?_)
  simp -implicitDefEqProofs [go_sem]
  refine CC.mono (vcloneInt_cc _ _ .sh (zI z) (by omega)) ?_
  rintro _ _ _ ⟨rfl, rfl, rfl⟩
  simp -implicitDefEqProofs [go_sem]
  have hcs : (ss.map fun s => prC (newP z c s)).length = (zI ss).length := by rw [List.length_map, hsl]
  refine CC.mono (list_cc _ _ (H.length + 1) (zI ss) (ss.map fun s => prC (newP z c s)) (hget _ _ 1) hs.zI hcs (fun x hx => by obtain ⟨s, _, rfl⟩ := List.mem_map.1 hx; exact ⟨rfl, rfl⟩) (by omega)) ?_
  rintro _ _ _ ⟨v, rfl, rfl, rfl⟩
  simp -implicitDefEqProofs [go_sem]
  refine Wp.s ?_
  simp -implicitDefEqProofs [go_sem]
  refine Fin.pu (.tup (.cons (.agg (.cons (.refl _) (.cons ?_ .nil))) (.cons (.refl _) .nil))) (by simp [go_sem]) hokH (by simp) (by simp)
  rw [show (newT z ss c).peers.map prC = ss.map fun s => prC (newP z c s) by simp [newT]]
  exact .sh _ _ _
end Go.Proofs.YtpedbpbmnchllaaGreatDoor
namespace Go.Proofs.YtpedbpbmnchllaaGreatDoor
open Go.Proofs
theorem hsetB_ok {H : Hp} {V : List Nat} {b : Nat} {c : List CV} (hc : okL H.length V.length c) (hokH : ∀ (b : Nat) cs, H[b]? = some (some cs) → okL H.length V.length cs) (b' : Nat) (cs : List CV) (h : (H.set b (some c))[b']? = some (some cs)) : okL H.length V.length cs := by
  by_cases e : b = b'
  · subst e
    rw [List.getElem?_set] at h
    split at h
    · obtain rfl : c = cs := by
        split at h <;> simp_all
      exact hc
    · exact absurd rfl ‹_›
  · rw [List.getElem?_set_ne e] at h
    exact hokH _ _ h
theorem bmF_ld : ∀ (d : List Bm) (v : Nat) (h : v < d.length), ((bmF d).drop (v * 2)).take 2 = bmC d[v]
  | b :: d, 0, h => rfl
  | b :: d, v + 1, h => by
    have := bmF_ld d v (by simpa using h)
    rw [show bmF (b :: d) = bmC b ++ bmF d from rfl, show (v + 1) * 2 = 2 + v * 2 by omega, ← List.drop_drop, show (bmC b ++ bmF d).drop 2 = bmF d from rfl, this]
    rfl
theorem bmF_set : ∀ (d : List Bm) (v : Nat) (x : Bm) (h : v < d.length), (bmF d).take (v * 2) ++ (bmC x ++ (bmF d).drop (v * 2 + 2)) = bmF (d.set v x)
  | b :: d, 0, x, h => rfl
  | b :: d, v + 1, x, h => by
    have := bmF_set d v x (by simpa using h)
    rw [show bmF (b :: d) = bmC b ++ bmF d from rfl, show (v + 1) * 2 = v * 2 + 2 by omega, List.set_cons_succ, show bmF (b :: d.set v x) = bmC b ++ bmF (d.set v x) from rfl, ← this]
    rfl
def mkW (d : List Bm) (v s c : Nat) : List Bm := d.set v (setB (d.getD v ⟨1, 0⟩) s c)
theorem mkW_len (d : List Bm) (v s c : Nat) : (mkW d v s c).length = d.length := List.length_set ..
set_option maxRecDepth 8000 in
theorem mark_cc (H : Hp) (V : List Nat) (b : Nat) (d : List Bm) (w : Wr) (v s : Nat) (hb : H[b]? = some (some (bmF d))) (hwv : w.volume = v) (hws : w.start = s) (hv : v < d.length) (hd : BmOk d[v]) (hs : s + w.data.length ≤ d[v].n) : CC Tryz.prog 114 [.bsa b d.length 2, .sl .ti 3 [wrC w]] H V (fun r H' V' => r = .tup [.bsa b d.length 2, er 0] ∧ H' = H.set b (some (bmF (mkW d v s w.data.length))) ∧ V = V') := by
  refine CC.of_swp Tryz.func114 rfl (by kernel_rfl) (by rw [Tryz.ntmps114]; exact len_le _ _ rfl) fun hok hokH => ?_
  clear hok
  have hbl := (List.getElem?_eq_some_iff.1 hb).1
  have hwr : wrC w = [ci v, ci s, .sl .sh 8 (w.data.map secC)] := by rw [wrC, hwv, hws]
  have hdl := bmF_len d
  have hld := bmF_ld d v hv
  have hg : d.getD v ⟨1, 0⟩ = d[v] := by rw [List.getD_eq_getElem?_getD, List.getElem?_eq_getElem hv]; rfl
  have hst := bmF_set d v (setB d[v] s w.data.length) hv
  rw [hwr]
  refine SWp.seq (Wp.s ?_)
  simp -implicitDefEqProofs [go_sem, args0]
  obtain ⟨H1, hH1⟩ : ∃ H1, H1 = H.set b (some (bmF (mkW d v s w.data.length))) := ⟨_, rfl⟩
  have hH1l : H1.length = H.length := by rw [hH1, List.length_set]
  rw [← hH1]
  refine SWp.join (α := Unit) (fun _ => ([(0, .bsa b d.length 2)], H1, V)) (fun _ => True) ?_ ?_
  · refine SWp.seq (Wp.s ?_)
    simp -implicitDefEqProofs [go_sem]
    refine SWp.block ?_
    refine SWp.loop (α := Nat) (fun i => ([(0, .bsa b d.length 2), (10, .sl .sh 3 [[ci v, ci s, .sl .sh 8 (w.data.map secC)]]), (11, ci 1), (12, ci i)], if i = 0 then H else H1, V)) (fun i => i ≤ 1) (fun i => 1 - i) 0 (Nat.zero_le _) (Sh.forget (by simp [go_sem]) rfl rfl) ?_
    intro i hi
    dsimp only
    rcases (show i = 1 ∨ i = 0 by omega) with rfl | rfl
    · refine SWp.seq (Wp.s ?_)
      simp -implicitDefEqProofs [go_sem]
      refine SWp.seq (Wp.s ?_)
      simp -implicitDefEqProofs [go_sem]
      exact Sh.forget (by simp [go_sem]) rfl rfl
    · rw [if_pos rfl]
      refine SWp.seq (Wp.s ?_)
      simp -implicitDefEqProofs [go_sem]
      refine SWp.seq (Wp.s ?_)
      simp -implicitDefEqProofs [go_sem]
      refine SWp.seq (SWp.block (SWp.seq (Wp.s ?_)))
      simp -implicitDefEqProofs [go_sem]
      have hb1 : ∀ L : Hp, (H ++ L)[b]? = some (some (bmF d)) := fun L => by rw [List.getElem?_append_left hbl]; exact hb
      refine SWp.seq (SWp.drawnT [] [16] (.s 0 .pl <| .s 1 .pl <| .s 2 .pl <| .s 3 .pl <| .s 4 .pl <| .s 5 .pl <| .s 6 .pl <| .s 7 .pl <| .s 8 .pl <| .s 9 .pl <| .s 10 .pl <| .c 11 <| .s 12 .pl <| .s 13 .pl <| .s 14 .pl <| .s 15 .pl <| .s 16 .st <| .s 17 .pl <| .n) (by kernel_rfl) (by kernel_rfl) ?_)
      simp -implicitDefEqProofs [go_sem, hv, hbx_of (hb1 _), hld, hdl]
      refine ⟨by omega, .tup [.agg (bmC (setB d[v] s w.data.length)), er 0], fun H V => bmSet_cc H V d[v] s w.data.length hd hs, ?_⟩
      simp -implicitDefEqProofs [go_sem]
      refine SWp.seq (SWp.seq (Wp.s ?_))
      simp -implicitDefEqProofs [go_sem]
      refine Wp.s ?_
      simp -implicitDefEqProofs [go_sem]
      refine Wp.s ?_
      simp -implicitDefEqProofs [go_sem, hv, hbx_of (hb1 _), hdl]
      refine ⟨by omega, ?_⟩
      refine Wp.s ?_
      simp -implicitDefEqProofs [go_sem]
      refine ⟨1, by omega, by omega, ?_⟩
      rw [if_neg (by decide)]
      have hokb : okL H.length V.length (bmF (mkW d v s w.data.length)) := of_eq_true (okL_bmF _ _ _)
      refine Sh.cut H.length V.length (T' := [(0, .bsa b d.length 2), (10, .sl .sh 3 [[ci v, ci s, .sl .sh 8 (w.data.map secC)]]), (11, ci 1), (12, ci 1)]) ?_ (Nat.le_refl _) (Nat.le_refl _) ?_ ?_ ?_ (by simp)
      · simp [go_sem]
        rw [show IntKind.i64.wrap (1 : Int) = 1 from rfl]
        exact .refl _
      · refine TOk.all ?_
        simp [go_sem, okE_secs]
        rw [okV]; exact hbl
      · rw [hH1]; exact hsetB_ok hokb hokH
      · rw [List.take_set, List.take_left, hH1, mkW, hg, hst]
  rintro _ -
  dsimp only
  refine SWp.seq (Wp.s ?_)
  simp -implicitDefEqProofs [go_sem]
  refine Wp.s ?_
  simp -implicitDefEqProofs [go_sem]
  have hokb : okL H.length V.length (bmF (mkW d v s w.data.length)) := of_eq_true (okL_bmF _ _ _)
  refine Fin.cut H.length V.length ⟨rfl, hH1.symm ▸ rfl, rfl⟩ (Nat.le_refl _) (Nat.le_refl _) (List.take_of_length_le (by omega)) (by simp) (.refl _) ?_ ?_
  · simp [go_sem]
    rw [okV]; exact hbl
  · rw [hH1]; exact hsetB_ok hokb hokH
end Go.Proofs.YtpedbpbmnchllaaGreatDoor
namespace Go.Proofs.YtpedbpbmnchllaaGreatDoor
open Go.Proofs
@[go_sem, simp] theorem prC_take2 (p : Pee) : (prC p).take 2 = [ci p.site, ci p.common] := rfl
def valC (p : Pee) (b : Nat) : List CV := [ci p.site, ci p.common, .bsa b p.dirty.length 2]
structure OpM (prs : List Pee) (bs : List Nat) (lo m : Nat) (G : Hp) : Prop where
  map : G[m]? = some (some [.objm (prs.map fun p => (p.site : Int)) ((List.zipWith valC prs bs).map .agg)])
  len : bs.length = prs.length
  nd : bs.Nodup
  ge : ∀ b ∈ bs, lo ≤ b
  box : ∀ i (h : i < bs.length) (h2 : i < prs.length), G[bs[i]]? = some (some (bmF prs[i].dirty))
theorem zipWith_snoc {α β γ : Type} (f : α → β → γ) : ∀ (a : List α) (b : List β) (x : α) (y : β), a.length = b.length → List.zipWith f (a ++ [x]) (b ++ [y]) = List.zipWith f a b ++ [f x y]
  | [], [], x, y, _ => rfl
  | a :: l, b :: m, x, y, h => by simp [zipWith_snoc f l m x y (by simpa using h)]
  | [], _ :: _, _, _, h => by simp at h
  | _ :: _, [], _, _, h => by simp at h
theorem OpM.snoc {prs : List Pee} {bs : List Nat} {lo m : Nat} {G G' : Hp} {p : Pee} {b : Nat} (h : OpM prs bs lo m G) (hm : m < lo) (hb : G.length ≤ b) (hlo : lo ≤ G.length) (hmap : G'[m]? = some (some [.objm ((prs.map fun p => (p.site : Int)) ++ [(p.site : Int)]) ((List.zipWith valC prs bs).map .agg ++ [.agg (valC p b)])]))
    (hbox : G'[b]? = some (some (bmF p.dirty))) (hold : ∀ k, lo ≤ k → k < G.length → G'[k]? = G[k]?) : OpM (prs ++ [p]) (bs ++ [b]) lo m G' where
  map := by rw [hmap, zipWith_snoc _ _ _ _ _ h.len.symm, List.map_append, List.map_append]; rfl
  len := by simp [h.len]
  nd := by
    rw [List.nodup_append]
    refine ⟨h.nd, by simp, fun x hx y hy e => ?_⟩
    obtain rfl : y = b := by simpa using hy
    subst e
    obtain ⟨i, hi, rfl⟩ := List.getElem_of_mem hx
    have := (List.getElem?_eq_some_iff.1 (h.box i hi (by rw [← h.len]; exact hi))).1
    omega
  ge x hx := by
    rcases List.mem_append.1 hx with hx | hx
    · exact h.ge x hx
    · obtain rfl : x = b := by simpa using hx
      omega
  box i h1 h2 := by
    rw [List.length_append, List.length_singleton] at h1 h2
    by_cases hi : i < bs.length
    · have hi2 : i < prs.length := by rw [← h.len]; exact hi
      have hbi := h.box i hi hi2
      rw [List.getElem_append_left hi, List.getElem_append_left hi2, hold _ (h.ge _ (List.getElem_mem hi)) (List.getElem?_eq_some_iff.1 hbi).1]
      exact hbi
    · obtain rfl : i = bs.length := by omega
      have e1 : (bs ++ [b])[bs.length]'(by simp) = b := by simp
      have e2 : (prs ++ [p])[bs.length]'(by simp [h.len]) = p := by simp [h.len]
      rw [e1, e2]; exact hbox
def OpR (prs : List Pee) (H : Hp) (V : List Nat) : CV → Hp → List Nat → Prop := fun r H' V' => ∃ bs, r = .mv (H.length + 1) ∧ H.length + 2 ≤ H'.length ∧ H'.take H.length = H ∧ V' = V ∧ OpM prs bs (H.length + 2) (H.length + 1) H'
set_option maxRecDepth 8000 in
theorem tkOpen_cc (H : Hp) (V : List Nat) (t : Trk) (ht : TrkOk t) : CC Tryz.prog 91 [.agg (trkC t)] H V (OpR t.peers H V) := by
  refine CC.of_swp Tryz.func91 rfl (by kernel_rfl) (by rw [Tryz.ntmps91]; exact len_le _ _ rfl) fun hok hokH => ?_
  clear hok
  have h4 := ht.few
  have h8 := ht.z.few
  have h1z := ht.z.lo
  have hinc : ∀ j i (hj : j < t.peers.length) (hi : i < j), t.peers[i].site < t.peers[j].site := by
    intro j
    induction j with
    | zero => intro i _ hi; omega
    | succ j ih =>
      intro i hj hi
      have h1 := ht.inc j hj
      rcases Nat.lt_or_ge i j with h2 | h2
      · have := ih i (by omega) h2; omega
      · obtain rfl : i = j := by omega
        exact h1
  refine SWp.seq (Wp.s ?_)
  simp -implicitDefEqProofs [go_sem, args0]
  refine SWp.seq (Wp.s ?_)
  simp -implicitDefEqProofs [go_sem]
  refine SWp.join (α := Hp × List Nat) (fun x => ([(3, .mv (H.length + 1))], x.1, V)) (fun x => H.length + 2 ≤ x.1.length ∧ x.1.take H.length = H ∧ OpM t.peers x.2 (H.length + 2) (H.length + 1) x.1) ?_ ?_
  · refine SWp.seq (Wp.s ?_)
    simp -implicitDefEqProofs [go_sem]
    refine SWp.block ?_
    refine SWp.loop (α := Nat × Hp × List Nat) (fun x => ([(3, .mv (H.length + 1)), (8, .sl .sh 3 (t.peers.map prC)), (9, ci t.peers.length), (10, ci x.1)], x.2.1, V)) (fun x => x.1 ≤ t.peers.length ∧ H.length + 2 ≤ x.2.1.length ∧ x.2.1.take H.length = H ∧ OpM (t.peers.take x.1) x.2.2 (H.length + 2) (H.length + 1) x.2.1) (fun x => t.peers.length - x.1) (0, H ++ [some (trkC t), some [.objm [] []]], []) ⟨Nat.zero_le _, by simp, by simp, ⟨hget _ _ 1, rfl, List.nodup_nil, by simp, fun i h => by simp at h⟩⟩ (Sh.forget (by simp [go_sem]) rfl rfl) ?_
    rintro ⟨i, G, bs⟩ ⟨hi, hG, hGH, hop⟩
    dsimp only at hi hG hGH hop ⊢
    refine SWp.seq (Wp.s ?_)
    simp -implicitDefEqProofs [go_sem]
    refine SWp.seq (Wp.s ?_)
    simp -implicitDefEqProofs [go_sem]
    refine ⟨fun h => ?_, fun h => ?_⟩
    case refine_2 =>
      rw [List.take_of_length_le (by omega)] at hop
      exact ⟨G, ⟨hG, hGH, bs, hop⟩, Sh.forget (by simp [go_sem]) rfl rfl⟩
    obtain ⟨p1, p2, p3, p4⟩ := ht.ok t.peers[i] (List.getElem_mem h)
    have htk := List.take_succ_eq_append_getElem h
    have hno : keyAt ((t.peers.take i).map fun p => (p.site : Int)) (t.peers[i].site : Int) = none := by
      rw [keyAt, List.findIdx?_eq_none_iff]
      intro x hx
      obtain ⟨n, hn, rfl⟩ := List.mem_map.1 hx
      obtain ⟨j, hj, rfl⟩ := List.mem_take_iff_getElem.1 hn
      have := hinc i j h (by omega)
      simp; omega
    refine SWp.seq (SWp.block (SWp.seq (Wp.s ?_)))
    simp -implicitDefEqProofs [go_sem, h]
    refine SWp.seq (Wp.s ?_)
    simp -implicitDefEqProofs [go_sem]
    refine CC.mono (tkOwnAll_cc _ _ t.peers[i].dirty (by rw [p4.len]; omega)) ?_
    rintro _ _ V1 ⟨W, rfl, hV, hW⟩
    rw [hV]
    clear hV V1
    rcases hW with ⟨_, hne⟩ | ⟨j, hne, rfl, hj⟩
    · have := p4.len
      rw [hne] at this; simp at this; omega
    simp -implicitDefEqProofs [go_sem]
    have hml : H.length + 1 < G.length := by omega
    have hm1 : ∀ (L : Hp), (G ++ L)[H.length + 1]? = some (some [.objm ((t.peers.take i).map fun p => (p.site : Int)) ((List.zipWith valC (t.peers.take i) bs).map .agg)]) := fun L => by rw [List.getElem?_append_left hml]; exact hop.map
    have hput : ∀ y vs, mput ((t.peers.take i).map fun p => (p.site : Int)) vs (t.peers[i].site : Int) y = .objm (((t.peers.take i).map fun p => (p.site : Int)) ++ [(t.peers[i].site : Int)]) (vs ++ [y]) := fun y vs => by rw [mput, hno]
    obtain ⟨ks, hks⟩ : ∃ ks, ks = (t.peers.take i).map fun p => (p.site : Int) := ⟨_, rfl⟩
    obtain ⟨vs, hvs⟩ : ∃ vs, vs = (List.zipWith valC (t.peers.take i) bs).map CV.agg := ⟨_, rfl⟩
    rw [← hks, ← hvs] at hm1
    rw [← hks] at hput
    refine Wp.s ?_
    simp -implicitDefEqProofs [go_sem, hbm_some (hm1 _), hput]
    refine Wp.s ?_
    simp -implicitDefEqProofs [go_sem]
    have hjl := (List.getElem?_eq_some_iff.1 hj).1
    refine ⟨i + 1, _, ⟨by omega, ?_, ?_, bs ++ [G.length + 1 + j], ?_⟩, by omega, Sh.forget ?_ rfl rfl⟩
    · simp; omega
    · rw [List.take_set_of_le (by omega), List.take_append_of_le_length (by omega)]; exact hGH
    · rw [htk]
      refine hop.snoc (by omega) (by omega) hG ?_ ?_ fun k hk1 hk2 => ?_
      · rw [List.getElem?_set_self (by simp; omega), hks, hvs]; rfl
      · rw [List.getElem?_set_ne (by omega), List.getElem?_append_right (by omega), show G.length + 1 + j - G.length = j + 1 by omega]
        simpa using hj
      · rw [List.getElem?_set_ne (by omega), List.getElem?_append_left hk2]
    · simp [go_sem, wrap_succ (show i ≤ 1000000000 by omega)]
  rintro ⟨G, bs⟩ ⟨hG, hGH, hop⟩
  dsimp only at hG hGH hop ⊢
  refine SWp.seq (Wp.s ?_)
  simp -implicitDefEqProofs [go_sem]
  refine Wp.s ?_
  simp -implicitDefEqProofs [go_sem]
  exact Fin.self ⟨bs, rfl, hG, hGH, rfl, hop⟩
end Go.Proofs.YtpedbpbmnchllaaGreatDoor
namespace Go.Proofs.YtpedbpbmnchllaaGreatDoor
open Go.Proofs
def valB (p : Pee) (b : Nat) : List CV := [ci p.site, ci p.common, .bsl b 0 p.dirty.length 2]
theorem valC_leB : ∀ (l : List Pee) (bs : List Nat), LeE (List.zipWith valC l bs) (List.zipWith valB l bs)
  | [], _ => .nil
  | _ :: _, [] => .nil
  | p :: l, b :: bs => .cons (.cons (.refl _) (.cons (.refl _) (.cons (.bsa _ _ _) .nil))) (valC_leB l bs)
theorem gst_prs {n nb nv lo : Nat} {V : List Nat} {zc ec : CV} : ∀ (l d : List Pee) (bs : List Nat) (H : Hp), l.length = bs.length → bs.Nodup → (∀ b ∈ bs, lo ≤ b) → (∀ i (h : i < bs.length) (h2 : i < l.length), H[bs[i]]? = some (some (bmF l[i].dirty))) →
    ∃ H' : Hp, H'.take lo = H.take lo ∧ Gst n nb nv [(0, .tup [.agg [zc, .sl .sh 3 (d.map prC ++ List.zipWith valB l bs)], ec])] H V [(0, .tup [.agg [zc, .sl .sh 3 ((d ++ l).map prC)], ec])] H' V
  | [], d, bs, H, hl, hn, hg, h => ⟨H, rfl, Gst.forget fun p hp => by
      obtain rfl : p = _ := by simpa using hp
      simp only [tget, if_pos, List.zipWith_nil_left, List.append_nil]
      exact .refl _⟩
  | p :: l, d, [], H, hl, hn, hg, h => by simp at hl
  | p :: l, d, b :: bs, H, hl, hn, hg, h => by
    have h0 : H[b]? = some (some (bmF p.dirty)) := h 0 (by simp) (by simp)
    rw [List.nodup_cons] at hn
    obtain ⟨H', h1, h2⟩ := gst_prs (n := n) (nb := nb) (nv := nv) (lo := lo) (V := V) (zc := zc) (ec := ec) l (d ++ [p]) bs (H.set b none) (by simpa using hl) hn.2 (fun x hx => hg x (by simp [hx])) (fun i hi hi2 => by
      rw [List.getElem?_set_ne (fun e : b = bs[i] => hn.1 (by rw [e]; exact List.getElem_mem hi))]
      have := h (i + 1) (by simpa using hi) (by simpa using hi2)
      simpa using this)
    refine ⟨H', by rw [h1, List.take_set_of_le (hg b (by simp))], Gst.trans (T' := [(0, .tup [.agg [zc, .sl .sh 3 (d.map prC ++ (prC p :: List.zipWith valB l bs))], ec])]) (Gst.freezeY h0 fun q hq => ?_) ?_⟩
    · obtain rfl : q = _ := by simpa using hq
      simp only [tget, if_pos, List.zipWith_cons_cons]
      have := Fy.bsl (b := b) (cs := bmF p.dirty) 0 p.dirty.length 2 (by rw [bmF_len]; omega)
      rw [List.drop_zero, chunks_bmF] at this
      exact .tup (.cons (.agg (.cons (.refl _) (.cons (.sl _ _ (FyE.appI (FyE.rflI _ _ _) (.cons (.cons (.refl _) (.cons (.refl _) (.cons this .nil))) (FyE.rflI _ _ _)))) .nil))) (.cons (.refl _) .nil))
    · have e1 : d.map prC ++ (prC p :: List.zipWith valB l bs) = (d ++ [p]).map prC ++ List.zipWith valB l bs := by simp
      rw [e1]
      rw [List.append_assoc] at h2
      exact h2
theorem fin_prs {H G : Hp} {V V' : List Nat} {prs : List Pee} {bs : List Nat} {lo m : Nat} {z : List Nat} (h : OpM prs bs lo m G) (hlo : H.length ≤ lo) (hG : G.take H.length = H) (hokH : ∀ (b : Nat) cs, H[b]? = some (some cs) → okL H.length V.length cs) (hV : V'.take V.length = V) :
    Fin H.length V.length (Pu (.tup [.agg (trkC ⟨z, prs⟩), er 0]) H V) (.tup [.agg [.sl .sh 1 ((zI z).map ic), .sl .sh 3 (List.zipWith valC prs bs)], er 0]) G V' := by
  obtain ⟨H', h1, h2⟩ := gst_prs (n := 1) (nb := H.length) (nv := V.length) (lo := lo) (V := V') (zc := .sl .sh 1 ((zI z).map ic)) (ec := er 0) prs [] bs G h.len.symm h.nd h.ge h.box
  have hH' : H'.take H.length = H := by
    have := congrArg (List.take H.length) h1
    rw [List.take_take, List.take_take, Nat.min_eq_left hlo] at this
    rw [this, hG]
  refine ⟨_, H, V, Gst.trans (Gst.forget (T' := [(0, .tup [.agg [.sl .sh 1 ((zI z).map ic), .sl .sh 3 (([] : List Pee).map prC ++ List.zipWith valB prs bs)], er 0])]) fun p hp => ?_) (Gst.trans h2 ?_), ⟨rfl, rfl, rfl⟩⟩
  · obtain rfl : p = _ := by simpa using hp
    exact .tup (.cons (.agg (.cons (.refl _) (.cons (.sle _ _ (valC_leB prs bs)) .nil))) (.cons (.refl _) .nil))
  · have := Gst.cut (n := 1) (nb := H.length) (nv := V.length) (T := [(0, .tup [.agg (trkC ⟨z, prs⟩), er 0])]) (H := H') (V := V') H.length V.length (Nat.le_refl _) (Nat.le_refl _) (fun p hp => by simp at hp; subst hp; simp [go_sem]) (by rw [hH']; exact hokH)
    rwa [hH', hV] at this
def IncP (prs : List Pee) : Prop := IncI (prs.map fun p => (p.site : Int))
theorem TrkOk.incP {t : Trk} (ht : TrkOk t) : IncP t.peers := fun i h => by
  have h' : i + 1 < t.peers.length := by simpa using h
  have := ht.inc i h'
  simp; omega
theorem closed_cc (H : Hp) (V : List Nat) (t : Trk) (ht : TrkOk t) (prs : List Pee) (bs : List Nat) (lo m : Nat) (hop : OpM prs bs lo m H) (hi : IncP prs) (hp : prs.length ≤ 1000) : CC Tryz.prog 115 [.agg (trkC t), .mv m] H V (Pu (.agg [.sl .sh 1 ((zI t.z).map ic), .sl .sh 3 (List.zipWith valC prs bs)]) H V) := by
  refine CC.of_swp Tryz.func115 rfl (by kernel_rfl) (by rw [Tryz.ntmps115]; exact len_le _ _ rfl) fun hok hokH => ?_
  clear hok
  have h8 := ht.z.few
  have hzl := zI_len t.z
  have hml := (List.getElem?_eq_some_iff.1 hop.map).1
  refine SWp.seq (Wp.s ?_)
  simp -implicitDefEqProofs [go_sem, args0]
  refine SWp.seq (Wp.s ?_)
  simp -implicitDefEqProofs [go_sem]
  refine CC.mono (vcloneInt_cc _ _ .sh (zI t.z) (by omega)) ?_
  rintro _ _ _ ⟨rfl, rfl, rfl⟩
  simp -implicitDefEqProofs [go_sem]
  refine CC.mono (list_cc _ _ m (prs.map fun (p : Pee) => (p.site : Int)) (List.zipWith valC prs bs) (by rw [List.getElem?_append_left hml]; exact hop.map) hi (by simp [hop.len]) (fun x hx => ?_) (by simpa using hp)) ?_
  · obtain ⟨i, hi, rfl⟩ := List.getElem_of_mem hx
    simp [valC, allOne, CV.one]
    exact ⟨rfl, rfl⟩
  rintro _ _ _ ⟨v, rfl, rfl, rfl⟩
  simp -implicitDefEqProofs [go_sem]
  refine Wp.s ?_
  simp -implicitDefEqProofs [go_sem]
  refine Fin.pu (.agg (.cons (.refl _) (.cons (.sh _ _ _) .nil))) ?_ hokH (by simp) (by simp)
  have hok := okL_objm (hokH _ _ hop.map)
  simp [go_sem, okE_ints]
  exact hok
end Go.Proofs.YtpedbpbmnchllaaGreatDoor
namespace Go.Proofs.YtpedbpbmnchllaaGreatDoor
open Go.Proofs
def pMk (v s c : Nat) (p : Pee) : Pee := ⟨p.site, p.common, mkW p.dirty v s c⟩
def tMk (t : Trk) (v s c : Nat) : Trk := ⟨t.z, t.peers.map (pMk v s c)⟩
theorem mkW_ok {z : List Nat} {d : List Bm} {v s c : Nat} (hd : DirtyOk z d) (hv : v < z.length) (hs : s + c ≤ z[v]) : DirtyOk z (mkW d v s c) := ⟨by rw [mkW_len, hd.len], fun i h h2 => by
  have h0 : i < d.length := by rwa [mkW_len] at h
  have hvd : v < d.length := by rw [hd.len]; exact hv
  by_cases e : v = i
  · subst e
    obtain ⟨a, b⟩ := hd.ok v h0 h2
    have hg : d.getD v ⟨1, 0⟩ = d[v] := by rw [List.getD_eq_getElem?_getD, List.getElem?_eq_getElem h0]; rfl
    simp only [mkW, List.getElem_set_self, hg]
    exact ⟨setB_ok a (by rw [b]; exact hs), b⟩
  · simp only [mkW, List.getElem_set_ne e]
    exact hd.ok i h0 h2⟩
theorem tMk_ok {t : Trk} {v s c : Nat} (ht : TrkOk t) (hv : v < t.z.length) (hs : s + c ≤ t.z[v]) : TrkOk (tMk t v s c) where
  z := ht.z
  few := by simpa [tMk] using ht.few
  ok p hp := by
    obtain ⟨q, hq, rfl⟩ := List.mem_map.1 hp
    obtain ⟨a, b, c, d⟩ := ht.ok q hq
    exact ⟨a, b, c, mkW_ok d hv hs⟩
  inc i h := by
    have h' : i + 1 < t.peers.length := by simpa [tMk] using h
    have := ht.inc i h'
    simpa [tMk, pMk] using this
theorem fitsI_z {z : List Nat} {w : Wr} {v s : Nat} (hz : SzOkN z) (hwv : w.volume = v) (hws : w.start = s) (hv : v < z.length) (h0 : 0 < w.data.length) (hs : s + w.data.length ≤ z[v]) : fitsI (imOf (zI z)) w = 0 := by
  have hg : (zI z).getD v 0 = (z[v] : Int) := by
    rw [List.getD_eq_getElem?_getD, List.getElem?_eq_getElem (by rw [zI_len]; exact hv)]; simp [zI]
  rw [fitsI, imgSz_of hz.sizes, hz.sizes, if_neg (by simp), fitsS, zI_len, hwv, hws, Int.toNat_natCast, hg, if_neg (by omega), if_neg (by omega), if_neg (by omega)]
def Seen (v s c : Nat) (prs cur : List Pee) (seen : List Nat) : Prop := cur.length = prs.length ∧ ∀ i (h : i < cur.length) (h2 : i < prs.length), (i ∈ seen → cur[i] = pMk v s c prs[i]) ∧ (i ∉ seen → cur[i] = prs[i])
theorem Seen.all {v s c : Nat} {prs cur : List Pee} {seen : List Nat} (h : Seen v s c prs cur seen) (ha : ∀ i, i < prs.length → i ∈ seen) : cur = prs.map (pMk v s c) := by
  refine List.ext_getElem (by simp [h.1]) fun i h1 h2 => ?_
  have h3 : i < prs.length := by rw [← h.1]; exact h1
  rw [(h.2 i h1 h3).1 (ha i h3)]; simp
theorem Seen.more {v s c : Nat} {prs cur : List Pee} {seen : List Nat} (h : Seen v s c prs cur seen) (i : Nat) (hi : i < cur.length) (hn : i ∉ seen) : Seen v s c prs (cur.set i (pMk v s c cur[i])) (seen ++ [i]) := by
  refine ⟨by rw [List.length_set]; exact h.1, fun j h1 h2 => ?_⟩
  have h1' : j < cur.length := by rwa [List.length_set] at h1
  obtain ⟨a, b⟩ := h.2 j h1' h2
  by_cases e : i = j
  · subst e
    refine ⟨fun _ => by rw [List.getElem_set_self, b hn], fun hx => absurd (by simp) hx⟩
  · refine ⟨fun hx => ?_, fun hx => ?_⟩
    · rw [List.getElem_set_ne e]
      refine a ?_
      rcases List.mem_append.1 hx with hx | hx
      · exact hx
      · exact absurd (by simpa using hx) (fun q : j = i => e q.symm)
    · rw [List.getElem_set_ne e]
      exact b fun q => hx (by simp [q])
theorem Seen.sites {v s c : Nat} {prs cur : List Pee} {seen : List Nat} (h : Seen v s c prs cur seen) : (cur.map fun (p : Pee) => (p.site : Int)) = prs.map fun (p : Pee) => (p.site : Int) := by
  refine List.ext_getElem (by simp [h.1]) fun i h1 h2 => ?_
  have h1' : i < cur.length := by simpa using h1
  have h2' : i < prs.length := by simpa using h2
  obtain ⟨a, b⟩ := h.2 i h1' h2'
  by_cases hs : i ∈ seen
  · simp [a hs, pMk]
  · simp [b hs]
theorem OpM.mark {cur : List Pee} {bs : List Nat} {lo m v s c : Nat} {G G' : Hp} (h : OpM cur bs lo m G) (i : Nat) (hi : i < cur.length) (hib : i < bs.length) (hm : G'[m]? = G[m]?) (hb : G'[bs[i]]? = some (some (bmF (mkW cur[i].dirty v s c)))) (ho : ∀ k, k ∈ bs → k ≠ bs[i] → G'[k]? = G[k]?) : OpM (cur.set i (pMk v s c cur[i])) bs lo m G' where
  map := by
    rw [hm, h.map]
    have e1 : ((cur.set i (pMk v s c cur[i])).map fun (p : Pee) => (p.site : Int)) = cur.map fun (p : Pee) => (p.site : Int) := by
      rw [List.map_set]
      refine List.ext_getElem (by simp) fun j h1 h2 => ?_
      by_cases e : i = j
      · subst e; simp [pMk]
      · simp [List.getElem_set_ne e]
    have e2 : List.zipWith valC (cur.set i (pMk v s c cur[i])) bs = List.zipWith valC cur bs := by
      refine List.ext_getElem (by simp) fun j h1 h2 => ?_
      by_cases e : i = j
      · subst e; simp [valC, pMk, mkW_len]
      · simp [List.getElem_set_ne e]
    rw [e1, e2]
  len := by rw [List.length_set]; exact h.len
  nd := h.nd
  ge := h.ge
  box j h1 h2 := by
    have h2' : j < cur.length := by rwa [List.length_set] at h2
    by_cases e : i = j
    · subst e
      rw [hb]; simp [pMk]
    · have hne : bs[j] ≠ bs[i] := fun q => e ((List.getElem_inj h.nd).1 q).symm
      rw [ho _ (List.getElem_mem h1) hne, h.box j h1 h2', List.getElem_set_ne e]
end Go.Proofs.YtpedbpbmnchllaaGreatDoor
namespace Go.Proofs.YtpedbpbmnchllaaGreatDoor
open Go.Proofs
theorem OpM.keep {prs : List Pee} {bs : List Nat} {lo m : Nat} {G G' : Hp} (h : OpM prs bs lo m G) (hm : G'[m]? = G[m]?) (ho : ∀ k : Nat, k ∈ bs → G'[k]? = G[k]?) : OpM prs bs lo m G' :=
  ⟨hm.trans h.map, h.len, h.nd, h.ge, fun i a b => (ho _ (List.getElem_mem a)).trans (h.box i a b)⟩
theorem OpM.lt {prs : List Pee} {bs : List Nat} {lo m : Nat} {G : Hp} (h : OpM prs bs lo m G) (k : Nat) (hk : k ∈ bs) : k < G.length := by
  obtain ⟨i, hi, rfl⟩ := List.getElem_of_mem hk
  exact (List.getElem?_eq_some_iff.1 (h.box i hi (by rw [← h.len]; exact hi))).1
theorem OpM.mlt {prs : List Pee} {bs : List Nat} {lo m : Nat} {G : Hp} (h : OpM prs bs lo m G) : m < G.length := (List.getElem?_eq_some_iff.1 h.map).1
@[go_sem, simp] theorem valC_len (p : Pee) (b : Nat) : (valC p b).length = 3 := rfl
@[go_sem, simp] theorem valC_all (p : Pee) (b : Nat) : allOne (valC p b) = true := rfl
@[go_sem, simp] theorem valC_take (p : Pee) (b : Nat) : (valC p b).take 3 = valC p b := rfl
@[go_sem, simp] theorem valC_take2 (p : Pee) (b : Nat) : (valC p b).take 2 = [ci p.site, ci p.common] := rfl
@[go_sem, simp] theorem valC_drop (p : Pee) (b : Nat) : (valC p b).drop 3 = [] := rfl
@[go_sem, simp] theorem valC_2 (p : Pee) (b : Nat) (h : 2 < (valC p b).length) : (valC p b)[2] = .bsa b p.dirty.length 2 := rfl
set_option maxRecDepth 8000 in
set_option maxHeartbeats 1600000 in
theorem tkWrite_cc (H : Hp) (V : List Nat) (t : Trk) (w : Wr) (v s : Nat) (ht : TrkOk t) (hwv : w.volume = v) (hws : w.start = s) (hv : v < t.z.length) (h0 : 0 < w.data.length) (hs : s + w.data.length ≤ t.z[v]) : CC Tryz.prog 76 [.agg (trkC t), .agg (wrC w)] H V (Pu (.tup [.agg (trkC (tMk t v s w.data.length)), er 0]) H V) := by
  refine CC.of_swp Tryz.func76 rfl (by kernel_rfl) (by rw [Tryz.ntmps76]; exact len_le _ _ rfl) fun hok hokH => ?_
  clear hok
  have h8 := ht.z.few
  have h4 := ht.few
  have hzl := zI_len t.z
  have hz := ht.z.sizes
  have hfit := fitsI_z ht.z hwv hws hv h0 hs
  have hzv := (ht.z.ok t.z[v] (List.getElem_mem hv)).2
  refine SWp.seq (Wp.s ?_)
  simp -implicitDefEqProofs [go_sem, args0]
  refine SWp.seq (Wp.s ?_)
  simp -implicitDefEqProofs [go_sem]
  refine CC.mono (tkCheck_cc _ _ t ht) ?_
  rintro _ _ _ ⟨rfl, rfl, rfl⟩
  simp -implicitDefEqProofs [go_sem]
  refine SWp.seq (Wp.s ?_)
  simp -implicitDefEqProofs [go_sem]
  refine CC.mono (New_cc _ _ .sh (zI t.z) (by omega)) ?_
  rintro _ _ _ ⟨rfl, rfl, rfl⟩
  rw [hz]
  simp -implicitDefEqProofs [go_sem]
  refine SWp.seq (SWp.seq (Wp.s ?_))
  simp -implicitDefEqProofs [go_sem]
  refine Wp.s ?_
  simp -implicitDefEqProofs [go_sem]
  refine SWp.seq (SWp.seq (Wp.s ?_))
  simp -implicitDefEqProofs [go_sem]
  refine CC.mono (Fits_cc _ _ .sh (imOf (zI t.z)) w ?_ ?_ ?_) ?_
  · rw [imOf_len, hzl]; omega
  · intro x hx
    obtain ⟨n, hn, rfl⟩ := List.mem_map.1 hx
    obtain ⟨k, hk, rfl⟩ := List.mem_map.1 hn
    have := (ht.z.ok k hk).2
    simp [zer]; omega
  · omega
  rintro _ _ _ ⟨rfl, rfl, rfl⟩
  rw [hfit]
  simp -implicitDefEqProofs [go_sem]
  refine SWp.seq (Wp.s ?_)
  simp -implicitDefEqProofs [go_sem]
  refine Wp.s ?_
  simp -implicitDefEqProofs [go_sem]
  refine SWp.seq (Wp.s ?_)
  simp -implicitDefEqProofs [go_sem]
  refine CC.mono (tkOpen_cc _ _ t ht) ?_
  rintro _ G0 V1 ⟨bs, rfl, hGl, hGH, hV, hop⟩
  rw [hV]
  clear hV V1
  simp only [List.length_append, List.length_cons, List.length_nil] at hGl hGH hop ⊢
  simp -implicitDefEqProofs [go_sem]
  obtain ⟨m, hm⟩ : ∃ m, m = H.length + 3 + 1 := ⟨_, rfl⟩
  rw [← hm] at hop ⊢
  have hbq : ∀ i (h : i < bs.length), bs[i] < G0.length := fun i h => (List.getElem?_eq_some_iff.1 (hop.box i h (by rw [← hop.len]; exact h))).1
  have hinc := ht.incP
  refine SWp.join (α := Hp × List Pee) (fun x => ([(2, .ptr H.length 0), (4, .ptr (H.length + 2) 0), (10, .mv m)], x.1, V)) (fun x => x.1.take (H.length + 3) = H ++ [some (trkC t), some (wrC w), some [.v (.slice none 0 0), .v (.slice none 0 0)]] ∧ OpM x.2 bs (H.length + 3 + 2) m x.1 ∧ x.2 = t.peers.map (pMk v s w.data.length)) ?_ ?_
  · refine SWp.seq (Wp.s ?_)
    simp -implicitDefEqProofs [go_sem, hbm_some hop.map]
    refine SWp.block ?_
    refine SWp.loop (α := List Nat × Hp × List Pee) (fun x => ([(2, .ptr H.length 0), (3, .ptr (H.length + 1) 0), (4, .ptr (H.length + 2) 0), (10, .mv m), (39, .it G0.length)], x.2.1, V)) (fun x => x.2.1.take (H.length + 3) = H ++ [some (trkC t), some (wrC w), some [.v (.slice none 0 0), .v (.slice none 0 0)]] ∧ OpM x.2.2 bs (H.length + 3 + 2) m x.2.1 ∧ x.2.1[G0.length]? = some (some [.obji m t.peers.length x.1]) ∧ Seen v s w.data.length t.peers x.2.2 x.1 ∧ ∀ i ∈ x.1, i < t.peers.length) (fun x => uns x.1 (List.range t.peers.length)) ([], G0 ++ [some [.obji m t.peers.length []]], t.peers) ?_ (Sh.forget (by simp [go_sem]) (by simp) rfl) ?_
    · dsimp only
      refine ⟨?_, hop.keep (List.getElem?_append_left hop.mlt) fun k hk => List.getElem?_append_left (hop.lt k hk), by simp, ⟨rfl, fun i h h2 => ⟨fun q => by simp at q, fun _ => rfl⟩⟩, fun i hi => by simp at hi⟩
      rw [List.take_append_of_le_length (by omega)]
      exact hGH
    rintro ⟨seen, G, cur⟩ ⟨hGt, hop1, hit, hsn, hsl⟩
    dsimp only at hGt hop1 hit hsn hsl ⊢
    refine SWp.seq (Wp.s ?_)
    simp -implicitDefEqProofs [go_sem]
    unfold cnext
    dsimp only
    have hcl := hsn.1
    refine ⟨rfl, m, t.peers.length, seen, _, _, hit, hop1.map, by simpa using hcl, hsl, fun hall => ?_, fun i hil hni => ?_⟩
    · simp -implicitDefEqProofs [go_sem]
      refine Wp.s ?_
      simp -implicitDefEqProofs [go_sem]
      have hcur := hsn.all hall
      rw [hcur] at hop1
      exact ⟨G, ⟨hGt, hop1⟩, Sh.forget (by simp [go_sem]) rfl rfl⟩
    · have hic : i < cur.length := by omega
      have hib : i < bs.length := by rw [hop1.len]; exact hic
      have hqG : G0.length < G.length := (List.getElem?_eq_some_iff.1 hit).1
      have hGl3 : H.length + 3 + 2 ≤ G0.length := hGl
      have hGt2 : ∀ k, k < 3 → ∀ y L, ((G.set G0.length y) ++ L)[H.length + k]? = G[H.length + k]? := fun k hk y L => by
        rw [List.getElem?_append_left (by rw [List.length_set]; omega), List.getElem?_set_ne (by omega)]
      have hw1 : ∀ y L, ((G.set G0.length y) ++ L)[H.length + 1]? = some (some (wrC w)) := fun y L => by
        rw [hGt2 1 (by decide)]; exact take_hget hGt 1 (by decide)
      have hqm : G0.length ≠ m := by omega
      have hm1 : (G.set G0.length (some [.obji m t.peers.length (seen ++ [i])]))[m]? = G[m]? := List.getElem?_set_ne (by omega)
      simp -implicitDefEqProofs [go_sem]
      refine SWp.seq (Wp.s ?_)
      simp -implicitDefEqProofs [go_sem]
      refine SWp.block (SWp.seq (Wp.s ?_))
      simp -implicitDefEqProofs [go_sem]
      unfold centry
      dsimp only
      refine ⟨m, t.peers.length, seen, i, _, _, List.getElem?_set_self hqG, by rw [hm1]; exact hop1.map, by simpa using hcl, hil, ?_⟩
      rw [show ((cur.map fun (p : Pee) => (p.site : Int))[i]?).getD 0 = (cur[i].site : Int) by simp [hic], show (((List.zipWith valC cur bs).map CV.agg)[i]?).getD .any = .agg (valC cur[i] bs[i]) by rw [List.getElem?_eq_getElem (by rw [List.length_map, List.length_zipWith, Nat.lt_min]; exact ⟨hic, hib⟩)]; simp]
      have hsz := hop1.lt _ (List.getElem_mem hib)
      have hb1 : ∀ y L, ((G.set G0.length y) ++ L)[bs[i]]? = some (some (bmF cur[i].dirty)) := fun y L => by
        rw [List.getElem?_append_left (by rw [List.length_set]; exact hsz), List.getElem?_set_ne (by have := hbq i hib; omega)]
        exact hop1.box i hib hic
      simp -implicitDefEqProofs [go_sem]
      refine SWp.seq (SWp.seq (Wp.s ?_))
      simp -implicitDefEqProofs [go_sem, hbx_of (hw1 _ _)]
      have hci : cur[i] = t.peers[i] := (hsn.2 i hic hil).2 hni
      have hdk := (ht.ok _ (List.getElem_mem hil)).dirty
      rw [← hci] at hdk
      have hvd : v < cur[i].dirty.length := by rw [hdk.len]; exact hv
      obtain ⟨k1, k2⟩ := hdk.ok v hvd hv
      have hkey : keyAt (cur.map fun (p : Pee) => (p.site : Int)) (cur[i].site : Int) = some i := by
        rw [hsn.sites, hci]
        have := hinc.keyAt i (by simpa using hil)
        simpa using this
      have hvs : ((List.zipWith valC cur bs).map CV.agg).set i (.agg (valC cur[i] bs[i])) = (List.zipWith valC cur bs).map CV.agg := by
        refine List.ext_getElem (by simp) fun j h1 h2 => ?_
        by_cases e : i = j
        · subst e; simp
        · simp [List.getElem_set_ne e]
      have hput : mput (cur.map fun (p : Pee) => (p.site : Int)) ((List.zipWith valC cur bs).map CV.agg) (cur[i].site : Int) (.agg (valC cur[i] bs[i])) = .objm (cur.map fun (p : Pee) => (p.site : Int)) ((List.zipWith valC cur bs).map CV.agg) := by
        rw [mput, hkey]; dsimp only; rw [hvs]
      refine CC.mono (mark_cc _ _ bs[i] cur[i].dirty w v s (hb1 _ _) hwv hws hvd k1 (by rw [k2]; exact hs)) ?_
      rintro _ _ _ ⟨rfl, rfl, rfl⟩
      have hne1 : bs[i] ≠ G.length := by omega
      have hbl2 := hbq i hib
      have hbge := hop1.ge _ (List.getElem_mem hib)
      obtain ⟨K, hK⟩ : ∃ K, K = ((G.set G0.length (some [.obji m t.peers.length (seen ++ [i])])) ++ [some (valC cur[i] bs[i])]).set bs[i] (some (bmF (mkW cur[i].dirty v s w.data.length))) := ⟨_, rfl⟩
      have kl : K.length = G.length + 1 := by rw [hK]; simp
      have k1 : K[G.length]? = some (some (valC cur[i] bs[i])) := by
        rw [hK, List.getElem?_set_ne hne1, List.getElem?_append_right (by simp)]; simp
      have k2 : ∀ k : Nat, k < G.length → k ≠ G0.length → k ≠ bs[i] → K[k]? = G[k]? := fun k a1 a2 a3 => by
        rw [hK, List.getElem?_set_ne (by omega), List.getElem?_append_left (by rw [List.length_set]; exact a1), List.getElem?_set_ne (by omega)]
      have k3 : K[bs[i]]? = some (some (bmF (mkW cur[i].dirty v s w.data.length))) := by
        rw [hK, List.getElem?_set_self (by simp; omega)]
      have k4 : K[G0.length]? = some (some [.obji m t.peers.length (seen ++ [i])]) := by
        rw [hK, List.getElem?_set_ne (by omega), List.getElem?_append_left (by rw [List.length_set]; exact hqG), List.getElem?_set_self hqG]
      have k5 : K.take (H.length + 3) = G.take (H.length + 3) := by
        rw [hK, List.take_set_of_le (by omega), List.take_append_of_le_length (by rw [List.length_set]; omega), List.take_set_of_le (by omega)]
      rw [← hK]
      clear hK
      have hmG := hop1.mlt
      have hmm : K[m]? = some (some [.objm (cur.map fun (p : Pee) => (p.site : Int)) ((List.zipWith valC cur bs).map CV.agg)]) := by
        rw [k2 m hmG (by omega) (by omega)]; exact hop1.map
      have hsz2 : ∀ k : Nat, k ∈ bs → k < G0.length := fun k hk => by
        obtain ⟨j, hj, rfl⟩ := List.getElem_of_mem hk
        exact hbq j hj
      have hv0 : ([ci (cur[i].site : Nat), ci cur[i].common, .bsa bs[i] cur[i].dirty.length 2] : List CV) = valC cur[i] bs[i] := rfl
      have q1 : (K.set G.length (some (valC cur[i] bs[i])))[G.length]? = some (some (valC cur[i] bs[i])) := List.getElem?_set_self (by omega)
      have q2 : (K.set G.length (some (valC cur[i] bs[i])))[m]? = some (some [.objm (cur.map fun (p : Pee) => (p.site : Int)) ((List.zipWith valC cur bs).map CV.agg)]) := by rw [List.getElem?_set_ne (by omega)]; exact hmm
      obtain ⟨ks, hks⟩ : ∃ ks, ks = cur.map fun (p : Pee) => (p.site : Int) := ⟨_, rfl⟩
      obtain ⟨vs, hvz⟩ : ∃ vs, vs = (List.zipWith valC cur bs).map CV.agg := ⟨_, rfl⟩
      rw [← hks, ← hvz] at q2 hput
      simp -implicitDefEqProofs [go_sem, hbx_of k1]
      refine SWp.seq (Wp.s ?_)
      simp -implicitDefEqProofs [go_sem]
      rw [hv0]
      refine Wp.s ?_
      simp -implicitDefEqProofs [go_sem]
      refine Wp.s ?_
      simp -implicitDefEqProofs [go_sem, hbx_of q1, hbm_some q2, hput]
      refine ⟨seen ++ [i], _, ⟨?_, cur.set i (pMk v s w.data.length cur[i]), ?_, ?_, ?_, ?_⟩, ?_, Sh.forget (by simp [go_sem]) rfl rfl⟩
      · rw [List.take_set_of_le (by omega), List.take_set_of_le (by omega), k5]; exact hGt
      · refine hop1.mark i hic hib ?_ ?_ fun k hk hne => ?_
        · rw [List.getElem?_set_self (by simp; omega), hks, hvz]; exact hop1.map.symm
        · rw [List.getElem?_set_ne (by omega), List.getElem?_set_ne (by omega)]; exact k3
        · have := hsz2 k hk
          have := hop1.ge k hk
          rw [List.getElem?_set_ne (by omega), List.getElem?_set_ne (by omega)]
          exact k2 k (by omega) (by omega) hne
      · rw [List.getElem?_set_ne (by omega), List.getElem?_set_ne (by omega)]; exact k4
      · exact hsn.more i hic hni
      · intro j hj
        rcases List.mem_append.1 hj with hj | hj
        · exact hsl j hj
        · rw [List.mem_singleton.1 hj]; exact hil
      · exact uns_lt seen i hni _ (by simpa using hil)
  rintro ⟨G, cur⟩ ⟨hGt, hop1, rfl⟩
  dsimp only at hGt hop1 ⊢
  have hG0 : G[H.length]? = some (some (trkC t)) := take_hget hGt 0 (by decide)
  have hG2 : G[H.length + 2]? = some (some [.v (.slice none 0 0), .v (.slice none 0 0)]) := take_hget hGt 2 (by decide)
  refine SWp.seq (Wp.s ?_)
  simp -implicitDefEqProofs [go_sem, hbx_of hG0, hbx_of hG2]
  refine CC.mono (closed_cc _ _ t ht (t.peers.map (pMk v s w.data.length)) bs (H.length + 3 + 2) m hop1 (tMk_ok ht hv hs).incP (by simp; omega)) ?_
  rintro _ _ _ ⟨rfl, rfl, rfl⟩
  simp -implicitDefEqProofs [go_sem, hbx_of hG2]
  refine Wp.s ?_
  simp -implicitDefEqProofs [go_sem]
  have hmG := hop1.mlt
  rw [hbx_of (List.getElem?_set_self (by omega))]
  refine ⟨by simp, ?_⟩
  have hGH2 : G.take H.length = H := by
    have := congrArg (List.take H.length) hGt
    rwa [List.take_take, Nat.min_eq_left (by omega), List.take_left] at this
  exact fin_prs (z := t.z) (hop1.keep (List.getElem?_set_ne (by omega)) fun k hk => List.getElem?_set_ne (by have := hop1.ge k hk; omega)) (by omega) (by rw [List.take_set_of_le (by omega)]; exact hGH2) hokH (by simp)
end Go.Proofs.YtpedbpbmnchllaaGreatDoor
namespace Go.Proofs.YtpedbpbmnchllaaGreatDoor
open Go.Proofs
@[go_sem, simp] theorem valC_1 (p : Pee) (b : Nat) (h : 1 < (valC p b).length) : (valC p b)[1] = ci p.common := rfl
theorem tkDirty_cc (H : Hp) (V : List Nat) (t : Trk) (i : Nat) (ht : TrkOk t) (hi : i < t.peers.length) : CC Tryz.prog 49 [.agg (trkC t), ci t.peers[i].site] H V (Pu (.tup [.sl .sh 2 (t.peers[i].dirty.map bmC), ci t.peers[i].common, er 0]) H V) := by
  refine CC.of_swp Tryz.func49 rfl (by kernel_rfl) (by rw [Tryz.ntmps49]; exact len_le _ _ rfl) fun hok hokH => ?_
  clear hok
  have hinc := ht.incP
  refine SWp.seq (Wp.s ?_)
  simp -implicitDefEqProofs [go_sem, args0]
  refine SWp.seq (Wp.s ?_)
  simp -implicitDefEqProofs [go_sem]
  refine CC.mono (tkCheck_cc _ _ t ht) ?_
  rintro _ _ _ ⟨rfl, rfl, rfl⟩
  simp -implicitDefEqProofs [go_sem]
  refine SWp.seq (Wp.s ?_)
  simp -implicitDefEqProofs [go_sem]
  refine CC.mono (tkOpen_cc _ _ t ht) ?_
  rintro _ G V1 ⟨bs, rfl, hGl, hGH, hV, hop⟩
  rw [hV]
  clear hV V1
  simp only [List.length_append, List.length_cons, List.length_nil] at hGl hGH hop ⊢
  have hib : i < bs.length := by rw [hop.len]; exact hi
  have hkey : keyAt (t.peers.map fun (p : Pee) => (p.site : Int)) (t.peers[i].site : Int) = some i := by
    have := hinc.keyAt i (by simpa using hi)
    simpa using this
  have hlk : ∀ z, mlook z (t.peers.map fun (p : Pee) => (p.site : Int)) ((List.zipWith valC t.peers bs).map CV.agg) (t.peers[i].site : Int) = .agg (valC t.peers[i] bs[i]) := fun z => by
    rw [mlook, hkey]
    dsimp only
    rw [List.getElem?_map, List.getElem?_eq_getElem (by rw [List.length_zipWith, Nat.lt_min]; exact ⟨hi, hib⟩)]; simp
  have hmap := hop.map
  obtain ⟨ks, hks⟩ : ∃ ks, ks = t.peers.map fun (p : Pee) => (p.site : Int) := ⟨_, rfl⟩
  obtain ⟨vs, hvz⟩ : ∃ vs, vs = (List.zipWith valC t.peers bs).map CV.agg := ⟨_, rfl⟩
  rw [← hks, ← hvz] at hlk hmap
  rw [← hks] at hkey
  obtain ⟨m, hm⟩ : ∃ m, m = H.length + (0 + 1) + 1 := ⟨_, rfl⟩
  rw [← hm] at hop hmap ⊢
  simp -implicitDefEqProofs [go_sem, hbm_some hmap, hlk, hkey]
  refine SWp.seq (SWp.seq (Wp.s ?_))
  simp -implicitDefEqProofs [go_sem]
  refine Wp.s ?_
  simp -implicitDefEqProofs [go_sem]
  refine SWp.seq (SWp.drawnT [] [] (.s 0 .pl <| .s 1 .pl <| .s 2 .pl <| .s 3 .pl <| .s 4 .pl <| .s 5 .pl <| .s 6 .pl <| .n) (by kernel_rfl) (by kernel_rfl) ?_)
  simp -implicitDefEqProofs [go_sem]
  refine Wp.s ?_
  simp -implicitDefEqProofs [go_sem]
  have hbx := hop.box i hib hi
  have hlt := (List.getElem?_eq_some_iff.1 hbx).1
  have hge := hop.ge _ (List.getElem_mem hib)
  have hGH2 : G.take H.length = H := by
    have := congrArg (List.take H.length) hGH
    rwa [List.take_take, Nat.min_eq_left (by omega), List.take_left] at this
  refine Fin.frozY (b := bs[i]) (cs := bmF t.peers[i].dirty) (r1 := .tup [.bsl bs[i] 0 t.peers[i].dirty.length 2, ci t.peers[i].common, er 0]) (r2 := .tup [.sl .sh 2 (t.peers[i].dirty.map bmC), ci t.peers[i].common, er 0]) ⟨rfl, rfl, rfl⟩ (.tup (.cons (.bsa _ _ _) (.cons (.refl _) (.cons (.refl _) .nil)))) (by rw [List.getElem?_append_left hlt]; exact hbx) ?_ (by omega) (by simp [go_sem, okE_bms]) hokH (by rw [List.take_append_of_le_length (by omega)]; exact hGH2) (by simp)
  have := Fy.bsl (b := bs[i]) (cs := bmF t.peers[i].dirty) 0 t.peers[i].dirty.length 2 (by rw [bmF_len]; omega)
  rw [List.drop_zero, chunks_bmF] at this
  exact .tup (.cons this (.cons (.refl _) (.cons (.refl _) .nil)))
end Go.Proofs.YtpedbpbmnchllaaGreatDoor
namespace Go.Proofs.YtpedbpbmnchllaaGreatDoor
open Go.Proofs
end Go.Proofs.YtpedbpbmnchllaaGreatDoor
namespace Go.Proofs.YtpedbpbmnchllaaGreatDoor
open Go.Proofs
theorem sz_imgSz {k : Img} {z : List Nat} (h : k.map List.length = z) : imgSz k = zI z := by
  rw [← h, imgSz, zI, List.map_map]; rfl
end Go.Proofs.YtpedbpbmnchllaaGreatDoor
namespace Go.Proofs.YtpedbpbmnchllaaGreatDoor
open Go.Proofs
end Go.Proofs.YtpedbpbmnchllaaGreatDoor
namespace Go.Proofs.YtpedbpbmnchllaaGreatDoor
open Go.Proofs
end Go.Proofs.YtpedbpbmnchllaaGreatDoor
namespace Go.Proofs.YtpedbpbmnchllaaGreatDoor
open Go.Proofs
def atI (k : Img) (v i : Nat) : Sec := (imAt k v).getD i sec0
def posW (w : Wr) : List (Nat × Nat) := (List.range' w.start.toNat w.data.length).map fun i => (w.volume.toNat, i)
def posS (ws : List Wr) : List (Nat × Nat) := ws.flatMap posW
theorem posS_app (a b : List Wr) : posS (a ++ b) = posS a ++ posS b := by simp [posS]
def DifI (v : Nat) (a : List Sec) (l : List Wr) : Prop := ∀ w ∈ l, w.volume = v ∧ 0 ≤ w.start ∧ ∀ j, j < w.data.length → w.data.getD j sec0 = a.getD (w.start.toNat + j) sec0
theorem difS_I {v : Nat} {a : List Sec} {l : List Wr} {i : Nat} (h : DifI v a l) : DifI v a (difS v l i (a.getD i sec0)) := by
  have hn : ∀ w : Wr, w = ⟨(v : Int), (i : Int), [a.getD i sec0]⟩ → w.volume = v ∧ 0 ≤ w.start ∧ ∀ j, j < w.data.length → w.data.getD j sec0 = a.getD (w.start.toNat + j) sec0 := by
    rintro w rfl
    refine ⟨rfl, by simp, fun j hj => ?_⟩
    obtain rfl : j = 0 := by simpa using hj
    simp
  rcases List.eq_nil_or_concat l with rfl | ⟨l0, x, rfl⟩
  · rw [difS_nil]
    intro w hw
    exact hn w (by simpa using hw)
  · rw [List.concat_eq_append] at *
    rw [difS_snoc]
    split
    · rename_i e
      intro w hw
      rcases List.mem_append.1 hw with hw | hw
      · exact h w (by simp [hw])
      · obtain rfl : w = _ := by simpa using hw
        obtain ⟨p, q, r⟩ := h x (by simp)
        refine ⟨p, q, fun j hj => ?_⟩
        dsimp only at hj ⊢
        rw [List.length_append, List.length_singleton] at hj
        by_cases hjl : j < x.data.length
        · rw [List.getD_eq_getElem?_getD, List.getElem?_append_left hjl, ← List.getD_eq_getElem?_getD]; exact r j hjl
        · obtain rfl : j = x.data.length := by omega
          rw [List.getD_eq_getElem?_getD, List.getElem?_append_right (Nat.le_refl _), Nat.sub_self, show x.start.toNat + x.data.length = i by omega]
          rfl
    · intro w hw
      rcases List.mem_append.1 hw with hw | hw
      · exact h w hw
      · exact hn w (by simpa using hw)
theorem difS_pos {v : Nat} {a : List Sec} {l : List Wr} {i : Nat} {s : Sec} (h : DifI v a l) : posS (difS v l i s) = posS l ++ [(v, i)] := by
  rcases List.eq_nil_or_concat l with rfl | ⟨l0, x, rfl⟩
  · rw [difS_nil]; simp [posS, posW]
  · rw [List.concat_eq_append] at *
    rw [difS_snoc]
    obtain ⟨p, q, r⟩ := h x (by simp)
    split
    · rename_i e
      rw [posS_app, posS_app, List.append_assoc]
      congr 1
      simp only [posS, List.flatMap_cons, List.flatMap_nil, List.append_nil, posW, List.length_append, List.length_singleton, p, Int.toNat_natCast]
      rw [List.range'_1_concat, List.map_append]
      simp; omega
    · rw [posS_app]; simp [posS, posW]
theorem difX_I (v : Nat) (a b : List Sec) (s : Nat) : ∀ c, DifI v a (difX v a b s c) ∧ posS (difX v a b s c) = ((List.range' s c).filter fun i => decide (¬ a.getD i sec0 = b.getD i sec0)).map fun i => (v, i)
  | 0 => ⟨fun w hw => by simp [difX_zero] at hw, by simp [difX_zero, posS]⟩
  | c + 1 => by
    obtain ⟨h1, h2⟩ := difX_I v a b s c
    rw [difX_succ, difStep, List.range'_1_concat, List.filter_append, List.map_append, ← h2]
    split
    · rename_i e
      refine ⟨h1, ?_⟩
      rw [List.filter_cons_of_neg (by simpa using e)]; simp
    · rename_i e
      refine ⟨difS_I h1, ?_⟩
      rw [difS_pos h1, List.filter_cons_of_pos (by simpa using e)]; rfl
theorem exStep_flat (l : List (Nat × Nat)) (x : Nat) : (exStep l x).flatMap (fun e => List.range' e.1 e.2) = l.flatMap (fun e => List.range' e.1 e.2) ++ [x] := by
  rcases List.eq_nil_or_concat l with rfl | ⟨l0, e, rfl⟩
  · simp [exStep_nil]
  · rw [List.concat_eq_append, exStep_snoc]
    split
    · rename_i h
      rw [List.flatMap_append, List.flatMap_append]
      simp [List.range'_1_concat, h]
    · rw [List.flatMap_append]; simp
theorem runsN_flat (xs : List Nat) : (runsN xs).flatMap (fun e => List.range' e.1 e.2) = xs := by
  induction xs using snoc_ind with
  | h0 => simp [runsN]
  | h1 xs x ih => rw [runsN_snoc, exStep_flat, ih]
theorem trV_pos (v : Nat) (a b : List Sec) (l : List (Nat × Nat)) : posS (trV' v a b l) = ((l.flatMap fun e => List.range' e.1 e.2).filter fun i => decide (¬ a.getD i sec0 = b.getD i sec0)).map fun i => (v, i) := by
  induction l with
  | nil => simp [trV', posS]
  | cons e l ih =>
    rw [trV', List.flatMap_cons, ← trV', posS_app, ih, (difX_I v a b e.1 e.2).2, List.flatMap_cons, List.filter_append, List.map_append]
def WrI (P : Img) (w : Wr) : Prop := fitsS (imgSz P) w = 0 ∧ ∀ j, j < w.data.length → w.data.getD j sec0 = atI P w.volume.toNat (w.start.toNat + j)
def apA (k : Img) (ws : List Wr) : Img := ws.foldl ap1 k
theorem apI_A : ∀ (ws : List Wr) (k : Img) (i : Nat), (∀ w ∈ ws, fitsS (imgSz k) w = 0) → apI k ws i = (apA k ws, 0, 0)
  | [], k, i, _ => rfl
  | w :: ws, k, i, h => by
    have h0 := h w (by simp)
    have hs : imgSz (ap1 k w) = imgSz k := by
      have := ap1_sz h0
      rw [imgSz, imgSz]
      have := congrArg (List.map fun (n : Nat) => (n : Int)) this
      rw [List.map_map, List.map_map] at this
      exact this
    rw [apI, if_neg (by simp [h0]), apI_A ws _ _ fun x hx => by rw [hs]; exact h x (by simp [hx])]
    rfl
theorem putV_at {v d : List Sec} {p i : Nat} (h : p + d.length ≤ v.length) : (putV v p d).getD i sec0 = if p ≤ i ∧ i < p + d.length then d.getD (i - p) sec0 else v.getD i sec0 := by
  rw [putV, List.getD_eq_getElem?_getD, List.getD_eq_getElem?_getD, List.getD_eq_getElem?_getD, splice_get v d p i (by omega)]
  by_cases h1 : i < p
  · rw [if_pos h1, if_neg (by omega)]
  · rw [if_neg h1]
    by_cases h2 : i < p + d.length
    · rw [if_pos h2, if_pos ⟨by omega, h2⟩]
    · rw [if_neg h2, if_neg (by omega)]
theorem ap1_at {k : Img} {w : Wr} (hf : fitsS (imgSz k) w = 0) (v i : Nat) : atI (ap1 k w) v i = if (v, i) ∈ posW w then w.data.getD (i - w.start.toNat) sec0 else atI k v i := by
  obtain ⟨n, hvn, hnk, hd0, p, hpn, hpl⟩ := fitsI_0 hf
  have hmem : (v, i) ∈ posW w ↔ v = n ∧ p ≤ i ∧ i < p + w.data.length := by
    rw [posW, hvn, hpn, Int.toNat_natCast, Int.toNat_natCast, List.mem_map]
    constructor
    · rintro ⟨j, hj, e⟩
      rw [Prod.mk.injEq] at e
      rw [List.mem_range'_1] at hj
      omega
    · rintro ⟨rfl, h1, h2⟩
      exact ⟨i, by rw [List.mem_range'_1]; omega, rfl⟩
  have hg : k.getD n [] = k[n] := by rw [List.getD_eq_getElem?_getD, List.getElem?_eq_getElem hnk]; rfl
  rw [ap1, hvn, hpn, Int.toNat_natCast, Int.toNat_natCast, hg]
  by_cases hv : v = n
  · subst hv
    have e1 : imAt (k.set v (putV k[v] p w.data)) v = putV k[v] p w.data := by
      rw [imAt, List.getD_eq_getElem?_getD, List.getElem?_set_self hnk]; rfl
    have e2 : imAt k v = k[v] := hg
    rw [atI, e1, putV_at hpl, atI, e2]
    by_cases hc : p ≤ i ∧ i < p + w.data.length
    · rw [if_pos hc, if_pos (hmem.2 ⟨rfl, hc⟩)]
    · rw [if_neg hc, if_neg fun q => hc (hmem.1 q).2]
  · rw [if_neg fun q => hv (hmem.1 q).1, atI, atI]
    have : imAt (k.set n (putV k[n] p w.data)) v = imAt k v := by
      rw [imAt, imAt, List.getD_eq_getElem?_getD, List.getD_eq_getElem?_getD, List.getElem?_set_ne (fun e => hv e.symm)]
    rw [this]
theorem apA_at {P : Img} : ∀ (ws : List Wr) (k : Img), k.map List.length = P.map List.length → (∀ w ∈ ws, WrI P w) → (apA k ws).map List.length = P.map List.length ∧ ∀ v i, atI (apA k ws) v i = if (v, i) ∈ posS ws then atI P v i else atI k v i
  | [], k, hk, _ => ⟨hk, fun v i => by simp [posS, apA]⟩
  | w :: ws, k, hk, h => by
    obtain ⟨h1, h2⟩ := h w (by simp)
    have hz : imgSz k = imgSz P := by
      rw [sz_imgSz hk, sz_imgSz rfl]
    have hf : fitsS (imgSz k) w = 0 := by rw [hz]; exact h1
    obtain ⟨a, b⟩ := apA_at ws (ap1 k w) ((ap1_sz hf).trans hk) fun x hx => h x (by simp [hx])
    refine ⟨a, fun v i => ?_⟩
    have hb : atI (apA k (w :: ws)) v i = _ := b v i
    rw [hb, ap1_at hf]
    have hm : (v, i) ∈ posS (w :: ws) ↔ (v, i) ∈ posW w ∨ (v, i) ∈ posS ws := by simp [posS]
    by_cases c1 : (v, i) ∈ posS ws
    · rw [if_pos c1, if_pos (hm.2 (.inr c1))]
    · rw [if_neg c1]
      by_cases c2 : (v, i) ∈ posW w
      · rw [if_pos c2, if_pos (hm.2 (.inl c2))]
        rw [posW, List.mem_map] at c2
        obtain ⟨j, hj, e⟩ := c2
        rw [Prod.mk.injEq] at e
        rw [List.mem_range'_1] at hj
        obtain ⟨rfl, rfl⟩ := e
        rw [h2 _ (by omega)]
        congr 1; omega
      · rw [if_neg c2, if_neg fun q => (hm.1 q).elim c2 c1]
theorem img_at_ext {a b : Img} (h : a.map List.length = b.map List.length) (he : ∀ v i, atI a v i = atI b v i) : a = b := by
  have hl : a.length = b.length := by simpa using congrArg List.length h
  refine List.ext_getElem hl fun v h1 h2 => ?_
  have hlv : a[v].length = b[v].length := by
    have := congrArg (fun l : List Nat => l[v]?) h
    simpa [h1, h2] using this
  refine List.ext_getElem hlv fun i h3 h4 => ?_
  have := he v i
  simpa [atI, imAt, List.getD_eq_getElem?_getD, h1, h2, h3, h4] using this
end Go.Proofs.YtpedbpbmnchllaaGreatDoor
namespace Go.Proofs.YtpedbpbmnchllaaGreatDoor
open Go.Proofs
def mkL (p q : Pt) (v : Nat) : List Nat := elsN (p.dirty.getD v ⟨1, 0⟩).n ((p.dirty.getD v ⟨1, 0⟩).w ||| (q.dirty.getD v ⟨1, 0⟩).w)
theorem mkd_getD (p q : Pt) (v : Nat) (h : v < p.dirty.length) : (mkd p q).getD v [] = runsN (mkL p q v) := by
  rw [List.getD_eq_getElem?_getD, List.getElem?_eq_getElem (by rw [mkd_len]; exact h)]
  simp [mkd, mk1, mkL]
theorem trT_pos (p q : Pt) : ∀ n, n ≤ p.dirty.length → posS (trT p q n) = (List.range n).flatMap fun v => ((mkL p q v).filter fun i => decide (¬ atI p.im v i = atI q.im v i)).map fun i => (v, i)
  | 0, _ => by simp [trT, posS]
  | n + 1, h => by
    rw [trT_succ, posS_app, trT_pos p q n (by omega), trV_pos, mkd_getD p q n (by omega), runsN_flat, List.range_succ, List.flatMap_append]
    simp [atI]
theorem mkL_lt {p q : Pt} {v i : Nat} (h : i ∈ mkL p q v) : i < (p.dirty.getD v ⟨1, 0⟩).n := (elsN_mem.1 h).1
theorem Pt2.dirtyN {p q : Pt} (h : Pt2 p q) (v : Nat) (hv : v < p.dirty.length) : (p.dirty.getD v ⟨1, 0⟩).n = (imAt p.im v).length := by
  have hvi : v < p.im.length := by rw [← h.hp.len]; exact hv
  have := (h.hp.dirty v hv hvi).2
  rw [List.getD_eq_getElem?_getD, List.getElem?_eq_getElem hv, imAt, List.getD_eq_getElem?_getD, List.getElem?_eq_getElem hvi]
  exact this
def Cov (b : Img) (d : List Bm) (k : Img) : Prop := ∀ v i, (d.getD v ⟨1, 0⟩).w.testBit i = false → atI k v i = atI b v i
def CovP (p q : Pt) : Prop := ∀ v i, ((p.dirty.getD v ⟨1, 0⟩).w ||| (q.dirty.getD v ⟨1, 0⟩).w).testBit i = false → atI p.im v i = atI q.im v i
theorem CovP.of {b : Img} {p q : Pt} (h : Cov b p.dirty p.im) (g : Cov b q.dirty q.im) : CovP p q := fun v i hi => by
  rw [Nat.testBit_or, Bool.or_eq_false_iff] at hi
  rw [h v i hi.1, g v i hi.2]
theorem atI_out {k : Img} {v i : Nat} (h : (imAt k v).length ≤ i) : atI k v i = sec0 := by
  rw [atI, List.getD_eq_getElem?_getD, List.getElem?_eq_none h]; rfl
theorem imAt_out {k : Img} {v : Nat} (h : k.length ≤ v) : imAt k v = [] := by
  rw [imAt, List.getD_eq_getElem?_getD, List.getElem?_eq_none h]; rfl
theorem imAt_len {a b : Img} (h : a.map List.length = b.map List.length) (v : Nat) : (imAt a v).length = (imAt b v).length := by
  have := congrArg (fun l : List Nat => l[v]?) h
  simp only [List.getElem?_map] at this
  rw [imAt, imAt, List.getD_eq_getElem?_getD, List.getD_eq_getElem?_getD]
  cases h1 : a[v]? <;> cases h2 : b[v]? <;> simp [h1, h2] at this ⊢
  exact this
theorem trT_mem {p q : Pt} (h : Pt2 p q) (hc : CovP p q) (v i : Nat) (hne : ¬ atI p.im v i = atI q.im v i) : (v, i) ∈ posS (trT p q p.dirty.length) := by
  rw [trT_pos p q _ (Nat.le_refl _), List.mem_flatMap]
  have hlen := imAt_len h.sz v
  have hi : i < (imAt p.im v).length := by
    rcases Nat.lt_or_ge i (imAt p.im v).length with h1 | h1
    · exact h1
    · exact absurd ((atI_out h1).trans (atI_out (by omega)).symm) hne
  have hv : v < p.dirty.length := by
    rcases Nat.lt_or_ge v p.im.length with h1 | h1
    · rw [h.hp.len]; exact h1
    · rw [imAt_out h1] at hi; simp at hi
  refine ⟨v, List.mem_range.2 hv, List.mem_map.2 ⟨i, List.mem_filter.2 ⟨elsN_mem.2 ⟨by rw [h.dirtyN v hv]; exact hi, ?_⟩, by simpa using hne⟩, rfl⟩⟩
  cases ht : ((p.dirty.getD v ⟨1, 0⟩).w ||| (q.dirty.getD v ⟨1, 0⟩).w).testBit i
  · exact absurd (hc v i ht) hne
  · rfl
end Go.Proofs.YtpedbpbmnchllaaGreatDoor
namespace Go.Proofs.YtpedbpbmnchllaaGreatDoor
open Go.Proofs
theorem same22_cc (H : Hp) (V : List Nat) (x y : List Wr) (hl : x.length ≤ 1000000000) (hw : WrS x) : CC Tryz.prog 13 [.sl .sh 3 (x.map wrC), .sl .sh 3 (y.map wrC)] H V (Pu (cb (decide (x = y))) H V) := by
  refine CC.of_swp Tryz.func13 rfl (by kernel_rfl) (by rw [Tryz.ntmps13]; exact len_le _ _ rfl) fun hok hokH => ?_
  clear hok
  refine SWp.seq (Wp.s ?_)
  simp -implicitDefEqProofs [go_sem, args0]
  refine SWp.seq (Wp.s ?_)
  simp -implicitDefEqProofs [go_sem]
  refine CC.mono (SameWrs_cc _ _ .sh .sh x y hl hw) ?_
  rintro _ _ _ ⟨rfl, rfl, rfl⟩
  simp -implicitDefEqProofs [go_sem]
  refine Wp.s ?_
  simp -implicitDefEqProofs [go_sem]
  exact Fin.bool rfl hokH (by simp) (by simp)
def w5 : List Wr := [⟨0, 0, [⟨[5, 0, 0, 0, 0, 0, 0, 0], rfl⟩]⟩]
end Go.Proofs.YtpedbpbmnchllaaGreatDoor
namespace Go.Proofs.YtpedbpbmnchllaaGreatDoor
open Go.Proofs
def CR (P : Program) (g : FuncId) (caps : List CV) (H : Hp) (V : List Nat) (K : Hp → List Nat → Prop) : Prop :=
  (∃ fn, P.funcs[g]? = some fn ∧ fn.body.isSome = true ∧ (fn.name == "runtime.NumGoroutine") = false) ∧
  ∀ (m : Gh) (w : World) (us : List Value), Inv m w H V → RelL m w V caps us →
    CallsD P g us.toArray .returning w fun e u' w' => (∃ v, e = .returned v) ∧ u' = .returning ∧ ∃ m' H' V', K H' V' ∧ Inv m' w' H' V' ∧ Ext m w V m' w' V'
theorem CR.mono {P : Program} {g : FuncId} {caps : List CV} {H : Hp} {V : List Nat} {K K' : Hp → List Nat → Prop} (h : CR P g caps H V K) (hk : ∀ H V, K H V → K' H V) : CR P g caps H V K' :=
  ⟨h.1, fun m w us hi hu => (h.2 m w us hi hu).mono fun _ _ _ ⟨h1, h2, m', H', V', h3, h4⟩ => ⟨h1, h2, m', H', V', hk _ _ h3, h4⟩⟩
theorem CR.of_swp {P : Program} {g : FuncId} {fn : Func} {c : Code} {caps : List CV} {H : Hp} {V : List Nat} {K : Hp → List Nat → Prop} (hf : P.funcs[g]? = some fn) (hb : fn.body = some c)
    (hn : (fn.name == "runtime.NumGoroutine") = false) (hr : fn.results = #[]) (ha : caps.length ≤ fn.ntmps)
    (h : SWp P fn.ntmps H.length V.length c (Rt P H.length V.length [] fun _ => K) (args0 0 caps) H V) : CR P g caps H V K := by
  refine ⟨⟨fn, hf, by rw [hb]; rfl, hn⟩, fun m w us hi hu => ?_⟩
  refine (callsD_of_wp (R := fun e w' => (∃ v, e = .returned v) ∧ ∃ m' H' V', K H' V' ∧ Inv m' w' H' V' ∧ Ext m w V m' w' V') hf hb ?_).mono fun e u' w' ⟨h1, h2, h3⟩ => ⟨h2, h1, h3⟩
  refine wp_mono (wpIn_wide.1 (h none _ m w _ m w V hi.boxlen hi.tiplen rfl (Ext.refl m w V) (st0 hi hu ha))) fun e a' w' ⟨T', H', V', m', k1, k2, k3⟩ => ?_
  have fin : resK P [] T' H' (fun cs => Fin H.length V.length (fun _ => K) (one cs) H' V') → bodyPost P fn (fun e w' => (∃ v, e = .returned v) ∧ ∃ m' H' V', K H' V' ∧ Inv m' w' H' V' ∧ Ext m w V m' w' V') .ret a' w' := fun hk => by
    obtain ⟨v, q1, u, m2, r, H2, V2, _, q2, q3, _, q4⟩ := fin_out (fn := fn) (by rw [hr]) hi.boxlen hi.tiplen rfl k2 k3 hk
    exact ⟨k2.df.eq rfl, v, q1, ⟨_, rfl⟩, m2, H2, V2, q2, q3, q4⟩
  cases e with
  | normal => exact fin k1
  | ret => exact fin k1
  | _ => exact k1.elim
def RtR (P : Program) (nb nv : Nat) (res : List ResultVar) (R : CV → Hp → List Nat → Prop) (g : FuncId) (caps : List CV) : Exit → Tm → Hp → List Nat → Prop
  | .ret, T, H, V => CR P g caps H V fun H' V' => resK P res T H' fun cs => Fin nb nv R (one cs) H' V'
  | .normal, T, H, V => CR P g caps H V fun H' V' => resK P res T H' fun cs => Fin nb nv R (one cs) H' V'
  | _, _, _, _ => False
section
variable {P : Program} {nb nv : Nat} {T T' : Tm} {H H' : Hp} {V V' : List Nat} {res : List ResultVar} {R : CV → Hp → List Nat → Prop} {g : FuncId} {caps : List CV}
@[go_sem] theorem RtR_ret : RtR P nb nv res R g caps .ret T H V = CR P g caps H V fun H' V' => resK P res T H' fun cs => Fin nb nv R (one cs) H' V' := rfl
@[go_sem] theorem RtR_normal : RtR P nb nv res R g caps .normal T H V = CR P g caps H V fun H' V' => resK P res T H' fun cs => Fin nb nv R (one cs) H' V' := rfl
end
theorem CC.of_defer2 {P : Program} {f : FuncId} {fn : Func} {c1 c2 : Code} {id id2 : Nat} {pre : List Oper} {dd dd2 : Option Tmp} {ty ty2 : TypeId} {pos pos2 : String} {after after2 : Array Edge} {fo fo2 ao : Operand} {tys tys2 : Array TypeId} {g r : Nat} {args : List CV} {H : Hp} {V : List Nat} {R : CV → Hp → List Nat → Prop}
    (hf : P.funcs[f]? = some fn) (hb : fn.body = some (.seq c1 (.seq (.region id (pre ++ [(⟨dd, .defer ⟨.value fo, #[], tys⟩, ty, pos, after, none⟩ : Oper)]).toArray false) (.seq (.region id2 #[(⟨dd2, .defer ⟨.value fo2, #[ao], tys2⟩, ty2, pos2, after2, none⟩ : Oper)] false) c2)))) (hn : (fn.name == "runtime.NumGoroutine") = false) (ha : args.length ≤ fn.ntmps) (hD : RetD P r 1)
    (h : okL H.length V.length args → (∀ (b : Nat) cs, H[b]? = some (some cs) → okL H.length V.length cs) → SWp P fn.ntmps H.length V.length c1 (thn (fun T H' V' => crunS P fn.ntmps ((pre ++ [(⟨dd, .defer ⟨.value fo, #[], tys⟩, ty, pos, after, none⟩ : Oper)]).map (·.dst)) pre T H' V' fun T H' V' => dOk dd fn.ntmps ∧ dOk dd2 fn.ntmps ∧
      (∃ caps, evT T fo = .fn g caps ∧ evT (tput dd (.v undef) T) fo2 = .fn r [] ∧ SWp P fn.ntmps H'.length V'.length c2 (RtR P H.length V.length fn.results.toList R g caps) (tput dd2 (.v undef) (tput dd (.v undef) T)) H' V')) (fun _ _ _ _ => False)) (args0 0 args) H V) : CC P f args H V R := by
  refine ⟨⟨fn, hf, by rw [hb]; rfl, hn⟩, fun m w us hi hu => ?_⟩
  have hok : okL H.length V.length args := by rw [← hi.boxlen]; exact RelL.ok args us hu
  have hokH : ∀ (b : Nat) cs, H[b]? = some (some cs) → okL H.length V.length cs := fun b cs hbc => by
    rw [← hi.boxlen]; exact (hi.live b cs hbc).ok
  refine calls_of_wp_defers hf hb ?_
  refine wp_seq (wp_mono (wpIn_wide.1 (h hok hokH none _ m w _ m w V hi.boxlen hi.tiplen rfl (Ext.refl m w V) (st0 hi hu ha))) fun e a1 w1 ⟨T1, H1, V1, m1, k1, s1, x1⟩ => ?_)
  cases e with
  | normal =>
    have k1 : crunS P fn.ntmps ((pre ++ [(⟨dd, .defer ⟨.value fo, #[], tys⟩, ty, pos, after, none⟩ : Oper)]).map (·.dst)) pre T1 H1 V1 _ := k1
    refine wp_seq ((wpIn_wide (n := 0)).1 (wpIn_region_list ?_))
    generalize hops : pre ++ [(⟨dd, .defer ⟨.value fo, #[], tys⟩, ty, pos, after, none⟩ : Oper)] = ops at k1 ⊢
    rw [crunS, ← crun_lite] at k1
    have e : ops.toArray.toList = pre ++ [(⟨dd, .defer ⟨.value fo, #[], tys⟩, ty, pos, after, none⟩ : Oper)] := by rw [hops]
    rw [e]
    refine crun_soundR (ro := none) pre s1 k1 fun T2 H2 V2 a2 w2 m2 ⟨hd, hd2, caps, hcap, hcap2, hrest⟩ s2 x2 => ?_
    unfold wpListIn
    rw [if_pos (by simp [Region.wanted])]
    have ef : RelV m2 w2 V2 (evT T2 fo) (a2.eval fo) := ev_rel s2.inv.glob s2.tm fo
    rw [hcap, RelV] at ef
    obtain ⟨cus, eu, hr⟩ := ef
    have hrun : (execOp a2.eval ⟨dd, .defer ⟨.value fo, #[], tys⟩, ty, pos, after, none⟩).run P w2 = .ok (.defer { target := .fn (.func g) cus.toArray, args := #[] }) w2 := by
      simp [execOp, resolve, eu, Deferred.ofValue]
    refine ⟨fun _ _ => trivial, ?_⟩
    rw [show (fen none).round = none from rfl, Oper.semAt_none, hrun, Oper.uponIn_defer]
    unfold wpListIn
    have s3 : St ⟨[{ target := .fn (.func g) cus.toArray, args := #[] }], w2.heap.size, true⟩ fn.ntmps m2 w2 (({ a2 with defers := { target := .fn (.func g) cus.toArray, args := #[] } :: a2.defers } : Act).put dd undef) (tput dd (.v undef) T2) H2 V2 := by
      have hp := s2.tm.put (c := .v undef) (u := undef) (d := dd) (by rw [RelV]) (by rw [s2.size]; exact hd)
      refine ⟨s2.inv, ?_, by rw [put_size]; exact s2.size, by rw [put_defers, s2.df.eq rfl]; exact DOk.own _ _⟩
      intro j
      have := hp j
      cases dd <;> exact this
    generalize ({ a2 with defers := { target := .fn (.func g) cus.toArray, args := #[] } :: a2.defers } : Act).put dd undef = a3 at s3
    refine wp_seq ((wpIn_wide (n := 0)).1 (wpIn_region_list ?_))
    rw [show (#[(⟨dd2, .defer ⟨.value fo2, #[ao], tys2⟩, ty2, pos2, after2, none⟩ : Oper)] : Array Oper).toList = [⟨dd2, .defer ⟨.value fo2, #[ao], tys2⟩, ty2, pos2, after2, none⟩] from rfl]
    unfold wpListIn
    rw [if_pos (by simp [Region.wanted])]
    have ef2 : RelV m2 w2 V2 (evT (tput dd (.v undef) T2) fo2) (a3.eval fo2) := ev_rel s3.inv.glob s3.tm fo2
    rw [hcap2, RelV] at ef2
    obtain ⟨cus2, eu2, hr2⟩ := ef2
    have hc2 : cus2 = [] := by
      have := relL_length hr2
      simpa using this
    subst hc2
    have hrun2 : (execOp a3.eval ⟨dd2, .defer ⟨.value fo2, #[ao], tys2⟩, ty2, pos2, after2, none⟩).run P w2 = .ok (.defer { target := .fn (.func r) #[], args := #[a3.eval ao] }) w2 := by
      simp [execOp, resolve, eu2, Deferred.ofValue]
    refine ⟨fun _ _ => trivial, ?_⟩
    rw [show Fence.wide.round = none from rfl, Oper.semAt_none, hrun2, Oper.uponIn_defer]
    unfold wpListIn
    have s4 : St ⟨[{ target := .fn (.func r) #[], args := #[a3.eval ao] }, { target := .fn (.func g) cus.toArray, args := #[] }], w2.heap.size, true⟩ fn.ntmps m2 w2 (({ a3 with defers := { target := .fn (.func r) #[], args := #[a3.eval ao] } :: a3.defers } : Act).put dd2 undef) (tput dd2 (.v undef) (tput dd (.v undef) T2)) H2 V2 := by
      have hp := s3.tm.put (c := .v undef) (u := undef) (d := dd2) (by rw [RelV]) (by rw [s3.size]; exact hd2)
      refine ⟨s3.inv, ?_, by rw [put_size]; exact s3.size, by rw [put_defers, s3.df.eq rfl]; exact DOk.own _ _⟩
      intro j
      have := hp j
      cases dd2 <;> exact this
    have l1 := hi.boxlen
    have l2 := hi.tiplen
    refine wp_mono (wpIn_wide.1 (hrest none _ m2 w2 _ m2 w2 V2 s2.inv.boxlen s2.inv.tiplen rfl (Ext.refl _ _ _) s4)) fun e a' w' ⟨T', H', V', m', k1, k2, k4⟩ => ?_
    have k3 := (x1.trans x2).trans k4
    have fin : ∀ {w1 : World} {m1 : Gh} {H1 : Hp} {V1 : List Nat}, St ⟨[], w1.heap.size, true⟩ fn.ntmps m1 w1 { tmps := a'.tmps, defers := [] } T' H1 V1 → Ext m w V m1 w1 V1 → resK P fn.results.toList T' H1 (fun cs => Fin H.length V.length R (one cs) H1 V1) → Leaves P fn a'.tmps (fun e w' => ∃ u m' r H' V', e = .returned u ∧ R r H' V' ∧ Inv m' w' H' V' ∧ RelV m' w' V' r u ∧ Ext m w V m' w' V') [] .returning w1 := fun q2 q3 hk => by
      obtain ⟨v, z1, z2⟩ := fin_out (fn := fn) (a' := { tmps := a'.tmps, defers := [] }) rfl l1 l2 rfl q2 q3 hk
      refine ⟨v, z1, ?_⟩
      obtain ⟨u, m', r, H', V', e1, e2⟩ := z2
      cases e1
      exact ⟨_, m', r, H', V', rfl, e2⟩
    have s' : St ⟨[], w'.heap.size, true⟩ fn.ntmps m' w' { tmps := a'.tmps, defers := [] } T' H' V' := ⟨k2.inv, k2.tm, k2.size, DOk.own _ _⟩
    obtain ⟨⟨gn, g1, g2, g3⟩, hcd⟩ := hD
    have hb' : ¬ gn.body = none := by cases hbb : gn.body <;> simp_all
    have g3' : ¬ gn.name = "runtime.NumGoroutine" := by simpa using g3
    have ret : CR P g caps H' V' (fun H' V' => resK P fn.results.toList T' H' fun cs => Fin H.length V.length R (one cs) H' V') → Leaves P fn a'.tmps (fun e w' => ∃ u m' r H' V', e = .returned u ∧ R r H' V' ∧ Inv m' w' H' V' ∧ RelV m' w' V' r u ∧ Ext m w V m' w' V') a'.defers .returning w' := fun hk => by
      obtain ⟨⟨fn2, q1, q2, q3⟩, hcr⟩ := hk
      have qb : ¬ fn2.body = none := by cases hbb : fn2.body <;> simp_all
      have q3' : ¬ fn2.name = "runtime.NumGoroutine" := by simpa using q3
      rw [k2.df.eq rfl]
      refine leaves_cons (f := r) (args := #[a3.eval ao]) (by simp) (by simp [invoke, callFunc, g1, g3', hb']) ?_
      refine (hcd #[a3.eval ao] w' rfl).mono ?_
      rintro e u' w'' ⟨⟨v, rfl⟩, rfl, rfl⟩
      refine leaves_cons (f := g) (args := cus.toArray) (by simp [settle]) (by simp [invoke, callFunc, q1, q3', qb]) ?_
      refine (hcr m' _ cus k2.inv (RelL.mono k4 _ _ hr)).mono ?_
      rintro e u' w3 ⟨⟨v, rfl⟩, rfl, m3, H3, V3, p1, p2, p3⟩
      exact fin ⟨p2, RelT.mono p3 s'.tm, s'.size, DOk.own _ _⟩ (k3.trans p3) p1
    cases e with
    | normal => exact ret k1
    | ret => exact ret k1
    | _ => exact k1.elim
  | _ => exact k1.elim
end Go.Proofs.YtpedbpbmnchllaaGreatDoor
namespace Go.Proofs.YtpedbpbmnchllaaGreatDoor
open Go.Proofs
theorem demand_cc (H : Hp) (V : List Nat) (e : Int) : CC Tryz.prog 33 [cb true, ci e] H V (fun _ H' V' => H = H' ∧ V = V') := by
  refine CC.of_swp Tryz.func33 rfl (by kernel_rfl) (by rw [Tryz.ntmps33]; exact len_le _ _ rfl) fun hok hokH => ?_
  clear hok
  refine SWp.seq (Wp.s ?_)
  simp -implicitDefEqProofs [go_sem, args0]
  refine Wp.s ?_
  simp -implicitDefEqProofs [go_sem]
  exact Fin.self ⟨rfl, rfl⟩
theorem fok_cc (H : Hp) (V : List Nat)  : CC Tryz.prog 32 [er 0] H V (fun _ H' V' => H = H' ∧ V = V') := by
  refine CC.of_swp Tryz.func32 rfl (by kernel_rfl) (by rw [Tryz.ntmps32]; exact len_le _ _ rfl) fun hok hokH => ?_
  clear hok
  refine Wp.s ?_
  simp -implicitDefEqProofs [go_sem, args0]
  refine CC.mono (demand_cc _ _ 0) ?_
  rintro _ _ _ ⟨rfl, rfl⟩
  simp -implicitDefEqProofs [go_sem]
  exact Fin.self ⟨rfl, rfl⟩
theorem fsite_cc (H : Hp) (V : List Nat) (n : Int) (h0 : 0 ≤ n) (h1 : n < 4) : CC Tryz.prog 34 [ci n] H V (Pu (cb true) H V) := by
  refine CC.of_swp Tryz.func34 rfl (by kernel_rfl) (by rw [Tryz.ntmps34]; exact len_le _ _ rfl) fun hok hokH => ?_
  clear hok
  refine SWp.seq (Wp.s ?_)
  simp -implicitDefEqProofs [go_sem, args0]
  refine SWp.seq (Wp.s ?_)
  simp -implicitDefEqProofs [go_sem, h0, h1]
  refine Wp.s ?_
  simp -implicitDefEqProofs [go_sem]
  exact Fin.bool rfl hokH (by simp) (by simp)
theorem retResc : RetD Tryz.prog 30 1 := ⟨⟨_, Tryz.func30, rfl, by kernel_rfl⟩, fun us w hs => by
  obtain ⟨a, rfl⟩ : ∃ a, us = #[a] := by
    rcases us with ⟨l⟩
    match l, hs with
    | [a], _ => exact ⟨a, rfl⟩
  refine callsD_of_wpS Tryz.func30 rfl fun c₀ cs hu => ?_
  apply wpS_seq
  apply wpS_region
  simp [wpOpsS, go_sem, recoverD, hu, Tryz.ntmps30, Exit.thenS]
  apply wpS_seq
  apply wpS_seq
  apply wpS_region
  simp [wpOpsS, go_sem, recoverD, hu, Tryz.ntmps30, Exit.thenS]
  refine wpS_cond (t := true) (by simp [Act.eval, Array.replicate]) ?_
  simp only [if_true]
  refine wpS_of_wp (wp_ret ?_)
  cases c₀
  simp_all [bodyPostS, Exit.thenS, results, Tryz.results30]⟩
theorem begin1_cr (H : Hp) (V : List Nat) (a b c : Nat) (ha : H[a]? = some (some [er 0])) : CR Tryz.prog 29 [.ptr a 0, .ptr b 0, .ptr c 0] H V (fun H' V' => H' = H ∧ V' = V) := by
  refine CR.of_swp Tryz.func29 rfl (by kernel_rfl) Tryz.results29 (by rw [Tryz.ntmps29]; exact len_le _ _ rfl) ?_
  refine SWp.seq (Wp.s ?_)
  simp -implicitDefEqProofs [go_sem, args0, hbx_of ha]
  refine Wp.s ?_
  simp -implicitDefEqProofs [go_sem]
  exact Fin.self ⟨rfl, rfl⟩
theorem round1_cr (H : Hp) (V : List Nat) (a b c : Nat) (ha : H[a]? = some (some [er 0])) : CR Tryz.prog 50 [.ptr a 0, .ptr b 0, .ptr c 0] H V (fun H' V' => H' = H ∧ V' = V) := by
  refine CR.of_swp Tryz.func50 rfl (by kernel_rfl) Tryz.results50 (by rw [Tryz.ntmps50]; exact len_le _ _ rfl) ?_
  refine SWp.seq (Wp.s ?_)
  simp -implicitDefEqProofs [go_sem, args0, hbx_of ha]
  refine Wp.s ?_
  simp -implicitDefEqProofs [go_sem]
  exact Fin.self ⟨rfl, rfl⟩
structure Prc where
  fr : Int
  to : Int
  st : Int
  ep : Int
  cy : Int
  dn : Bool
def prcC (p : Prc) : List CV := [ci 3, ci p.fr, ci p.to, ci p.st, ci p.ep, ci p.cy, cb p.dn, cb false]
@[go_sem, simp] theorem prcC_len (p : Prc) : (prcC p).length = 8 := rfl
@[go_sem, simp] theorem prcC_all (p : Prc) : allOne (prcC p) = true := rfl
@[go_sem, simp] theorem prcC_take (p : Prc) : (prcC p).take 8 = prcC p := rfl
@[go_sem, simp] theorem prcC_drop (p : Prc) : (prcC p).drop 8 = [] := rfl
@[go_sem, simp] theorem prcC_0 (p : Prc) (h : 0 < (prcC p).length) : (prcC p)[0] = ci 3 := rfl
@[go_sem, simp] theorem prcC_1 (p : Prc) (h : 1 < (prcC p).length) : (prcC p)[1] = ci p.fr := rfl
@[go_sem, simp] theorem prcC_2 (p : Prc) (h : 2 < (prcC p).length) : (prcC p)[2] = ci p.to := rfl
@[go_sem, simp] theorem prcC_3 (p : Prc) (h : 3 < (prcC p).length) : (prcC p)[3] = ci p.st := rfl
@[go_sem, simp] theorem prcC_4 (p : Prc) (h : 4 < (prcC p).length) : (prcC p)[4] = ci p.ep := rfl
@[go_sem, simp] theorem prcC_5 (p : Prc) (h : 5 < (prcC p).length) : (prcC p)[5] = ci p.cy := rfl
@[go_sem, simp] theorem prcC_6 (p : Prc) (h : 6 < (prcC p).length) : (prcC p)[6] = cb p.dn := rfl
@[go_sem, simp] theorem prcC_7 (p : Prc) (h : 7 < (prcC p).length) : (prcC p)[7] = cb false := rfl
@[go_sem] theorem okL_prcC (jb jv : Nat) (p : Prc) : okL jb jv (prcC p) = True := by simp [prcC, okL, okV]
structure PrcOk (p : Prc) : Prop where
  f0 : 0 ≤ p.fr
  f1 : p.fr < 4
  t0 : 0 ≤ p.to
  t1 : p.to < 4
  ne : ¬ p.fr = p.to
  s0 : 0 ≤ p.st
  s1 : p.st ≤ 4096
  e0 : 1 ≤ p.ep
  e1 : p.ep ≤ 1073741824
  c0 : 0 ≤ p.cy
  c1 : p.cy ≤ 1073741824
  dn : p.dn = false
theorem formed_cc (H : Hp) (V : List Nat) (p : Prc) (h : PrcOk p) : CC Tryz.prog 51 [.agg (prcC p)] H V (fun _ H' V' => H = H' ∧ V = V') := by
  refine CC.of_swp Tryz.func51 rfl (by kernel_rfl) (by rw [Tryz.ntmps51]; exact len_le _ _ rfl) fun hok hokH => ?_
  clear hok
  refine SWp.seq (Wp.s ?_)
  simp -implicitDefEqProofs [go_sem, args0]
  refine SWp.seq (Wp.s ?_)
  simp -implicitDefEqProofs [go_sem]
  refine CC.mono (demand_cc _ _ 1) ?_
  rintro _ _ _ ⟨rfl, rfl⟩
  simp -implicitDefEqProofs [go_sem]
  refine SWp.seq (Wp.s ?_)
  simp -implicitDefEqProofs [go_sem]
  refine CC.mono (fsite_cc _ _ p.fr h.f0 h.f1) ?_
  rintro _ _ _ ⟨rfl, rfl, rfl⟩
  simp -implicitDefEqProofs [go_sem]
  refine CC.mono (fsite_cc _ _ p.to h.t0 h.t1) ?_
  rintro _ _ _ ⟨rfl, rfl, rfl⟩
  simp -implicitDefEqProofs [go_sem, h.ne]
  refine CC.mono (demand_cc _ _ 2) ?_
  rintro _ _ _ ⟨rfl, rfl⟩
  simp -implicitDefEqProofs [go_sem]
  refine SWp.seq (Wp.s ?_)
  simp -implicitDefEqProofs [go_sem, h.s0, h.s1, h.e0, h.e1, h.c0, h.c1]
  refine CC.mono (demand_cc _ _ 2) ?_
  rintro _ _ _ ⟨rfl, rfl⟩
  simp -implicitDefEqProofs [go_sem]
  refine Wp.s ?_
  simp -implicitDefEqProofs [go_sem, h.dn]
  refine CC.mono (demand_cc _ _ 12) ?_
  rintro _ _ _ ⟨rfl, rfl⟩
  simp -implicitDefEqProofs [go_sem]
  refine Fin.cut (H.length) V.length ⟨rfl, rfl⟩ (Nat.le_refl _) (Nat.le_refl _) (by simp) (by simp) (.refl _) (by simp [go_sem]) hokH
end Go.Proofs.YtpedbpbmnchllaaGreatDoor
namespace Go.Proofs.YtpedbpbmnchllaaGreatDoor
open Go.Proofs
theorem fhead_cc (H : Hp) (V : List Nat) (l : List Spn) (k : Nat) (hk : k < l.length) (hl : l.length ≤ 1000) (h0 : l.length = k + 1) : CC Tryz.prog 35 [.sl .sh 3 (l.map spC)] H V (Pu (.tup [ci (l[k]).ep, ci (l[k]).hi]) H V) := by
  refine CC.of_swp Tryz.func35 rfl (by kernel_rfl) (by rw [Tryz.ntmps35]; exact len_le _ _ rfl) fun hok hokH => ?_
  clear hok
  have w1 : IntKind.i64.wrap ((l.length : Int) - 1) = (k : Int) := by rw [IntWalk.i64_in _ ⟨by omega, by omega⟩]; omega
  have hne : ¬ l.length = 0 := by omega
  have hne' : ¬ (l.length : Int) = 0 := by omega
  refine SWp.seq (Wp.s ?_)
  simp -implicitDefEqProofs [go_sem, args0]
  refine SWp.seq (SWp.seq (Wp.s ?_))
  simp -implicitDefEqProofs [go_sem, hne, hne']
  refine Wp.s ?_
  simp -implicitDefEqProofs [go_sem]
  refine SWp.seq (Wp.s ?_)
  simp -implicitDefEqProofs [go_sem, w1, hk]
  refine SWp.seq (SWp.drawnT [] [] (.s 0 .pl <| .s 1 .pl <| .s 2 .pl <| .s 3 .pl <| .s 4 .pl <| .s 5 .pl <| .n) (by kernel_rfl) (by kernel_rfl) ?_)
  simp -implicitDefEqProofs [go_sem]
  refine Wp.s ?_
  simp -implicitDefEqProofs [go_sem]
  exact Fin.pu (.refl _) (by simp [go_sem]) hokH (by simp) (by simp)
theorem rlast_cc (H : Hp) (V : List Nat) (l : List Spn) (k : Nat) (hk : k < l.length) (hl : l.length ≤ 1000) (h0 : l.length = k + 1) : CC Tryz.prog 37 [.sl .sh 3 (l.map spC)] H V (Pu (ci (l[k]).hi) H V) := by
  refine CC.of_swp Tryz.func37 rfl (by kernel_rfl) (by rw [Tryz.ntmps37]; exact len_le _ _ rfl) fun hok hokH => ?_
  clear hok
  have w1 : IntKind.i64.wrap ((l.length : Int) - 1) = (k : Int) := by rw [IntWalk.i64_in _ ⟨by omega, by omega⟩]; omega
  have hne : ¬ l.length = 0 := by omega
  have hne' : ¬ (l.length : Int) = 0 := by omega
  refine SWp.seq (Wp.s ?_)
  simp -implicitDefEqProofs [go_sem, args0]
  refine SWp.seq (SWp.seq (Wp.s ?_))
  simp -implicitDefEqProofs [go_sem, hne, hne']
  refine Wp.s ?_
  simp -implicitDefEqProofs [go_sem]
  refine SWp.seq (Wp.s ?_)
  simp -implicitDefEqProofs [go_sem, w1, hk]
  refine Wp.s ?_
  simp -implicitDefEqProofs [go_sem]
  exact Fin.pu (.refl _) (by simp [go_sem]) hokH (by simp) (by simp)
def linO (x : Nat) : List Spn := [⟨1, 1, x⟩]
def linC (y z : Nat) : List Spn := [⟨1, 1, y⟩, ⟨2, (y : Int) + 1, z⟩]
theorem linO_ok {x : Nat} (h : 1 ≤ x ∧ x ≤ 1000) : LinOk (linO x) := ⟨by simp [linO], fun i hi => by
  obtain rfl : i = 0 := by simpa [linO] using hi
  simp [linO, spAt, spZ, inD]; omega⟩
theorem linC_ok {y z : Nat} (h : 1 ≤ y ∧ y < z ∧ z ≤ 1000) : LinOk (linC y z) := ⟨by simp [linC], fun i hi => by
  have : i < 2 := by simpa [linC] using hi
  rcases (show i = 0 ∨ i = 1 by omega) with rfl | rfl
  · simp [linC, spAt, spZ, inD]; omega
  · simp [linC, spAt, spZ, inD]; omega⟩
theorem ancestor_cc (H : Hp) (V : List Nat) (x y z : Nat) (h1 : 1 ≤ y) (h2 : y ≤ x) (h3 : x ≤ 1000) (h4 : y < z) (h5 : z ≤ 1000) : CC Tryz.prog 36 [.sl .sh 3 ((linO x).map spC), .sl .sh 3 ((linC y z).map spC)] H V (Pu (.tup [ci y, ci 1]) H V) := by
  refine CC.of_swp Tryz.func36 rfl (by kernel_rfl) (by rw [Tryz.ntmps36]; exact len_le _ _ rfl) fun hok hokH => ?_
  clear hok
  have lO := linO_ok (x := x) ⟨by omega, h3⟩
  have lC := linC_ok (y := y) (z := z) ⟨h1, h4, h5⟩
  have nO : (linO x).length = 1 := rfl
  have nC : (linC y z).length = 2 := rfl
  have gO : ∀ (h : 0 < (linO x).length), (linO x)[0] = ⟨1, 1, x⟩ := fun _ => rfl
  have gC : ∀ (h : 0 < (linC y z).length), (linC y z)[0] = ⟨1, 1, y⟩ := fun _ => rfl
  generalize linO x = a at lO nO gO
  generalize linC y z = b at lC nC gC
  have hmin : min (x : Int) y = y := by omega
  have hm12 : min (1 : Int) 2 = 1 := by decide
  refine SWp.seq (Wp.s ?_)
  simp -implicitDefEqProofs [go_sem, args0]
  refine SWp.seq (SWp.seq (Wp.s ?_))
  simp -implicitDefEqProofs [go_sem]
  refine CC.mono (correct_cc _ _ a lO) ?_
  rintro _ _ _ ⟨rfl, rfl, rfl⟩
  simp -implicitDefEqProofs [go_sem]
  refine CC.mono (correct_cc _ _ b lC) ?_
  rintro _ _ _ ⟨rfl, rfl, rfl⟩
  simp -implicitDefEqProofs [go_sem]
  refine Wp.s ?_
  simp -implicitDefEqProofs [go_sem]
  refine SWp.seq (Wp.s ?_)
  simp -implicitDefEqProofs [go_sem]
  refine SWp.join (α := Unit) (fun _ => ([(6, ci y), (7, ci 1)], H, V)) (fun _ => True) ?_ ?_
  · refine SWp.seq (Wp.s ?_)
    simp -implicitDefEqProofs [go_sem]
    refine SWp.block ?_
    refine SWp.loop (α := Nat) (fun i => ([(0, .sl .sh 3 (a.map spC)), (1, .sl .sh 3 (b.map spC)), (6, ci (if i = 0 then 0 else (y : Int))), (7, ci (if i = 0 then 0 else 1)), (8, ci i)], H, V)) (fun i => i ≤ 1) (fun i => 1 - i) 0 (Nat.zero_le _) (Sh.forget (by simp [go_sem]) rfl rfl) ?_
    intro i hi
    dsimp only
    refine SWp.seq (SWp.seq (SWp.drawnT [] [] (.s 0 .pl <| .s 1 .pl <| .s 2 .pl <| .s 3 .pl <| .s 4 .pl <| .s 5 .pl <| .s 6 .pl <| .s 7 .pl <| .s 8 .pl <| .s 9 .pl <| .s 10 .pl <| .s 11 .pl <| .s 12 .pl <| .s 13 .pl <| .s 14 .pl <| .s 15 .pl <| .s 16 .pl <| .s 17 .pl <| .s 18 .pl <| .s 19 .pl <| .n) (by kernel_rfl) (by kernel_rfl) ?_))
    rcases (show i = 1 ∨ i = 0 by omega) with rfl | rfl
    · simp -implicitDefEqProofs [go_sem, nO, nC, hm12]
      refine Wp.s ?_
      simp -implicitDefEqProofs [go_sem]
      exact Sh.forget (by simp [go_sem]) rfl rfl
    · have h0 : 0 < a.length := by omega
      have h0' : 0 < b.length := by omega
      simp -implicitDefEqProofs [go_sem, nO, nC, gO h0, gC h0', h0, h0', hm12]
      refine Wp.s ?_
      simp -implicitDefEqProofs [go_sem]
      refine SWp.seq (SWp.block (SWp.seq (SWp.drawnT [] [] (.s 0 .pl <| .s 1 .pl <| .s 2 .pl <| .s 3 .pl <| .s 4 .pl <| .s 5 .pl <| .s 6 .pl <| .s 7 .pl <| .s 8 .pl <| .s 9 .pl <| .s 10 .pl <| .s 11 .pl <| .s 12 .pl <| .s 13 .pl <| .s 14 .pl <| .s 15 .pl <| .s 16 .pl <| .s 17 .pl <| .n) (by kernel_rfl) (by kernel_rfl) ?_)))
      simp -implicitDefEqProofs [go_sem, gO h0, gC h0', h0, h0', hmin]
      refine SWp.seq (SWp.drawnT [] [] (.s 0 .pl <| .s 1 .pl <| .s 2 .pl <| .s 3 .pl <| .s 4 .pl <| .s 5 .pl <| .s 6 .pl <| .s 7 .pl <| .s 8 .pl <| .s 9 .pl <| .s 10 .pl <| .n) (by kernel_rfl) (by kernel_rfl) ?_)
      by_cases hxy : x = y
      · simp -implicitDefEqProofs [go_sem, gO h0, gC h0', h0, h0', hxy]
        refine Wp.s ?_
        simp -implicitDefEqProofs [go_sem]
        refine Wp.s ?_
        simp -implicitDefEqProofs [go_sem]
        refine ⟨1, by omega, by omega, ?_⟩
        exact Sh.forget (by simp [go_sem, show IntKind.i64.wrap (1 : Int) = 1 from IntWalk.i64_in _ ⟨by omega, by omega⟩]) rfl rfl
      · have hxy' : ¬ (x : Int) = y := by omega
        simp -implicitDefEqProofs [go_sem, gO h0, gC h0', h0, h0', hxy, hxy']
        refine Wp.s ?_
        simp -implicitDefEqProofs [go_sem]
        exact Sh.forget (by simp [go_sem, show IntKind.i64.wrap (1 : Int) = 1 from IntWalk.i64_in _ ⟨by omega, by omega⟩]) rfl rfl
  rintro _ -
  dsimp only
  refine SWp.seq (Wp.s ?_)
  simp -implicitDefEqProofs [go_sem]
  refine Wp.s ?_
  simp -implicitDefEqProofs [go_sem]
  exact Fin.pu (.refl _) (by simp [go_sem]) hokH (by simp) (by simp)
theorem between_cc2 (H : Hp) (V : List Nat) (p q : Pt) (h : Pt2 p q) : CC Tryz.prog 31 [.agg (ptC p), .agg (ptC q)] H V (Pu (.tup [.sl .sh 1 ((mkd p q).map mxsE), er 0]) H V) := by
  refine CC.of_swp Tryz.func31 rfl (by kernel_rfl) (by rw [Tryz.ntmps31]; exact len_le _ _ rfl) fun hok hokH => ?_
  clear hok
  have hpf := h.hp.few
  refine SWp.seq (Wp.s ?_)
  simp -implicitDefEqProofs [go_sem, args0]
  refine SWp.join (α := Unit) (fun _ => ([(2, .ptr H.length 0), (3, .ptr (H.length + 1) 0)], H ++ [some (ptC p), some (ptC q)], V)) (fun _ => True) ?_ ?_
  · refine SWp.seq (Wp.s ?_)
    simp -implicitDefEqProofs [go_sem]
    refine SWp.block ?_
    refine SWp.loop (α := Nat) (fun i => ([(2, .ptr H.length 0), (3, .ptr (H.length + 1) 0), (11, .sl .sh 4 ([p, q].map ptC)), (12, ci 2), (13, ci i)], H ++ [some (ptC p), some (ptC q)], V)) (fun i => i ≤ 2) (fun i => 2 - i) 0 (Nat.zero_le _) (Sh.forget (by simp [go_sem]) rfl rfl) ?_
    intro i hi
    dsimp only
    have hl2 : [p, q].length = 2 := rfl
    have hpq : ∀ x ∈ [p, q], PtOk x := fun x hx => by
      rcases List.mem_cons.1 hx with rfl | hx
      · exact h.hp
      · obtain rfl := List.mem_singleton.1 hx; exact h.hq
    generalize [p, q] = l at hl2 hpq
    refine SWp.seq (Wp.s ?_)
    simp -implicitDefEqProofs [go_sem]
    refine SWp.seq (Wp.s ?_)
    simp -implicitDefEqProofs [go_sem]
    refine ⟨fun hil => ?_, fun hil => Sh.forget (by simp [go_sem]) rfl rfl⟩
    have hx := hpq l[i] (List.getElem_mem (by omega))
    refine SWp.seq (SWp.block (SWp.seq (Wp.s ?_)))
    simp -implicitDefEqProofs [go_sem, (show i < l.length by omega)]
    refine SWp.seq (Wp.s ?_)
    simp -implicitDefEqProofs [go_sem]
    refine CC.mono (ptCheck_cc _ _ l[i] hx) ?_
    rintro _ _ _ ⟨rfl, rfl, rfl⟩
    simp -implicitDefEqProofs [go_sem]
    refine SWp.seq (Wp.s ?_)
    simp -implicitDefEqProofs [go_sem]
    refine Wp.s ?_
    simp -implicitDefEqProofs [go_sem]
    refine Wp.s ?_
    simp -implicitDefEqProofs [go_sem]
    refine ⟨i + 1, by omega, by omega, ?_⟩
    refine Sh.trim (L := [some (ptC p), some (ptC q)]) ?_ (by simp [go_sem, okE_pts]) hokH (by simp [go_sem]) (by simp) (by simp) (by simp)
    simp [go_sem, wrap_succ (show i ≤ 1000000000 by omega)]
  rintro _ -
  dsimp only
  refine SWp.seq (SWp.seq (Wp.s ?_))
  simp -implicitDefEqProofs [go_sem]
  refine CC.mono (alike_cc _ _ .sh .sh p.im q.im hpf h.sz) ?_
  rintro _ _ _ ⟨rfl, rfl, rfl⟩
  simp -implicitDefEqProofs [go_sem]
  refine Wp.s ?_
  simp -implicitDefEqProofs [go_sem]
  refine SWp.seq (Wp.s ?_)
  simp -implicitDefEqProofs [go_sem]
  refine CC.mono (marked_cc _ _ p q h) ?_
  rintro _ _ _ ⟨rfl, rfl, rfl⟩
  simp -implicitDefEqProofs [go_sem]
  refine Wp.s ?_
  simp -implicitDefEqProofs [go_sem]
  exact Fin.pu (.tup (.cons (.refl _) (.cons (.refl _) .nil))) (by simp [go_sem, okE_exss]) hokH (by simp) (by simp)
end Go.Proofs.YtpedbpbmnchllaaGreatDoor
namespace Go.Proofs.YtpedbpbmnchllaaGreatDoor
open Go.Proofs
def ctE (v : Nat) (a : List Sec) (e : Nat × Nat) : Wr := ⟨v, e.1, (a.drop e.1).take e.2⟩
def ctV (v : Nat) (a : List Sec) (l : List (Nat × Nat)) : List Wr := l.map (ctE v a)
def ctW (im : Img) (L : List (List (Nat × Nat))) (n : Nat) : List Wr := (List.range n).flatMap fun v => ctV v (imAt im v) (L.getD v [])
theorem ctW_succ (im : Img) (L : List (List (Nat × Nat))) (n : Nat) : ctW im L (n + 1) = ctW im L n ++ ctV n (imAt im n) (L.getD n []) := by
  rw [ctW, List.range_succ, List.flatMap_append]; simp [ctW]
theorem ctV_take (v : Nat) (a : List Sec) (l : List (Nat × Nat)) (k : Nat) (h : k < l.length) : ctV v a (l.take (k + 1)) = ctV v a (l.take k) ++ [ctE v a l[k]] := by
  rw [List.take_succ_eq_append_getElem h, ctV, List.map_append]; rfl
theorem ctV_len (v : Nat) (a : List Sec) (l : List (Nat × Nat)) : (ctV v a l).length = l.length := by simp [ctV]
def mx1 (b : Bm) : List (Nat × Nat) := runsN (elsN b.n b.w)
def mxP (d : List Bm) : List (List (Nat × Nat)) := d.map mx1
theorem okE_wrs2 (jb jv : Nat) (a b : List Wr) : okE jb jv (a.map wrC ++ b.map wrC) = True := by rw [← List.map_append]; exact okE_wrs ..
theorem okE_wrs3 (jb jv : Nat) (a b : List Wr) (c : Wr) : okE jb jv (a.map wrC ++ (b.map wrC ++ [wrC c])) = True := by
  rw [show a.map wrC ++ (b.map wrC ++ [wrC c]) = (a ++ (b ++ [c])).map wrC by simp]; exact okE_wrs ..
theorem wrC_ctE (v : Nat) (a : List Sec) (e : Nat × Nat) : wrC (ctE v a e) = [ci (v : Int), ci (e.1 : Int), .sl .sh 8 (List.take e.2 (List.drop e.1 (a.map secC)))] := by
  rw [ctE, wrC, List.map_take, List.map_drop]
theorem mx1_len {b : Bm} (ha : BmOk b) : (mx1 b).length ≤ 63 := by
  have h1 := runsN_len (elsN b.n b.w)
  have h2 := elsN_len b.n b.w
  have := ha.hi
  rw [mx1]; omega
theorem mx1_bd {b : Bm} : ∀ e ∈ mx1 b, e.1 + e.2 ≤ b.n := runsN_bd fun x hx => (elsN_mem.1 hx).1
theorem ctW_len {im : Img} {L : List (List (Nat × Nat))} (h : ∀ l ∈ L, l.length ≤ 63) : ∀ n, (ctW im L n).length ≤ n * 63
  | 0 => by simp [ctW]
  | n + 1 => by
    have ih := ctW_len (im := im) h n
    rw [ctW_succ, List.length_append, ctV_len]
    have : (L.getD n []).length ≤ 63 := by
      rcases Nat.lt_or_ge n L.length with h1 | h1
      · rw [List.getD_eq_getElem?_getD, List.getElem?_eq_getElem h1]; exact h _ (List.getElem_mem h1)
      · rw [List.getD_eq_getElem?_getD, List.getElem?_eq_none h1]; simp
    omega
set_option maxRecDepth 8000 in
set_option maxHeartbeats 1600000 in
theorem fmarked_cc (H : Hp) (V : List Nat) (p : Pt) (hp : PtOk p) (hd : p.dirty.length ≤ 8) : CC Tryz.prog 53 [.agg (ptC p)] H V (Pu (.sl .sh 3 ((ctW p.im (mxP p.dirty) p.dirty.length).map wrC)) H V) := by
  refine CC.of_swp Tryz.func53 rfl (by kernel_rfl) (by rw [Tryz.ntmps53]; exact len_le _ _ rfl) fun hok hokH => ?_
  clear hok
  have hlen := hp.len
  have hml : ∀ l ∈ mxP p.dirty, l.length ≤ 63 := fun l hl => by
    obtain ⟨b, hb, rfl⟩ := List.mem_map.1 hl
    obtain ⟨i, hi, rfl⟩ := List.getElem_of_mem hb
    exact mx1_len (hp.dirty i hi (by omega)).1
  refine SWp.seq (Wp.s ?_)
  simp -implicitDefEqProofs [go_sem, args0]
  refine SWp.seq (Wp.s ?_)
  simp -implicitDefEqProofs [go_sem]
  refine SWp.join (α := Nat) (fun k => ([(3, .sl (.own V.length k) 3 ((ctW p.im (mxP p.dirty) p.dirty.length).map wrC))], H ++ [some (ptC p)], V ++ [k])) (fun _ => True) ?_ ?_
  · refine SWp.seq (Wp.s ?_)
    simp -implicitDefEqProofs [go_sem]
    refine SWp.block ?_
    refine SWp.loop (α := Nat × Nat) (fun u => ([(1, .ptr H.length 0), (3, .sl (.own V.length u.2) 3 ((ctW p.im (mxP p.dirty) u.1).map wrC)), (9, .sl .sh 2 (p.dirty.map bmC)), (10, ci p.dirty.length), (11, ci u.1)], H ++ [some (ptC p)], V ++ [u.2])) (fun u => u.1 ≤ p.dirty.length) (fun u => p.dirty.length - u.1) (0, 0) (Nat.zero_le _) (Sh.tokT (by simp [go_sem, ctW]) rfl rfl) ?_
    rintro ⟨v, k⟩ hv
    dsimp only at hv ⊢
    refine SWp.seq (Wp.s ?_)
    simp -implicitDefEqProofs [go_sem]
    refine SWp.seq (Wp.s ?_)
    simp -implicitDefEqProofs [go_sem]
    refine ⟨fun h => ?_, fun h => ?_⟩
    case refine_2 =>
      obtain rfl : v = p.dirty.length := by omega
      exact ⟨k, Sh.forget (by simp [go_sem]) rfl rfl⟩
    have hvi : v < p.im.length := by omega
    obtain ⟨hb, hbn⟩ := hp.dirty v h hvi
    have hts := ctW_succ p.im (mxP p.dirty) v
    rw [show (mxP p.dirty).getD v [] = mx1 p.dirty[v] by simp [mxP, List.getD_eq_getElem?_getD, h], show imAt p.im v = p.im[v] by rw [imAt, List.getD_eq_getElem?_getD, List.getElem?_eq_getElem hvi]; rfl] at hts
    have htl := ctW_len (im := p.im) hml v
    have hE1 := mx1_len hb
    have hE2 : ∀ e ∈ mx1 p.dirty[v], e.1 + e.2 ≤ p.im[v].length := fun e he => by
      have := mx1_bd e he
      omega
    have hpl : p.im[v].length ≤ 63 := by rw [← hbn]; exact hb.hi
    refine SWp.seq (SWp.block (SWp.seq (Wp.s ?_)))
    simp -implicitDefEqProofs [go_sem, h]
    refine SWp.seq (Wp.s ?_)
    simp -implicitDefEqProofs [go_sem]
    refine CC.mono (extents_cc _ _ p.dirty[v] hb) ?_
    rintro _ _ _ ⟨rfl, rfl, rfl⟩
    rw [show runsN (elsN p.dirty[v].n p.dirty[v].w) = mx1 p.dirty[v] from rfl]
    simp -implicitDefEqProofs [go_sem]
    generalize mx1 p.dirty[v] = E at hE1 hE2 hts ⊢
    generalize ctW p.im (mxP p.dirty) v = Q at hts htl ⊢
    refine SWp.block ?_
    refine SWp.loop (α := Nat × Nat) (fun u => ([(1, .ptr H.length 0), (3, .sl (.own V.length u.2) 3 ((Q ++ ctV v p.im[v] (E.take u.1)).map wrC)), (4, ci v), (9, .sl .sh 2 (p.dirty.map bmC)), (10, ci p.dirty.length), (11, ci v), (17, .sl .sh 2 (E.map exC)), (18, ci E.length), (19, ci u.1)], H ++ [some (ptC p), some (bmC p.dirty[v])], V ++ [u.2])) (fun u => u.1 ≤ E.length) (fun u => E.length - u.1) (0, k) (Nat.zero_le _) (Sh.forget (by simp [go_sem, ctV]) rfl rfl) ?_
    rintro ⟨e, k⟩ he
    dsimp only at he ⊢
    refine SWp.seq (Wp.s ?_)
    simp -implicitDefEqProofs [go_sem]
    refine SWp.seq (Wp.s ?_)
    simp -implicitDefEqProofs [go_sem]
    refine ⟨fun hel => ?_, fun hel => ?_⟩
    case refine_2 =>
      obtain rfl : e = E.length := by omega
      rw [List.take_of_length_le (Nat.le_refl _)]
      refine Wp.s ?_
      simp -implicitDefEqProofs [go_sem]
      refine ⟨v + 1, by omega, by omega, k, ?_⟩
      rw [hts]
      refine Sh.trim (L := [some (ptC p)]) ?_ (by simp [go_sem, okE_wrs, okE_bms, okE_wrs2]) hokH (by simp [go_sem]) (by simp) (by simp) (by simp)
      simp [go_sem, wrap_succ (show v ≤ 1000000000 by omega)]
    have e1 := hE2 E[e] (List.getElem_mem hel)
    refine SWp.seq (SWp.block (SWp.seq (Wp.s ?_)))
    simp -implicitDefEqProofs [go_sem, hel]
    refine SWp.drawnT [] [] (.s 0 .pl <| .s 1 .pl <| .s 2 .pl <| .s 3 .pl <| .s 4 .pl <| .s 5 .pl <| .s 6 .pl <| .s 7 .pl <| .s 8 .pl <| .s 9 .pl <| .s 10 .pl <| .s 11 .pl <| .s 12 .pl <| .s 13 .pl <| .s 14 .pl <| .s 15 .pl <| .s 16 .pl <| .s 17 .pl <| .s 18 .pl <| .s 19 .pl <| .s 20 .pl <| .s 21 .pl <| .n) (by kernel_rfl) (by kernel_rfl) ?_
    have w1 : IntKind.i64.wrap ((E[e].1 : Int) + E[e].2) = ((E[e].1 + E[e].2 : Nat) : Int) := by rw [IntWalk.i64_in _ ⟨by omega, by omega⟩]; omega
    rw [show exC E[e] = [ci (E[e].1 : Nat), ci (E[e].2 : Nat)] from rfl]
    have tn : ((E[e].1 : Int) + E[e].2).toNat = E[e].1 + E[e].2 := by omega
    have hct := ctV_take v p.im[v] E e hel
    have hcl : (ctV v p.im[v] (E.take e)).length ≤ 63 := by rw [ctV_len, List.length_take]; omega
    have hdl : ((p.im[v].drop E[e].1).take E[e].2).length ≤ 63 := by rw [List.length_take, List.length_drop]; omega
    simp -implicitDefEqProofs [go_sem, hvi, w1, tn]
    refine ⟨by omega, by omega, ?_⟩
    rw [← List.map_take, ← List.map_drop, List.drop_take, Nat.add_sub_cancel_left]
    refine CC.mono (vcloneSec_cc _ _ .sh ((p.im[v].drop E[e].1).take E[e].2) (by omega)) ?_
    rintro _ _ _ ⟨rfl, rfl, rfl⟩
    simp -implicitDefEqProofs [go_sem]
    refine ⟨by omega, ?_⟩
    refine Wp.s ?_
    simp -implicitDefEqProofs [go_sem]
    refine ⟨e + 1, by omega, by omega, k + 1, ?_⟩
    rw [hct]
    refine Sh.trim (L := [some (ptC p), some (bmC p.dirty[v])]) ?_ (by simp [go_sem, okE_wrs, okE_bms, okE_exs, okE_wrs3]) hokH (by simp [go_sem]) (by simp) (by simp) (by simp)
    simp [go_sem, wrap_succ (show e ≤ 1000000000 by omega), wrC_ctE]
  rintro k -
  dsimp only
  refine SWp.seq (Wp.s ?_)
  simp -implicitDefEqProofs [go_sem]
  refine Wp.s ?_
  simp -implicitDefEqProofs [go_sem]
  exact Fin.pu (.sh _ _ _) (by simp [go_sem, okE_wrs]) hokH (by simp) (by simp)
end Go.Proofs.YtpedbpbmnchllaaGreatDoor
namespace Go.Proofs.YtpedbpbmnchllaaGreatDoor
open Go.Proofs
structure Duo (p q : Pt) (x y z : Nat) : Prop where
  h : Pt2 p q
  pl : p.lin = linO x
  ql : q.lin = linC y z
  y1 : 1 ≤ y
  yx : y ≤ x
  x1 : x ≤ 1000
  yz : y < z
  z1 : z ≤ 1000
  ps : p.site = 0
  qs : q.site = 1
  dl : p.dirty.length ≤ 8
set_option maxRecDepth 8000 in
set_option maxHeartbeats 1600000 in
theorem begin_cc (H : Hp) (V : List Nat) (p q : Pt) (x y z : Nat) (h : Duo p q x y z) : CC Tryz.prog 7 [.agg (ptC p), .agg (ptC q), ci 3] H V (Pu (.tup [.agg (prcC ⟨1, 0, 0, 3, y, false⟩), .sl .sh 1 ((mkd p q).map mxsE), er 0]) H V) := by
  have hpl := h.pl
  have hql := h.ql
  have hps := h.ps
  have hqs := h.qs
  have lO := linO_ok (x := x) ⟨by have := h.y1; have := h.yx; omega, h.x1⟩
  have lC := linC_ok (y := y) (z := z) ⟨h.y1, h.yz, h.z1⟩
  refine CC.of_defer2 (pre := [_]) (g := 29) Tryz.func7 rfl (by kernel_rfl) (by rw [Tryz.ntmps7]; exact len_le _ _ rfl) retResc fun hok hokH => ?_
  clear hok
  refine Wp.s ?_
  simp -implicitDefEqProofs [go_sem, args0]
  refine SWp.seq (Wp.s ?_)
  simp -implicitDefEqProofs [go_sem]
  refine CC.mono (between_cc2 _ _ p q h.h) ?_
  rintro _ _ _ ⟨rfl, rfl, rfl⟩
  simp -implicitDefEqProofs [go_sem]
  refine SWp.seq (Wp.s ?_)
  simp -implicitDefEqProofs [go_sem]
  refine CC.mono (fok_cc _ _) ?_
  rintro _ _ _ ⟨rfl, rfl⟩
  simp -implicitDefEqProofs [go_sem]
  refine SWp.seq (Wp.s ?_)
  simp -implicitDefEqProofs [go_sem, hps, hqs]
  refine CC.mono (fsite_cc _ _ 0 (by decide) (by decide)) ?_
  rintro _ _ _ ⟨rfl, rfl, rfl⟩
  simp -implicitDefEqProofs [go_sem, hqs]
  refine CC.mono (fsite_cc _ _ 1 (by decide) (by decide)) ?_
  rintro _ _ _ ⟨rfl, rfl, rfl⟩
  simp -implicitDefEqProofs [go_sem]
  refine CC.mono (demand_cc _ _ 2) ?_
  rintro _ _ _ ⟨rfl, rfl⟩
  simp -implicitDefEqProofs [go_sem]
  refine SWp.seq (Wp.s ?_)
  simp -implicitDefEqProofs [go_sem, hps, hqs]
  refine CC.mono (demand_cc _ _ 1) ?_
  rintro _ _ _ ⟨rfl, rfl⟩
  simp -implicitDefEqProofs [go_sem]
  refine SWp.seq (Wp.s ?_)
  simp -implicitDefEqProofs [go_sem, hpl]
  refine CC.mono (fhead_cc _ _ (linO x) 0 (by simp [linO]) (by simp [linO]) rfl) ?_
  rintro _ _ _ ⟨rfl, rfl, rfl⟩
  simp -implicitDefEqProofs [go_sem]
  refine SWp.seq (Wp.s ?_)
  simp -implicitDefEqProofs [go_sem, hql]
  refine CC.mono (fhead_cc _ _ (linC y z) 1 (by simp [linC]) (by simp [linC]) rfl) ?_
  rintro _ _ _ ⟨rfl, rfl, rfl⟩
  simp -implicitDefEqProofs [go_sem]
  refine SWp.seq (Wp.s ?_)
  simp -implicitDefEqProofs [go_sem, linO, linC]
  refine CC.mono (demand_cc _ _ 13) ?_
  rintro _ _ _ ⟨rfl, rfl⟩
  simp -implicitDefEqProofs [go_sem]
  refine SWp.seq (Wp.s ?_)
  simp -implicitDefEqProofs [go_sem]
  refine CC.mono (demand_cc _ _ 2) ?_
  rintro _ _ _ ⟨rfl, rfl⟩
  simp -implicitDefEqProofs [go_sem]
  refine SWp.seq (Wp.s ?_)
  simp -implicitDefEqProofs [go_sem, hpl, hql]
  refine CC.mono (ancestor_cc _ _ x y z h.y1 h.yx h.x1 h.yz h.z1) ?_
  rintro _ _ _ ⟨rfl, rfl, rfl⟩
  simp -implicitDefEqProofs [go_sem]
  refine SWp.seq (SWp.drawnT [H.length + 3] [8, 9, 10] (.s 0 .pl <| .s 1 .pl <| .s 2 .pl <| .s 3 .pl <| .s 4 .pl <| .s 5 .pl <| .s 6 .pl <| .s 7 .ld <| .s 8 .st <| .s 9 .st <| .s 10 .st <| .n) (by kernel_rfl) (by kernel_rfl) ?_)
  simp -implicitDefEqProofs [go_sem, hps, hqs]
  refine ⟨Kp_one _ _ _ 3 rfl, ?_⟩
  refine Wp.s ?_
  simp -implicitDefEqProofs [go_sem]
  refine CR.mono (begin1_cr _ _ _ _ _ (hget _ _ 4)) ?_
  rintro _ _ ⟨rfl, rfl⟩
  simp -implicitDefEqProofs [go_sem]
  exact Fin.pu (.refl _) (by simp [go_sem, okE_exss]) hokH (by simp) (by simp)
end Go.Proofs.YtpedbpbmnchllaaGreatDoor
namespace Go.Proofs.YtpedbpbmnchllaaGreatDoor
open Go.Proofs
theorem okE_intc (jb jv : Nat) (l : List Int) (n : Int) : okE jb jv (l.map ic ++ [ic n]) = True := by
  rw [show l.map ic ++ [ic n] = (l ++ [n]).map ic by simp]; exact okE_ints ..
theorem mkd_small {p q : Pt} (h : Pt2 p q) : ∀ l ∈ mkd p q, l.length ≤ 63 := fun l hl => by
  obtain ⟨i, hi, rfl⟩ := List.getElem_of_mem hl
  have hml := mkd_len p q
  have hq := h.len
  rw [mkd_get p q i hi (by omega) (by omega)]
  exact mk1_len (h.n i (by omega) (by omega)).1
set_option maxRecDepth 8000 in
set_option maxHeartbeats 3200000 in
theorem rcycle_cc (H : Hp) (V : List Nat) (p q : Pt) (x y z : Nat) (num tm : Int) (h : Duo p q x y z) (h1 : (y : Int) < num) (h2 : (z : Int) ≤ num) (hc : chkC ⟨y, num, tm, [], ctW q.im (mkd p q) q.im.length⟩ (imgSz q.im) = 0) (hws : WrS (ctW q.im (mkd p q) q.im.length)) : CC Tryz.prog 8 [.agg (ptC p), .agg (ptC q), ci num, ci tm, .sl .sh 1 ([].map ic)] H V (Pu (.tup [.agg (cycC ⟨y, num, tm, [], ctW q.im (mkd p q) q.im.length⟩), er 0]) H V) := by
  refine CC.of_swp Tryz.func8 rfl (by kernel_rfl) (by rw [Tryz.ntmps8]; exact len_le _ _ rfl) fun hok hokH => ?_
  clear hok
  have hpl := h.pl
  have hql := h.ql
  have hq := h.h.hq
  have hlen := hq.len
  have hpq := h.h.len
  have hdl := h.dl
  have hml := mkd_len p q
  have hms := mkd_small h.h
  refine SWp.seq (Wp.s ?_)
  simp -implicitDefEqProofs [go_sem, args0]
  refine SWp.seq (Wp.s ?_)
  simp -implicitDefEqProofs [go_sem]
  refine CC.mono (between_cc2 _ _ p q h.h) ?_
  rintro _ _ _ ⟨rfl, rfl, rfl⟩
  simp -implicitDefEqProofs [go_sem]
  refine SWp.seq (SWp.seq (Wp.s ?_))
  simp -implicitDefEqProofs [go_sem]
  refine Wp.s ?_
  simp -implicitDefEqProofs [go_sem]
  refine SWp.seq (Wp.s ?_)
  simp -implicitDefEqProofs [go_sem, hpl, hql]
  refine CC.mono (ancestor_cc _ _ x y z h.y1 h.yx h.x1 h.yz h.z1) ?_
  rintro _ _ _ ⟨rfl, rfl, rfl⟩
  simp -implicitDefEqProofs [go_sem]
  refine SWp.seq (SWp.seq (Wp.s ?_))
  simp -implicitDefEqProofs [go_sem, show ¬ num ≤ (y : Int) by omega, hql]
  refine CC.mono (rlast_cc _ _ (linC y z) 1 (by simp [linC]) (by simp [linC]) rfl) ?_
  rintro _ _ _ ⟨rfl, rfl, rfl⟩
  rw [show (linC y z)[1]'(by simp [linC]) = ⟨2, (y : Int) + 1, z⟩ from rfl]
  simp -implicitDefEqProofs [go_sem, show ¬ num < (z : Int) by omega]
  refine Wp.s ?_
  simp -implicitDefEqProofs [go_sem]
  refine SWp.seq (Wp.s ?_)
  simp -implicitDefEqProofs [go_sem]
  refine CC.mono (vcloneInt_cc _ _ .sh [] (by simp)) ?_
  rintro _ _ _ ⟨rfl, rfl, rfl⟩
  simp -implicitDefEqProofs [go_sem]
  refine SWp.seq (Wp.s ?_)
  simp -implicitDefEqProofs [go_sem]
  refine SWp.join (α := Nat × Nat) (fun k => ([(5, .ptr H.length 0), (6, .ptr (H.length + 1) 0), (10, .ptr (H.length + 2) 0), (11, ci 0), (16, .ptr (H.length + 3) 0), (17, .sl (.own V.length k.1) 1 ((imgSz q.im).map ic))], H ++ [some (ptC p), some (ptC q), some [ci 0, ci 0, ci 0, .v (.slice none 0 0), .v (.slice none 0 0)], some [ci y, ci num, ci tm, .sl .sh 1 [], .sl (.own (V.length + 1) k.2) 3 ((ctW q.im (mkd p q) q.im.length).map wrC)]], V ++ [k.1, k.2])) (fun _ => True) ?_ ?_
  · refine SWp.seq (Wp.s ?_)
    simp -implicitDefEqProofs [go_sem]
    refine SWp.block ?_
    refine SWp.loop (α := Nat × Nat × Nat) (fun u => ([(5, .ptr H.length 0), (6, .ptr (H.length + 1) 0), (10, .ptr (H.length + 2) 0), (11, ci 0), (12, .sl .sh 1 ((mkd p q).map mxsE)), (16, .ptr (H.length + 3) 0), (17, .sl (.own V.length u.2.1) 1 ((imgSz (q.im.take u.1)).map ic)), (59, .sl .sh 1 (q.im.map imE)), (60, ci q.im.length), (61, ci u.1)], H ++ [some (ptC p), some (ptC q), some [ci 0, ci 0, ci 0, .v (.slice none 0 0), .v (.slice none 0 0)], some [ci y, ci num, ci tm, .sl .sh 1 [], .sl (.own (V.length + 1) u.2.2) 3 ((ctW q.im (mkd p q) u.1).map wrC)]], V ++ [u.2.1, u.2.2])) (fun u => u.1 ≤ q.im.length) (fun u => q.im.length - u.1) (0, 0, 0) (Nat.zero_le _) ?_ ?_
    · refine Gst.trans (Gst.tokT (T' := [(5, .ptr H.length 0), (6, .ptr (H.length + 1) 0), (10, .ptr (H.length + 2) 0), (11, ci 0), (12, .sl .sh 1 ((mkd p q).map mxsE)), (16, .ptr (H.length + 3) 0), (17, .sl (.own V.length 0) 1 ((imgSz (q.im.take 0)).map ic)), (59, .sl .sh 1 (q.im.map imE)), (60, ci q.im.length), (61, ci 0)]) (by simp [go_sem, imgSz])) ?_
      exact Sh.tokL (b := H.length + 3) (hget _ _ 3) (ds := [ci y, ci num, ci tm, .sl .sh 1 [], .sl (.own (V.length + 1) 0) 3 ((ctW q.im (mkd p q) 0).map wrC)]) (by simp [go_sem, ctW]) (by simp [CV.isObj]) (by simp [go_sem]) (by simp) (by simp)
    rintro ⟨v, k1, k2⟩ hv
    dsimp only at hv ⊢
    refine SWp.seq (Wp.s ?_)
    simp -implicitDefEqProofs [go_sem]
    refine SWp.seq (Wp.s ?_)
    simp -implicitDefEqProofs [go_sem]
    refine ⟨fun hvl => ?_, fun hvl => ?_⟩
    case refine_2 =>
      obtain rfl : v = q.im.length := by omega
      rw [List.take_length]
      exact ⟨k1, k2, Sh.forget (by simp [go_sem]) rfl rfl⟩
    have hvd : v < (mkd p q).length := by omega
    obtain ⟨hb, hb2, hbn⟩ := h.h.n v (by omega) (by omega)
    have hqn := (hq.dirty v (by omega) hvl).2
    have hts := ctW_succ q.im (mkd p q) v
    rw [show (mkd p q).getD v [] = (mkd p q)[v] by simp [List.getD_eq_getElem?_getD, hvd], show imAt q.im v = q.im[v] by rw [imAt, List.getD_eq_getElem?_getD, List.getElem?_eq_getElem hvl]; rfl] at hts
    have htl := ctW_len (im := q.im) hms v
    have hmg := mkd_get p q v hvd (by omega) (by omega)
    have hE1 : ((mkd p q)[v]).length ≤ 63 := by rw [hmg]; exact mk1_len hb
    have hE2 : ∀ e ∈ (mkd p q)[v], e.1 + e.2 ≤ q.im[v].length := fun e he => by
      rw [hmg] at he
      have := mk1_bd e he
      omega
    have hpl' : q.im[v].length ≤ 63 := by rw [← hqn]; exact hb2.hi
    have hsz : (imgSz (q.im.take (v + 1))).map ic = (imgSz (q.im.take v)).map ic ++ [ic (q.im[v].length : Int)] := by
      rw [List.take_succ_eq_append_getElem hvl, imgSz, List.map_append, List.map_append]; rfl
    have hsl : (imgSz (q.im.take v)).length = v := by rw [imgSz, List.length_map, List.length_take]; omega
    generalize imgSz (q.im.take v) = sz0 at hsz hsl ⊢
    refine SWp.seq (SWp.block (SWp.seq (Wp.s ?_)))
    simp -implicitDefEqProofs [go_sem, hvl]
    refine SWp.seq (Wp.s ?_)
    simp -implicitDefEqProofs [go_sem]
    refine ⟨by omega, ?_⟩
    refine SWp.seq (Wp.s ?_)
    simp -implicitDefEqProofs [go_sem, hvd]
    generalize (mkd p q)[v] = E at hE1 hE2 hts ⊢
    generalize ctW q.im (mkd p q) v = Q at hts htl ⊢
    refine SWp.block ?_
    refine SWp.loop (α := Nat × Nat) (fun u => ([(5, .ptr H.length 0), (6, .ptr (H.length + 1) 0), (10, .ptr (H.length + 2) 0), (11, ci 0), (12, .sl .sh 1 ((mkd p q).map mxsE)), (16, .ptr (H.length + 3) 0), (17, .sl (.own V.length (k1 + 1)) 1 (sz0.map ic ++ [ic (q.im[v].length : Int)])), (18, ci v), (19, secsV q.im[v]), (59, .sl .sh 1 (q.im.map imE)), (60, ci q.im.length), (61, ci v), (74, .sl .sh 2 (E.map exC)), (75, ci E.length), (76, ci u.1)], H ++ [some (ptC p), some (ptC q), some [ci 0, ci 0, ci 0, .v (.slice none 0 0), .v (.slice none 0 0)], some [ci y, ci num, ci tm, .sl .sh 1 [], .sl (.own (V.length + 1) u.2) 3 ((Q ++ ctV v q.im[v] (E.take u.1)).map wrC)]], V ++ [k1 + 1, u.2])) (fun u => u.1 ≤ E.length) (fun u => E.length - u.1) (0, k2) (Nat.zero_le _) (Sh.forget (by simp [go_sem, ic]) (by simp [ctV]) (by simp)) ?_
    rintro ⟨e, k2⟩ he
    dsimp only at he ⊢
    refine SWp.seq (Wp.s ?_)
    simp -implicitDefEqProofs [go_sem]
    refine SWp.seq (Wp.s ?_)
    simp -implicitDefEqProofs [go_sem]
    refine ⟨fun hel => ?_, fun hel => ?_⟩
    case refine_2 =>
      obtain rfl : e = E.length := by omega
      rw [List.take_of_length_le (Nat.le_refl _)]
      refine Wp.s ?_
      simp -implicitDefEqProofs [go_sem]
      refine ⟨v + 1, by omega, by omega, k1 + 1, k2, ?_⟩
      rw [hts, hsz]
      refine Sh.forget ?_ (by simp) rfl
      simp [go_sem, wrap_succ (show v ≤ 1000000000 by omega)]
    have e1 := hE2 E[e] (List.getElem_mem hel)
    refine SWp.seq (SWp.block (SWp.seq (Wp.s ?_)))
    simp -implicitDefEqProofs [go_sem, hel]
    refine SWp.drawnT [] [19] (.s 0 .pl <| .s 1 .pl <| .s 2 .pl <| .s 3 .pl <| .s 4 .pl <| .s 5 .pl <| .s 6 .pl <| .s 7 .pl <| .s 8 .pl <| .s 9 .pl <| .s 10 .pl <| .s 11 .pl <| .s 12 .pl <| .s 13 .pl <| .s 14 .pl <| .s 15 .pl <| .s 16 .pl <| .s 17 .pl <| .s 18 .pl <| .s 19 .st <| .n) (by kernel_rfl) (by kernel_rfl) ?_
    have w1 : IntKind.i64.wrap ((E[e].1 : Int) + E[e].2) = ((E[e].1 + E[e].2 : Nat) : Int) := by rw [IntWalk.i64_in _ ⟨by omega, by omega⟩]; omega
    rw [show exC E[e] = [ci (E[e].1 : Nat), ci (E[e].2 : Nat)] from rfl]
    have tn : ((E[e].1 : Int) + E[e].2).toNat = E[e].1 + E[e].2 := by omega
    have hct := ctV_take v q.im[v] E e hel
    have hcl : (ctV v q.im[v] (E.take e)).length ≤ 63 := by rw [ctV_len, List.length_take]; omega
    have hdl : ((q.im[v].drop E[e].1).take E[e].2).length ≤ 63 := by rw [List.length_take, List.length_drop]; omega
    simp -implicitDefEqProofs [go_sem, w1, tn]
    refine ⟨by omega, by omega, ?_⟩
    rw [← List.map_take, ← List.map_drop, List.drop_take, Nat.add_sub_cancel_left]
    refine CC.mono (vcloneSec_cc _ _ .sh ((q.im[v].drop E[e].1).take E[e].2) (by omega)) ?_
    rintro _ _ _ ⟨rfl, rfl, rfl⟩
    simp -implicitDefEqProofs [go_sem]
    refine ⟨by omega, ?_⟩
    refine Wp.s ?_
    simp -implicitDefEqProofs [go_sem]
    refine ⟨e + 1, by omega, by omega, k2 + 1, ?_⟩
    rw [hct]
    refine Sh.trim (L := [some (ptC p), some (ptC q), some [ci 0, ci 0, ci 0, .v (.slice none 0 0), .v (.slice none 0 0)], some [ci y, ci num, ci tm, .sl .sh 1 [], .sl (.own (V.length + 1) (k2 + 1)) 3 (Q.map wrC ++ (ctV v q.im[v] (E.take e) ++ [ctE v q.im[v] E[e]]).map wrC)]]) ?_ (by simp [go_sem, okE_wrs, okE_exs, okE_exss, okE_ims, okE_wrs3, secsV, okE_secs, okE_intc]) hokH (by simp [go_sem, okL, okV, okE_wrs3]) (by simp) (by simp [wrC_ctE]) (by simp)
    simp [go_sem, wrap_succ (show e ≤ 1000000000 by omega), wrC_ctE]
  rintro ⟨k1, k2⟩ -
  dsimp only
  refine SWp.seq (SWp.seq (Wp.s ?_))
  simp -implicitDefEqProofs [go_sem]
  refine CC.le (.cons (.agg (.cons (.refl _) (.cons (.refl _) (.cons (.refl _) (.cons (.refl _) (.cons (.sh _ _ _) .nil)))))) (.cons (.sh _ _ _) .nil)) ?_
  rw [show [CV.v (.int .i64 (y : Int)), .v (.int .i64 num), .v (.int .i64 tm), .sl .sh 1 [], .sl .sh 3 ((ctW q.im (mkd p q) q.im.length).map wrC)] = cycC ⟨y, num, tm, [], ctW q.im (mkd p q) q.im.length⟩ from rfl]
  have hqf := hq.few
  have hcl := ctW_len (im := q.im) hms q.im.length
  refine CC.mono (cCheck_cc _ _ .sh ⟨y, num, tm, [], ctW q.im (mkd p q) q.im.length⟩ (imgSz q.im) (by show (ctW q.im (mkd p q) q.im.length).length ≤ _; omega) hws (by rw [imgSz, List.length_map]; omega) (by simp)) ?_
  rintro _ _ _ ⟨rfl, rfl, rfl⟩
  rw [hc]
  simp -implicitDefEqProofs [go_sem]
  refine SWp.seq (Wp.s ?_)
  simp -implicitDefEqProofs [go_sem]
  refine Wp.s ?_
  simp -implicitDefEqProofs [go_sem]
  refine SWp.seq (Wp.s ?_)
  simp -implicitDefEqProofs [go_sem]
  refine Wp.s ?_
  simp -implicitDefEqProofs [go_sem]
  refine Fin.pu (.tup (.cons (.agg (.cons (.refl _) (.cons (.refl _) (.cons (.refl _) (.cons (.refl _) (.cons (.sh _ _ _) .nil)))))) (.cons (.refl _) .nil))) ?_ hokH (by simp) (by simp)
  simp [go_sem, cycC, okL, okV, okE_wrs]
end Go.Proofs.YtpedbpbmnchllaaGreatDoor
