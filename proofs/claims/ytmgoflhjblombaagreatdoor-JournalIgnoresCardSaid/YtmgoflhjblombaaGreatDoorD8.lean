import Derived.Test.YtmgoflhjblombaaGreatDoorD7
import Derived.Test.YtmgoflhjblombaaGreatDoorD5
import Derived.Test.YtmgoflhjblombaaGreatDoorD3
import Derived.ProofKit
import Derived.OpenShut
import Derived.Below
set_option linter.unusedSimpArgs false
set_option linter.unusedVariables false
set_option linter.unusedSectionVars false
namespace Go.Proofs.YtmgoflhjblombaaGreatDoor
open Go.Proofs
def hdU (j : Jrn) (i : Nat) : Int := (j.head + sumI (j.sizes.take i)) % (j.count - 16)
set_option maxRecDepth 8000 in
set_option maxHeartbeats 1600000 in
theorem Release_cc (H : Hp) (V : List Nat) (d : Dk) (j : Jrn) (q : Int) (hd : DkS d) (hl : j.sizes.length ≤ 1000000000) : CC Tryz.prog 95 [.agg (dkC d), .agg (jrC j), ci q] H V (Pu (jtV (relJ d j q)) H V) := by
  refine CC.of_swp Tryz.func95 rfl (by kernel_rfl) (by rw [Tryz.ntmps95]; exact len_le _ _ rfl) fun hok hokH => ?_
  clear hok
  have bad : ∀ (e : Nat) {H' : Hp} {V' : List Nat}, relJ d j q = (zjr, [], e) → H'.take H.length = H → V'.take V.length = V → Fin H.length V.length (Pu (jtV (relJ d j q)) H V) (.tup [.agg zjC, .v (.slice none 0 0), er e]) H' V' := fun e H' V' h1 h2 h3 => by
    rw [h1]
    exact fin_jt zj_le (.nil 3 (by decide)) rfl hokH h2 h3
  refine SWp.seq (Wp.s ?_)
  simp -implicitDefEqProofs [go_sem, args0]
  refine SWp.seq (SWp.seq (Wp.s ?_))
  simp -implicitDefEqProofs [go_sem]
  refine CC.mono (sCheck_cc _ _ d hd) ?_
  rintro _ _ _ ⟨rfl, rfl, rfl⟩
  simp -implicitDefEqProofs [go_sem]
  refine SWp.seq (Wp.s ?_)
  by_cases hc : checkD d = 0
  case neg =>
    simp -implicitDefEqProofs [go_sem, hc]
    refine Wp.s ?_
    simp -implicitDefEqProofs [go_sem]
    exact bad _ (by rw [relJ, if_pos hc]) (by simp) (by simp)
  simp -implicitDefEqProofs [go_sem, hc]
  refine Wp.s ?_
  simp -implicitDefEqProofs [go_sem]
  refine SWp.seq (Wp.s ?_)
  simp -implicitDefEqProofs [go_sem]
  refine CC.mono (examine_cc _ _ j hl) ?_
  rintro _ _ _ ⟨u, rfl, rfl, rfl, hu⟩
  simp -implicitDefEqProofs [go_sem]
  refine SWp.seq (SWp.seq (Wp.s ?_))
  by_cases h : chkJ j = true
  case neg =>
    simp -implicitDefEqProofs [go_sem, h]
    refine Wp.s ?_
    simp -implicitDefEqProofs [go_sem]
    exact bad 3 (by rw [relJ, if_neg (by simp [hc]), if_pos (by simpa using h)]) (by simp) (by simp)
  obtain rfl := hu h
  have hn := chkJ_next h
  have hsu := chkJ_sum h
  have hva := chkJ_val h
  have hv := (validJ_iff _ _).1 hva
  have hfi := chkJ_first h
  simp -implicitDefEqProofs [go_sem, h]
  refine Wp.s ?_
  simp -implicitDefEqProofs [go_sem]
  refine SWp.seq (SWp.seq (Wp.s ?_))
  have w1 : IntKind.i64.wrap (j.first - 1) = j.first - 1 := IntWalk.i64_in _ ⟨by omega, by omega⟩
  by_cases c1 : q < j.first - 1
  · simp -implicitDefEqProofs [go_sem, w1, c1]
    refine Wp.s ?_
    simp -implicitDefEqProofs [go_sem]
    exact bad 2 (by rw [relJ, if_neg (by simp [hc]), if_neg (by simp [h]), if_pos (.inl c1)]) (by simp) (by simp)
  simp -implicitDefEqProofs [go_sem, w1, c1]
  refine CC.mono (next_cc _ _ j _ hn.1 hn.2) ?_
  rintro _ _ _ ⟨rfl, rfl, rfl⟩
  by_cases c2 : nextJ j ≤ q
  · simp -implicitDefEqProofs [go_sem, c2]
    refine Wp.s ?_
    simp -implicitDefEqProofs [go_sem]
    exact bad 2 (by rw [relJ, if_neg (by simp [hc]), if_neg (by simp [h]), if_pos (.inr c2)]) (by simp) (by simp)
  have hnx : nextJ j = j.first + j.sizes.length := rfl
  simp -implicitDefEqProofs [go_sem, c2]
  refine Wp.s ?_
  simp -implicitDefEqProofs [go_sem]
  refine SWp.seq (Wp.s ?_)
  simp -implicitDefEqProofs [go_sem]
  refine CC.mono (own_cc _ _ j _ hl) ?_
  rintro _ _ _ ⟨v, rfl, rfl, rfl⟩
  obtain ⟨n, hnn⟩ := Int.eq_ofNat_of_zero_le (show 0 ≤ q - j.first + 1 by omega)
  have hnl : n ≤ j.sizes.length := by omega
  have w2 : IntKind.i64.wrap (q - j.first) = q - j.first := IntWalk.i64_in _ ⟨by omega, by omega⟩
  have w3 : IntKind.i64.wrap (q - j.first + 1) = (n : Int) := by rw [IntWalk.i64_in _ ⟨by omega, by omega⟩]; omega
  simp -implicitDefEqProofs [go_sem]
  refine SWp.seq (Wp.s ?_)
  simp -implicitDefEqProofs [go_sem, w2, w3]
  have hrel : relJ d j q = if q = j.first - 1 then (j, [], 0) else
      if (storeS d j.start (superJ (hdU j n) (q + 1))).2 ≠ 0 then (zjr, [], (storeS d j.start (superJ (hdU j n) (q + 1))).2)
      else (⟨j.start, j.count, hdU j n, j.tail, q + 1, j.sizes.drop n⟩, (storeS d j.start (superJ (hdU j n) (q + 1))).1, 0) := by
    rw [relJ, if_neg (by simp [hc]), if_neg (by simp [h]), if_neg (by omega)]
    have : (q + 1 - j.first).toNat = n := by omega
    rw [this]; rfl
  refine SWp.seq (SWp.seq (Wp.s ?_))
  by_cases c3 : n = 0
  · subst c3
    simp -implicitDefEqProofs [go_sem]
    refine Wp.s ?_
    simp -implicitDefEqProofs [go_sem]
    rw [hrel, if_pos (by omega)]
    exact fin_jt (.agg (.cons (.refl _) (.cons (.refl _) (.cons (.refl _) (.cons (.refl _) (.cons (.refl _) (.cons (.sh _ _ _) .nil))))))) (.nil 3 (by decide)) rfl hokH (by simp) (by simp)
  rw [if_neg (by omega)] at hrel
  simp -implicitDefEqProofs [go_sem, c3]
  refine Wp.s ?_
  simp -implicitDefEqProofs [go_sem]
  have hjh : 0 ≤ j.head ∧ j.head < j.count - 16 := by
    have := (preJ_iff j).1 ((chkJ_iff j).1 h).2.1
    omega
  refine SWp.join (α := Unit) (fun _ => ([(3, .ptr H.length 0), (6, .ptr (H.length + 2) 0), (10, .ptr (H.length + 3) 0), (12, .ptr (H.length + 4) 0), (13, ci n)], H ++ [some (dkC d), some (jrC j), some zjC, some (stJ j (sumI j.sizes)), some [iv j.start, iv j.count, iv (hdU j n), iv j.tail, iv j.first, .sl (.own V.length v) 1 (j.sizes.map ic)]], V ++ [v])) (fun _ => True) ?_ ?_
  · refine SWp.seq (Wp.s ?_)
    simp -implicitDefEqProofs [go_sem]
    refine ⟨by omega, ?_⟩
    refine SWp.block ?_
    refine SWp.loop (α := Nat) (fun i => ([(3, .ptr H.length 0), (6, .ptr (H.length + 2) 0), (10, .ptr (H.length + 3) 0), (12, .ptr (H.length + 4) 0), (13, ci n), (59, .sl .sh 1 ((j.sizes.take n).map ic)), (60, ci n), (61, ci i)], H ++ [some (dkC d), some (jrC j), some zjC, some (stJ j (sumI j.sizes)), some [iv j.start, iv j.count, iv (hdU j i), iv j.tail, iv j.first, .sl (.own V.length v) 1 (j.sizes.map ic)]], V ++ [v])) (fun i => i ≤ n) (fun i => n - i) 0 (Nat.zero_le _) (Sh.forget ?_ ?_ rfl) ?_
    · simp [go_sem, List.map_take, Nat.min_eq_left hnl]
    · rw [show hdU j 0 = j.head by rw [hdU, List.take_zero]; show (j.head + 0) % _ = _; rw [Int.add_zero, Int.emod_eq_of_lt hjh.1 hjh.2]]
    intro i hi
    dsimp only
    refine SWp.seq (Wp.s ?_)
    simp -implicitDefEqProofs [go_sem]
    refine SWp.seq (Wp.s ?_)
    simp -implicitDefEqProofs [go_sem]
    refine ⟨fun h => ?_, fun h => ?_⟩
    case refine_2 =>
      obtain rfl : i = n := by omega
      exact Sh.forget (by simp [go_sem]) rfl rfl
    have hij : i < j.sizes.length := by omega
    have hsz := (okSz_iff _).1 (List.all_eq_true.1 ((chkJ_iff j).1 ‹chkJ j = true›).2.2.1 _ (List.getElem_mem hij))
    have hL : 0 < j.count - 16 := by omega
    have hb1 := Int.emod_nonneg (j.head + sumI (j.sizes.take i)) (show j.count - 16 ≠ 0 by omega)
    have hb2 := Int.emod_lt_of_pos (j.head + sumI (j.sizes.take i)) hL
    have hnx : (hdU j i + j.sizes[i]) % (j.count - 16) = hdU j (i + 1) := by
      rw [hdU, hdU, sumI_take _ _ hij, Int.emod_add_emod, Int.add_assoc]
    have w4 : IntKind.i64.wrap (hdU j i + j.sizes[i]) = hdU j i + j.sizes[i] := IntWalk.i64_in _ ⟨by unfold hdU; omega, by unfold hdU; omega⟩
    have t4 := Int.tmod_eq_emod_of_nonneg (b := j.count - 16) (show 0 ≤ hdU j i + j.sizes[i] by unfold hdU; omega)
    have hz : ¬ j.count - 16 = 0 := by omega
    have w5 : IntKind.i64.wrap ((i : Int) + 1) = (i : Int) + 1 := IntWalk.i64_in _ ⟨by omega, by omega⟩
    refine SWp.seq (SWp.block (SWp.seq (Wp.s ?_)))
    simp -implicitDefEqProofs [go_sem, h, hij]
    refine ⟨by first | omega | (simp; omega), ?_⟩
    refine SWp.drawnT [] [9] (.s 0 .pl <| .s 1 .pl <| .s 2 .pl <| .s 3 .pl <| .s 4 .pl <| .s 5 .pl <| .s 6 .pl <| .s 7 .pl <| .s 8 .pl <| .s 9 .st <| .n) (by kernel_rfl) (by kernel_rfl) ?_
    simp -implicitDefEqProofs [go_sem, w4]
    refine CC.mono (length_cc _ _ _ _ hva) ?_
    rintro _ _ _ ⟨rfl, rfl, rfl⟩
    simp -implicitDefEqProofs [go_sem, w4, t4, hz, hnx]
    refine Wp.s ?_
    simp -implicitDefEqProofs [go_sem, w5]
    exact ⟨i + 1, by omega, by omega, Sh.forget (by simp [go_sem]) rfl rfl⟩
  rintro _ -
  dsimp only
  refine SWp.seq (SWp.drawnT [] [9, 11] (.s 0 .pl <| .s 1 .pl <| .s 2 .pl <| .s 3 .pl <| .s 4 .pl <| .s 5 .pl <| .s 6 .pl <| .s 7 .pl <| .s 8 .pl <| .s 9 .st <| .s 10 .pl <| .s 11 .st <| .n) (by kernel_rfl) (by kernel_rfl) ?_)
  have w6 : IntKind.i64.wrap (j.first + (n : Int)) = q + 1 := by rw [IntWalk.i64_in _ ⟨by omega, by omega⟩]; omega
  simp -implicitDefEqProofs [go_sem, w6]
  refine ⟨hnl, ?_⟩
  refine SWp.seq (SWp.drawnT [] [] (.s 0 .pl <| .s 1 .pl <| .s 2 .pl <| .s 3 .pl <| .s 4 .pl <| .s 5 .pl <| .s 6 .pl <| .s 7 .pl <| .s 8 .pl <| .s 9 .pl <| .s 10 .pl <| .s 11 .pl <| .s 12 .pl <| .s 13 .pl <| .s 14 .pl <| .s 15 .pl <| .n) (by kernel_rfl) (by kernel_rfl) ?_)
  simp -implicitDefEqProofs [go_sem]
  refine CC.mono (payload_cc _ _ _ _) ?_
  rintro _ _ _ ⟨rfl, rfl, rfl⟩
  simp -implicitDefEqProofs [go_sem]
  refine CC.mono (sStore_cc _ _ d j.start .sh (superJ (hdU j n) (q + 1)) hd) ?_
  rintro _ _ _ ⟨rfl, rfl, rfl⟩
  generalize storeS d j.start (superJ (hdU j n) (q + 1)) = x at hrel ⊢
  obtain ⟨A, e⟩ := x
  dsimp only at hrel ⊢
  simp -implicitDefEqProofs [go_sem, stV]
  refine SWp.seq (SWp.seq (Wp.s ?_))
  by_cases he : e = 0
  case neg =>
    have he' : ¬ (e : Int) = 0 := by omega
    simp -implicitDefEqProofs [go_sem, he, he']
    refine Wp.s ?_
    simp -implicitDefEqProofs [go_sem]
    exact bad e (by rw [hrel, if_pos he]) (by simp) (by simp)
  subst he
  rw [if_neg (by simp)] at hrel
  simp -implicitDefEqProofs [go_sem]
  refine Wp.s ?_
  simp -implicitDefEqProofs [go_sem]
  refine SWp.seq (Wp.s ?_)
  simp -implicitDefEqProofs [go_sem]
  refine Wp.s ?_
  simp -implicitDefEqProofs [go_sem]
  rw [hrel]
  refine fin_jt (.agg (.cons (.refl _) (.cons (.refl _) (.cons (.refl _) (.cons (.refl _) (.cons (.refl _) (.cons ?_ .nil))))))) (.refl _) rfl hokH (by simp) (by simp)
  rw [← List.map_drop]
  exact .sh _ _ _
end Go.Proofs.YtmgoflhjblombaaGreatDoor
namespace Go.Proofs.YtmgoflhjblombaaGreatDoor
open Go.Proofs
structure Evt where
  kind : UInt8
  pay : List UInt8
  after : UInt8
  again : UInt8
  ch : List Int
def evC (x : Evt) : List CV := [.v (.int .u8 (x.kind.toNat : Int)), .sl .sh 1 (bs x.pay), .v (.int .u8 (x.after.toNat : Int)), .v (.int .u8 (x.again.toNat : Int)), .sl .sh 1 (x.ch.map ic)]
@[go_sem, simp] theorem evC_len (x : Evt) : (evC x).length = 5 := rfl
@[go_sem, simp] theorem evC_take (x : Evt) : (evC x).take 5 = evC x := rfl
@[go_sem, simp] theorem evC_drop (x : Evt) : (evC x).drop 5 = [] := rfl
@[go_sem, simp] theorem evC_all (x : Evt) : allOne (evC x) = true := rfl
@[go_sem, simp] theorem evC_0 (x : Evt) (h : 0 < (evC x).length) : (evC x)[0] = CV.v (.int .u8 (x.kind.toNat : Int)) := rfl
@[go_sem, simp] theorem evC_1 (x : Evt) (h : 1 < (evC x).length) : (evC x)[1] = .sl .sh 1 (bs x.pay) := rfl
@[go_sem, simp] theorem evC_2 (x : Evt) (h : 2 < (evC x).length) : (evC x)[2] = CV.v (.int .u8 (x.after.toNat : Int)) := rfl
@[go_sem, simp] theorem evC_3 (x : Evt) (h : 3 < (evC x).length) : (evC x)[3] = CV.v (.int .u8 (x.again.toNat : Int)) := rfl
@[go_sem, simp] theorem evC_4 (x : Evt) (h : 4 < (evC x).length) : (evC x)[4] = .sl .sh 1 (x.ch.map ic) := rfl
@[go_sem] theorem okL_evC (i j : Nat) (x : Evt) : okL i j (evC x) = True := by simp [evC, go_sem, okL, okV, okE_ints]
@[go_sem] theorem okE_evs (i j : Nat) (l : List Evt) : okE i j (l.map evC) = True := eq_true (okE_map evC l fun x => by rw [okL_evC]; trivial)
def paE (p : List UInt8) : List CV := [.sl .sh 1 (bs p)]
@[go_sem] theorem okL_paE (i j : Nat) (x : List UInt8) : okL i j (paE x) = True := by simp [paE, go_sem, okL, okV]
@[go_sem] theorem okE_pas (i j : Nat) (l : List (List UInt8)) : okE i j (l.map paE) = True := eq_true (okE_map paE l fun x => by rw [okL_paE]; trivial)
@[go_sem, simp] theorem paE_len (x : List UInt8) : (paE x).length = 1 := rfl
@[go_sem, simp] theorem paE_0 (x : List UInt8) (h : 0 < (paE x).length) : (paE x)[0] = .sl .sh 1 (bs x) := rfl
structure StJ where
  d : Dk
  j : Jrn
  known : List (List UInt8)
  right : Bool
def knV (l : List (List UInt8)) : CV := .sl .sh 1 (l.map paE)
def stjC (s : StJ) : List CV := [secsV s.d.stable, cachV s.d.cache, .v (.int .i64 s.j.start), .v (.int .i64 s.j.count), .v (.int .i64 s.j.head), .v (.int .i64 s.j.tail), .v (.int .i64 s.j.first), .sl .sh 1 (s.j.sizes.map ic), knV s.known, cb s.right]
@[go_sem, simp] theorem stjC_len (x : StJ) : (stjC x).length = 10 := rfl
@[go_sem, simp] theorem stjC_take (x : StJ) : (stjC x).take 10 = stjC x := rfl
@[go_sem, simp] theorem stjC_drop (x : StJ) : (stjC x).drop 10 = [] := rfl
@[go_sem, simp] theorem stjC_all (x : StJ) : allOne (stjC x) = true := rfl
@[go_sem, simp] theorem stjC_d (x : StJ) : (stjC x).take 2 = dkC x.d := rfl
@[go_sem, simp] theorem stjC_j (x : StJ) : ((stjC x).drop 2).take 6 = jrC x.j := rfl
@[go_sem, simp] theorem stjC_8 (x : StJ) (h : 8 < (stjC x).length) : (stjC x)[8] = knV x.known := rfl
@[go_sem, simp] theorem stjC_9 (x : StJ) (h : 9 < (stjC x).length) : (stjC x)[9] = cb x.right := rfl
@[go_sem, simp] theorem stjC_6 (x : StJ) (h : 6 < (stjC x).length) : (stjC x)[6] = .v (.int .i64 x.j.first) := rfl
@[go_sem] theorem okL_stjC (i j : Nat) (s : StJ) : okL i j (stjC s) = True := by simp [stjC, knV, go_sem, okL, okV, okE_ints, okE_secs, okE_cach]
/-! ### Small events -/
def smE (x : Evt) : Bool := decide (x.pay.length ≤ 60) && decide (x.ch.length ≤ 60)
def smU (l : List Evt) (i : Nat) : Bool := (l.take i).all smE
def SmI (l : List Evt) (i : Nat) : Prop := smU l i = true
def smallB (l : List Evt) : Bool := l.all smE && decide (l.length ≤ 24)
theorem small_cc (H : Hp) (V : List Nat) (l : List Evt) (hl : l.length ≤ 9223372036854775807) : CC Tryz.prog 15 [.sl .sh 5 (l.map evC)] H V (Pu (cb (smallB l)) H V) := by
  refine CC.of_swp Tryz.func15 rfl (by kernel_rfl) (by rw [Tryz.ntmps15]; exact len_le _ _ rfl) fun hok hokH => ?_
  clear hok
  refine SWp.seq (Wp.s ?_)
  simp -implicitDefEqProofs [go_sem, args0]
  refine SWp.join (α := Unit) (fun _ => ([(0, .sl .sh 5 (l.map evC))], H, V)) (fun _ => SmI l l.length) ?_ ?_
  · refine SWp.seq (Wp.s ?_)
    simp -implicitDefEqProofs [go_sem]
    refine SWp.block ?_
    refine SWp.loop (α := Nat) (fun i => ([(0, .sl .sh 5 (l.map evC)), (3, ci i)], H, V)) (fun i => i ≤ l.length ∧ SmI l i) (fun i => l.length - i) 0 ⟨Nat.zero_le _, rfl⟩ (Sh.forget (by simp [go_sem]) rfl rfl) ?_
    rintro i ⟨hi, hp⟩
    dsimp only
    refine SWp.seq (SWp.seq (Wp.s ?_))
    by_cases h : i < l.length
    case neg =>
      obtain rfl : i = l.length := by omega
      simp -implicitDefEqProofs [go_sem]
      refine Wp.s ?_
      simp -implicitDefEqProofs [go_sem]
      exact ⟨hp, Sh.forget (by simp [go_sem]) rfl rfl⟩
    simp -implicitDefEqProofs [go_sem, h]
    refine Wp.s ?_
    simp -implicitDefEqProofs [go_sem]
    refine SWp.seq (SWp.block (SWp.seq (Wp.s ?_)))
    have no : smE l[i] = false → smallB l = false := fun e => by
      rw [smallB, Bool.and_eq_false_iff]
      left
      rw [List.all_eq_false]
      exact ⟨l[i], List.getElem_mem h, by rw [e]; decide⟩
    by_cases h1 : 60 < l[i].pay.length
    · have h1' : 60 < (l[i].pay.length : Int) := by omega
      simp -implicitDefEqProofs [go_sem, h, h1']
      refine Wp.s ?_
      simp -implicitDefEqProofs [go_sem]
      exact Fin.bool (no (by rw [smE, decide_eq_false (by omega)]; rfl)).symm hokH (by simp) (by simp)
    have h1' : ¬ 60 < (l[i].pay.length : Int) := by omega
    by_cases h2 : 60 < l[i].ch.length
    · have h2' : 60 < (l[i].ch.length : Int) := by omega
      simp -implicitDefEqProofs [go_sem, h, h1', h2']
      refine Wp.s ?_
      simp -implicitDefEqProofs [go_sem]
      exact Fin.bool (no (by rw [smE, decide_eq_false (p := l[i].ch.length ≤ 60) (by omega), Bool.and_false])).symm hokH (by simp) (by simp)
    have h2' : ¬ 60 < (l[i].ch.length : Int) := by omega
    simp -implicitDefEqProofs [go_sem, h, h1', h2']
    refine Wp.s ?_
    simp -implicitDefEqProofs [go_sem]
    refine Wp.s ?_
    simp -implicitDefEqProofs [go_sem]
    refine ⟨i + 1, ⟨by omega, ?_⟩, by omega, Sh.forget ?_ rfl rfl⟩
    · unfold SmI smU at *
      rw [List.take_succ_eq_append_getElem h, List.all_append, hp]
      simp [smE]; omega
    · simp [go_sem, wrap_big (show i < 9223372036854775807 by omega)]
  rintro _ he
  dsimp only
  refine SWp.seq (Wp.s ?_)
  simp -implicitDefEqProofs [go_sem]
  refine Wp.s ?_
  simp -implicitDefEqProofs [go_sem]
  have he' : l.all smE = true := by unfold SmI smU at he; rwa [List.take_length] at he
  exact Fin.bool (by rw [smallB, he']; simp; omega) hokH (by simp) (by simp)
theorem small_ok {l : List Evt} (h : smallB l = true) : l.length ≤ 24 ∧ ∀ x ∈ l, x.pay.length ≤ 60 ∧ x.ch.length ≤ 60 := by
  rw [smallB, Bool.and_eq_true, List.all_eq_true, decide_eq_true_eq] at h
  refine ⟨h.2, fun x hx => ?_⟩
  have := h.1 x hx
  simpa [smE] using this
def sameB (l : List Rcd) (w : List (List UInt8)) : Bool := decide (l.map Rcd.pay = w) && l.all (fun r => decide (r.kind = 7))
def SaI (l : List Rcd) (w : List (List UInt8)) (i : Nat) : Prop := ((l.take i).map Rcd.pay = w.take i) ∧ (l.take i).all (fun r => decide (r.kind = 7)) = true
theorem same_cc (H : Hp) (V : List Nat) (l : List Rcd) (w : List (List UInt8)) (hl : l.length ≤ 1000000000) : CC Tryz.prog 18 [.sl .sh 3 (l.map rcC), knV w] H V (Pu (cb (sameB l w)) H V) := by
  refine CC.of_swp Tryz.func18 rfl (by kernel_rfl) (by rw [Tryz.ntmps18]; exact len_le _ _ rfl) fun hok hokH => ?_
  clear hok
  refine SWp.seq (Wp.s ?_)
  simp -implicitDefEqProofs [go_sem, args0, knV]
  refine SWp.seq (SWp.seq (Wp.s ?_))
  by_cases hn : l.length = w.length
  case neg =>
    have hn' : ¬ (l.length : Int) = (w.length : Int) := by omega
    simp -implicitDefEqProofs [go_sem, hn, hn']
    refine Wp.s ?_
    simp -implicitDefEqProofs [go_sem]
    refine Fin.bool ?_ hokH (by simp) (by simp)
    symm
    rw [sameB, decide_eq_false (fun e => hn (by rw [← e, List.length_map])), Bool.false_and]
  have hn' : (l.length : Int) = (w.length : Int) := by omega
  simp -implicitDefEqProofs [go_sem, hn, hn']
  refine Wp.s ?_
  simp -implicitDefEqProofs [go_sem]
  refine SWp.join (α := Unit) (fun _ => ([], H, V)) (fun _ => SaI l w l.length) ?_ ?_
  · refine SWp.seq (Wp.s ?_)
    simp -implicitDefEqProofs [go_sem]
    refine SWp.block ?_
    refine SWp.loop (α := Nat) (fun i => ([(0, .sl .sh 3 (l.map rcC)), (1, .sl .sh 1 (w.map paE)), (5, ci i)], H, V)) (fun i => i ≤ l.length ∧ SaI l w i) (fun i => l.length - i) 0 ⟨Nat.zero_le _, rfl, rfl⟩ (Sh.forget (by simp [go_sem]) rfl rfl) ?_
    rintro i ⟨hi, hp⟩
    dsimp only
    refine SWp.seq (SWp.seq (Wp.s ?_))
    by_cases h : i < l.length
    case neg =>
      obtain rfl : i = l.length := by omega
      simp -implicitDefEqProofs [go_sem]
      refine Wp.s ?_
      simp -implicitDefEqProofs [go_sem]
      exact ⟨hp, Sh.forget (by simp [go_sem]) rfl rfl⟩
    have h2 : i < w.length := by omega
    simp -implicitDefEqProofs [go_sem, h]
    refine Wp.s ?_
    simp -implicitDefEqProofs [go_sem]
    refine SWp.seq (SWp.block (SWp.seq (SWp.drawnT [] [] (.s 0 .pl <| .s 1 .pl <| .s 2 .pl <| .s 3 .pl <| .s 4 .pl <| .s 5 .pl <| .s 6 .pl <| .s 7 .pl <| .s 8 .pl <| .s 9 .pl <| .s 10 .pl <| .s 11 .pl <| .s 12 .pl <| .s 13 .pl <| .s 14 .pl <| .s 15 .pl <| .s 16 .pl <| .s 17 .pl <| .s 18 .pl <| .n) (by kernel_rfl) (by kernel_rfl) ?_)))
    simp -implicitDefEqProofs [go_sem, h, h2]
    refine CC.mono (sEqual_cc _ _ .sh .sh l[i].pay w[i]) ?_
    rintro _ _ _ ⟨rfl, rfl, rfl⟩
    by_cases h3 : l[i].pay = w[i]
    case neg =>
      simp -implicitDefEqProofs [go_sem, h, h2, h3]
      refine Wp.s ?_
      simp -implicitDefEqProofs [go_sem]
      refine Fin.bool ?_ hokH (by simp) (by simp)
      symm
      rw [sameB, decide_eq_false (fun e => h3 ?_), Bool.false_and]
      have := congrArg (fun z => z[i]?) e
      simpa [h, h2] using this
    by_cases h4 : l[i].kind = 7
    case neg =>
      simp -implicitDefEqProofs [go_sem, h, h2, h3, h4]
      refine Wp.s ?_
      simp -implicitDefEqProofs [go_sem]
      refine Fin.bool ?_ hokH (by simp) (by simp)
      symm
      rw [sameB, Bool.and_eq_false_iff]
      right
      rw [List.all_eq_false]
      exact ⟨l[i], List.getElem_mem h, by simpa using h4⟩
    simp -implicitDefEqProofs [go_sem, h, h2, h3, h4]
    refine Wp.s ?_
    simp -implicitDefEqProofs [go_sem]
    refine Wp.s ?_
    simp -implicitDefEqProofs [go_sem]
    refine ⟨i + 1, ⟨by omega, ?_, ?_⟩, by omega, Sh.forget ?_ rfl rfl⟩
    · rw [List.take_succ_eq_append_getElem h, List.take_succ_eq_append_getElem h2, List.map_append, hp.1]
      simp [h3]
    · rw [List.take_succ_eq_append_getElem h, List.all_append, hp.2]
      simp [h4]
    · simp [go_sem, wrap_succ (show i ≤ 1000000000 by omega)]
  rintro _ ⟨h1, h2⟩
  dsimp only
  refine SWp.seq (Wp.s ?_)
  simp -implicitDefEqProofs [go_sem]
  refine Wp.s ?_
  simp -implicitDefEqProofs [go_sem]
  rw [List.take_length] at h1 h2
  rw [hn, List.take_length] at h1
  exact Fin.bool (by rw [sameB, h2, decide_eq_true h1]; rfl) hokH (by simp) (by simp)
theorem newR_eq (size : UInt8) : newR (rgN size + 7) = (⟨zerL (rgN size + 7).toNat, []⟩, 0) := by
  have := rgN_in size
  rw [newR, if_neg (by omega)]; rfl
theorem fmtR_eq (size : UInt8) : formatJ 3 (rgN size) = (newJ 3 (rgN size), (formatJ 3 (rgN size)).2.1, 0) := by
  have := fmtJ_eq (st := 3) (rgN_valid size)
  rw [show ((3 : Nat) : Int) = 3 from rfl] at this
  rw [this]
theorem fmtR_run (size : UInt8) : runR ⟨zerL (rgN size + 7).toNat, []⟩ (formatJ 3 (rgN size)).2.1 = (⟨newS (rgN size + 7).toNat 3, []⟩, (formatJ 3 (rgN size)).2.1.length, 0) ∧ (formatJ 3 (rgN size)).2.1.length ≤ 6 ∧ tot (formatJ 3 (rgN size)).2.1 ≤ 1000 := by
  have h := rgN_in size
  have e := fmtJ_eq (st := 3) (rgN_valid size)
  obtain ⟨h1, h2, h3⟩ := fmtJ_exec (st := 3) (n := (rgN size + 7).toNat) (rgN_valid size) (by omega)
  rw [show ((3 : Nat) : Int) = 3 from rfl] at h1 h2 h3 e
  refine ⟨?_, by rw [e]; simp, by rw [e]; simp [tot, opW, opS, copyS_len]; omega⟩
  rw [runR_exec (by rw [zerL_len]; omega) (by rw [zerL_len]; exact h2) (.inr h3), h1]
set_option maxRecDepth 8000 in
theorem beginJ_cc (H : Hp) (V : List Nat) (size : UInt8) : CC Tryz.prog 20 [.v (.int .u8 (size.toNat : Int))] H V (Pu (.tup [.agg (dkC ⟨newS (rgN size + 7).toNat 3, []⟩), .agg (jrC (newJ 3 (rgN size))), cb true]) H V) := by
  refine CC.of_swp Tryz.func20 rfl (by kernel_rfl) (by rw [Tryz.ntmps20]; exact len_le _ _ rfl) fun hok hokH => ?_
  clear hok
  have hr := rgN_in size
  obtain ⟨r1, r2, r3⟩ := fmtR_run size
  have w1 : IntKind.i64.wrap (rgN size + 7) = rgN size + 7 := IntWalk.i64_in _ ⟨by omega, by omega⟩
  refine SWp.seq (Wp.s ?_)
  simp -implicitDefEqProofs [go_sem, args0]
  refine SWp.seq (Wp.s ?_)
  simp -implicitDefEqProofs [go_sem]
  refine CC.mono (region_cc _ _ size) ?_
  rintro _ _ _ ⟨rfl, rfl, rfl⟩
  simp -implicitDefEqProofs [go_sem, w1]
  refine CC.mono (sNew_cc _ _ (rgN size + 7)) ?_
  rintro _ _ _ ⟨rfl, rfl, rfl⟩
  rw [newR_eq]
  simp -implicitDefEqProofs [go_sem]
  refine SWp.seq (Wp.s ?_)
  simp -implicitDefEqProofs [go_sem]
  refine CC.mono (region_cc _ _ size) ?_
  rintro _ _ _ ⟨rfl, rfl, rfl⟩
  simp -implicitDefEqProofs [go_sem]
  refine CC.mono (Format_cc _ _ 3 (rgN size)) ?_
  rintro _ _ _ ⟨rfl, rfl, rfl⟩
  rw [fmtR_eq]
  simp -implicitDefEqProofs [go_sem, jtV]
  refine SWp.seq (Wp.s ?_)
  simp -implicitDefEqProofs [go_sem]
  refine CC.mono (sRun_cc _ _ ⟨zerL (rgN size + 7).toNat, []⟩ (formatJ 3 (rgN size)).2.1 (by show (zerL _).length ≤ _; rw [zerL_len]; omega) (by show [].length + _ ≤ _; simp; omega) (by omega)) ?_
  rintro _ _ _ ⟨rfl, rfl, rfl⟩
  rw [r1]
  simp -implicitDefEqProofs [go_sem, runV]
  refine SWp.seq (SWp.drawnT [H.length + 3] [12, 13] (.s 0 .pl <| .s 1 .ld <| .s 2 .pl <| .s 3 .pl <| .s 4 .pl <| .s 5 .pl <| .s 6 .pl <| .s 7 .pl <| .s 8 .pl <| .s 9 .pl <| .s 10 .pl <| .s 11 .pl <| .s 12 .st <| .s 13 .st <| .s 14 .pl <| .n) (by kernel_rfl) (by kernel_rfl) ?_)
  simp -implicitDefEqProofs [go_sem]
  have hk : ∀ (x y a b c : Option (List CV)), Kp [H.length + 3] (H ++ [x, a, b, c]) (H ++ [y, a, b, c]) := fun x y a b c => Kp.keep fun b' hb => by
    obtain rfl : b' = H.length + 3 := by simpa using hb
    rw [hget, hget]; rfl
  have hk2 : ∀ (x y a b c : Option (List CV)), Kp [H.length + 3] (H ++ [a, x, b, c]) (H ++ [a, y, b, c]) := fun x y a b c => Kp.keep fun b' hb => by
    obtain rfl : b' = H.length + 3 := by simpa using hb
    rw [hget, hget]; rfl
  refine ⟨hk _ _ _ _ _, hk2 _ _ _ _ _, Wp.s ?_⟩
  simp -implicitDefEqProofs [go_sem]
  refine Fin.pu (.refl _) ?_ hokH (by simp) (by simp)
  simp [go_sem, okL, okV, okL_jrC]
end Go.Proofs.YtmgoflhjblombaaGreatDoor
namespace Go.Proofs.YtmgoflhjblombaaGreatDoor
open Go.Proofs
structure StJS (s : StJ) : Prop where
  st : s.d.stable.length ≤ 1000
  ca : s.d.cache.length ≤ 1000
  kn : s.known.length ≤ 1000
  sz : s.j.sizes.length ≤ 1000
  f0 : 0 ≤ s.j.first
  f1 : s.j.first ≤ 10000000000
def planF (s : StJ) (x : Evt) : Jrn × List Opn × List (List UInt8) × Bool :=
  if x.kind.toNat % 2 = 0 then ((appJ s.j 7 x.pay).1, (appJ s.j 7 x.pay).2.1, s.known ++ [x.pay], decide ((appJ s.j 7 x.pay).2.2 = 0))
  else ((relJ s.d s.j (s.j.first - 1 + ((x.pay.length % (s.known.length + 1) : Nat) : Int))).1, (relJ s.d s.j (s.j.first - 1 + ((x.pay.length % (s.known.length + 1) : Nat) : Int))).2.1, s.known.drop (x.pay.length % (s.known.length + 1)), decide ((relJ s.d s.j (s.j.first - 1 + ((x.pay.length % (s.known.length + 1) : Nat) : Int))).2.2 = 0))
def plV (r : Jrn × List Opn × List (List UInt8) × Bool) : CV := .tup [.agg (jrC r.1), opsV r.2.1, knV r.2.2.1, cb r.2.2.2]
theorem okV_plV (i j : Nat) (r : Jrn × List Opn × List (List UInt8) × Bool) : okV i j (plV r) := by
  simp [plV, knV, go_sem, okL, okV, okL_jrC, okE_ops, okE_pas]
set_option maxRecDepth 8000 in
theorem plan_cc (H : Hp) (V : List Nat) (s : StJ) (x : Evt) (hs : StJS s) (hx : x.pay.length ≤ 60) : CC Tryz.prog 70 [.agg (stjC s), .agg (evC x)] H V (Pu (plV (planF s x)) H V) := by
  refine CC.of_swp Tryz.func70 rfl (by kernel_rfl) (by rw [Tryz.ntmps70]; exact len_le _ _ rfl) fun hok hokH => ?_
  clear hok
  have hk := x.kind.toNat_lt
  obtain ⟨h1, h2, h3, h4, h5, h6⟩ := hs
  have hkp : ∀ (a b c c' : Option (List CV)) (L : Hp), Kp [H.length, H.length + 1] (H ++ a :: b :: c :: L) (H ++ a :: b :: c' :: L) := fun a b c c' L => Kp.keep fun y hy => by
    rcases List.mem_cons.1 hy with rfl | hy
    · rw [at_len, at_len]; rfl
    · obtain rfl : y = H.length + 1 := by simpa using hy
      rw [hget, hget]; rfl
  obtain ⟨k, hkk⟩ : ∃ k, k = x.kind.toNat % 2 := ⟨_, rfl⟩
  have m1 : (x.kind.toNat : Int).tmod 2 = (k : Int) := by rw [Int.tmod_eq_emod_of_nonneg (by omega)]; omega
  have m1' : (x.kind.toNat : Int) % 2 = (k : Int) := by omega
  have m2 : IntKind.u8.wrap (k : Int) = (k : Int) := by rw [IntKind.wrap_u8]; omega
  refine SWp.seq (Wp.s ?_)
  simp -implicitDefEqProofs [go_sem, args0]
  refine SWp.seq (SWp.seq (Wp.s ?_))
  by_cases h0 : k = 0
  · have hP : planF s x = ((appJ s.j 7 x.pay).1, (appJ s.j 7 x.pay).2.1, s.known ++ [x.pay], decide ((appJ s.j 7 x.pay).2.2 = 0)) := by rw [planF, if_pos (by omega)]
    simp -implicitDefEqProofs [go_sem, m1, m1', m2, h0]
    refine SWp.condT rfl ?_
    refine SWp.seq (Wp.s ?_)
    simp -implicitDefEqProofs [go_sem]
    refine CC.mono (Append_cc _ _ s.j 7 x.pay (by omega) (by omega)) ?_
    rintro _ _ _ ⟨rfl, rfl, rfl⟩
    generalize appJ s.j 7 x.pay = r at hP ⊢
    obtain ⟨j', ops, e⟩ := r
    dsimp only at hP
    simp -implicitDefEqProofs [go_sem, jtV]
    refine SWp.seq (SWp.drawnT [H.length, H.length + 1] [12] (.s 0 .pl <| .s 1 .pl <| .s 2 .pl <| .s 3 .pl <| .s 4 .ld <| .s 6 .pl <| .s 7 .ld <| .s 8 .pl <| .s 10 .pl <| .s 11 .pl <| .s 5 .pl <| .s 9 .pl <| .s 12 .st <| .s 13 .pl <| .s 14 .pl <| .s 15 .pl <| .n) (by kernel_rfl) (by kernel_rfl) ?_)
    simp -implicitDefEqProofs [go_sem, knV]
    refine ⟨by omega, by omega, hkp _ _ _ _ _, ?_⟩
    refine Wp.s ?_
    simp -implicitDefEqProofs [go_sem]
    rw [hP]
    refine Fin.pu (.tup (.cons (.refl _) (.cons (.refl _) (.cons ?_ (.cons (.refl _) .nil))))) (okV_plV _ _ (j', ops, s.known ++ [x.pay], decide (e = 0))) hokH (by simp) (by simp)
    rw [knV, List.map_append]
    exact .sh _ _ _
  · obtain ⟨n, hn⟩ : ∃ n, n = x.pay.length % (s.known.length + 1) := ⟨_, rfl⟩
    have hnl : n < s.known.length + 1 := by rw [hn]; exact Nat.mod_lt _ (by omega)
    have hP : planF s x = ((relJ s.d s.j (s.j.first - 1 + (n : Int))).1, (relJ s.d s.j (s.j.first - 1 + (n : Int))).2.1, s.known.drop n, decide ((relJ s.d s.j (s.j.first - 1 + (n : Int))).2.2 = 0)) := by rw [planF, if_neg (by omega), ← hn]
    have w1 : IntKind.i64.wrap ((s.known.length : Int) + 1) = (s.known.length : Int) + 1 := IntWalk.i64_in _ ⟨by omega, by omega⟩
    have t1 : (x.pay.length : Int).tmod ((s.known.length : Int) + 1) = (n : Int) := by
      rw [Int.tmod_eq_emod_of_nonneg (by omega), hn]; simp
    have t1' : (x.pay.length : Int) % ((s.known.length : Int) + 1) = (n : Int) := by rw [hn]; simp
    have w2 : IntKind.i64.wrap (n : Int) = (n : Int) := IntWalk.i64_in _ ⟨by omega, by omega⟩
    have w3 : IntKind.i64.wrap (s.j.first - 1) = s.j.first - 1 := IntWalk.i64_in _ ⟨by omega, by omega⟩
    have w4 : IntKind.i64.wrap (s.j.first - 1 + (n : Int)) = s.j.first - 1 + (n : Int) := IntWalk.i64_in _ ⟨by omega, by omega⟩
    have hz : ¬ (s.known.length : Int) + 1 = 0 := by omega
    have h0' : ¬ (k : Int) = 0 := by omega
    simp -implicitDefEqProofs [go_sem, m1, m1', m2, h0, h0']
    refine Wp.s ?_
    simp -implicitDefEqProofs [go_sem]
    refine SWp.seq (Wp.s ?_)
    simp -implicitDefEqProofs [go_sem, w1, t1, t1', w2, hz, knV]
    refine SWp.seq (Wp.s ?_)
    simp -implicitDefEqProofs [go_sem, w3, w4]
    refine CC.mono (Release_cc _ _ s.d s.j (s.j.first - 1 + (n : Int)) ⟨by omega, by omega⟩ (by omega)) ?_
    rintro _ _ _ ⟨rfl, rfl, rfl⟩
    generalize relJ s.d s.j (s.j.first - 1 + (n : Int)) = r at hP ⊢
    obtain ⟨j', ops, e⟩ := r
    dsimp only at hP
    simp -implicitDefEqProofs [go_sem, jtV]
    have hkp1 : ∀ (a b c c' : Option (List CV)) (L : Hp), Kp [H.length] (H ++ a :: b :: c :: L) (H ++ a :: b :: c' :: L) := fun a b c c' L => Kp.keep fun y hy => by
      obtain rfl : y = H.length := by simpa using hy
      rw [at_len, at_len]; rfl
    have hnl' : n ≤ s.known.length := by omega
    refine SWp.seq (SWp.drawnT [H.length] [8] (.s 0 .pl <| .s 1 .pl <| .s 2 .pl <| .s 3 .ld <| .s 4 .pl <| .s 5 .pl <| .s 6 .pl <| .s 7 .pl <| .s 8 .st <| .s 9 .pl <| .s 10 .pl <| .s 11 .pl <| .n) (by kernel_rfl) (by kernel_rfl) ?_)
    simp -implicitDefEqProofs [go_sem, knV, hnl']
    refine ⟨hkp1 _ _ _ _ _, ?_⟩
    refine Wp.s ?_
    simp -implicitDefEqProofs [go_sem]
    rw [hP]
    refine Fin.pu (.tup (.cons (.refl _) (.cons (.refl _) (.cons ?_ (.cons (.refl _) .nil))))) (okV_plV _ _ (j', ops, s.known.drop n, decide (e = 0))) hokH (by simp) (by simp)
    rw [knV, List.map_drop]
    exact .refl _
end Go.Proofs.YtmgoflhjblombaaGreatDoor
namespace Go.Proofs.YtmgoflhjblombaaGreatDoor
open Go.Proofs
def stj (s : List Sec) (j : Jrn) (rs : List Rcd) : StJ := ⟨⟨s, []⟩, j, rs.map Rcd.pay, true⟩
theorem plan_ok {size : UInt8} {N : Nat} {s : List Sec} {j : Jrn} {rs : List Rcd} (h : SI size N s j rs []) (hN : N ≤ 900) (x : Evt) :
    (planF (stj s j rs) x).2.2.2 = false ∨ ∃ ops j' rs2, planF (stj s j rs) x = (j', ops, rs2.map Rcd.pay, true) ∧ PlanOk size N s j rs ops j' rs2 := by
  have hsm := h.small
  by_cases k0 : x.kind.toNat % 2 = 0
  · rw [planF, if_pos k0]
    rcases h.app x.pay with e | ⟨ws, j', e, h1, h2, h3, h4⟩
    · left
      exact decide_eq_false e
    · right
      refine ⟨ws ++ [opS], j', rs ++ [⟨7, nextJ j, x.pay⟩], ?_, .of hsm.1 h1 h2 h3 h4⟩
      show ((appJ j 7 x.pay).1, (appJ j 7 x.pay).2.1, rs.map Rcd.pay ++ [x.pay], decide ((appJ j 7 x.pay).2.2 = 0)) = _
      rw [e, List.map_append]; rfl
  · rw [planF, if_neg k0]
    right
    show ∃ ops j' rs2, ((relJ ⟨s, []⟩ j (j.first - 1 + ((x.pay.length % ((rs.map Rcd.pay).length + 1) : Nat) : Int))).1, (relJ ⟨s, []⟩ j (j.first - 1 + ((x.pay.length % ((rs.map Rcd.pay).length + 1) : Nat) : Int))).2.1, (rs.map Rcd.pay).drop (x.pay.length % ((rs.map Rcd.pay).length + 1)), decide ((relJ ⟨s, []⟩ j (j.first - 1 + ((x.pay.length % ((rs.map Rcd.pay).length + 1) : Nat) : Int))).2.2 = 0)) = (j', ops, rs2.map Rcd.pay, true) ∧ PlanOk size N s j rs ops j' rs2
    have hn : x.pay.length % ((rs.map Rcd.pay).length + 1) < (rs.map Rcd.pay).length + 1 := Nat.mod_lt _ (by omega)
    rw [List.length_map] at hn ⊢
    generalize x.pay.length % (rs.length + 1) = n at hn ⊢
    by_cases n0 : n = 0
    · subst n0
      refine ⟨[], j, rs, ?_, .nil h⟩
      rw [show j.first - 1 + ((0 : Nat) : Int) = j.first - 1 by omega, h.rel0]; rfl
    · obtain ⟨ws, r1, r2, r3, r4, r5⟩ := h.rel (by omega) (by omega) n0
      refine ⟨ws ++ [opS], dropJ j n, rs.drop n, ?_, .of hsm.1 r2 r3 (fun s' hm => ⟨[], r4 s' hm⟩) r5⟩
      rw [r1, List.map_drop]; rfl
theorem stj_S {size : UInt8} {N : Nat} {s : List Sec} {j : Jrn} {rs : List Rcd} {l : List Sec} (h : SI size N s j rs l) : StJS (stj s j rs) := by
  have hsm := h.small
  have hp := (preJ_iff j).1 ((chkJ_iff j).1 h.rj.jd.chk).2.1
  refine ⟨by show s.length ≤ 1000; omega, by show ([] : List Cach).length ≤ 1000; simp, by show (rs.map Rcd.pay).length ≤ 1000; rw [List.length_map]; omega, by show j.sizes.length ≤ 1000; omega, by show 0 ≤ j.first; omega, by show j.first ≤ _; omega⟩
theorem sameB_self {rs : List Rcd} (h : ∀ r ∈ rs, r.kind = 7) : sameB rs (rs.map Rcd.pay) = true := by
  rw [sameB, decide_eq_true rfl, Bool.true_and, List.all_eq_true]
  intro r hr
  exact decide_eq_true (h r hr)
theorem sameB_eq {rs : List Rcd} {w : List (List UInt8)} (h : sameB rs w = true) : rs.map Rcd.pay = w := by
  rw [sameB, Bool.and_eq_true, decide_eq_true_eq] at h
  exact h.1
@[go_sem] theorem stj_d (s : List Sec) (j : Jrn) (rs : List Rcd) : (stj s j rs).d = ⟨s, []⟩ := rfl
@[go_sem] theorem stj_j (s : List Sec) (j : Jrn) (rs : List Rcd) : (stj s j rs).j = j := rfl
@[go_sem] theorem stj_k (s : List Sec) (j : Jrn) (rs : List Rcd) : (stj s j rs).known = rs.map Rcd.pay := rfl
@[go_sem] theorem stj_r (s : List Sec) (j : Jrn) (rs : List Rcd) : (stj s j rs).right = true := rfl
@[go_sem] theorem knV_one (l : List (List UInt8)) : (knV l).one = true := rfl
@[go_sem] theorem knV_cells (l : List (List UInt8)) : (knV l).cells = [knV l] := rfl
@[go_sem] theorem stjC_setd (d : Dk) (s : StJ) : dkC d ++ List.drop 2 (stjC s) = stjC ⟨d, s.j, s.known, s.right⟩ := rfl
@[go_sem] theorem stjC_setj (d : Dk) (j : Jrn) (s : StJ) : dkC d ++ (jrC j ++ List.drop 8 (stjC s)) = stjC ⟨d, j, s.known, s.right⟩ := rfl
@[go_sem] theorem stjC_setk (l : List (List UInt8)) (s : StJ) : List.take 8 (stjC s) ++ knV l :: List.drop 9 (stjC s) = stjC ⟨s.d, s.j, l, s.right⟩ := rfl
@[go_sem] theorem stjC_setr (b : Bool) (s : StJ) : List.take 9 (stjC s) ++ [cb b] = stjC ⟨s.d, s.j, s.known, b⟩ := rfl
end Go.Proofs.YtmgoflhjblombaaGreatDoor
namespace Go.Proofs.YtmgoflhjblombaaGreatDoor
open Go.Proofs
def pls (ws : List Opn) : List Cach := ws.flatMap fun o => puts o.pos o.data
def plc (ws : List Opn) : List Int := (pls ws).map Cach.pos
theorem plc_app (a b : List Opn) : plc (a ++ b) = plc a ++ plc b := by rw [plc, pls, List.flatMap_append, List.map_append]; rfl
theorem plc_s : plc [opS] = [] := rfl
theorem puts_pos (a : Nat) (l : List Sec) : (puts (a : Int) l).map Cach.pos = (List.range l.length).map fun i => ((a + i : Nat) : Int) := by
  refine List.ext_getElem (by simp [puts_len]) fun i h1 h2 => ?_
  simp [puts]
theorem runD_pls : ∀ (ws : List Opn) (s : List Sec) (c : List Cach) (i : Nat), WsOk s.length ws → runD ⟨s, c⟩ ws i = .ok (⟨s, c ++ pls ws⟩, i + ws.length)
  | [], s, c, i, _ => by rw [runD, pls, List.flatMap_nil, List.append_nil]; rfl
  | o :: ws, s, c, i, h => by
    obtain ⟨a, l, rfl, hl⟩ := h o (by simp)
    have h1 := runD_pls ws s (c ++ puts a l) (i + 1) (fun x hx => h x (by simp [hx]))
    rw [runD, step_w hl]
    show runD _ ws (i + 1) = _
    rw [h1, List.append_assoc, List.length_cons, show i + 1 + ws.length = i + (ws.length + 1) by omega]; rfl
theorem runR_pls {s : List Sec} {ws : List Opn} (hs : s.length ≤ 4096) (h : WsOk s.length ws) : runR ⟨s, []⟩ ws = (⟨s, pls ws⟩, ws.length, 0) := by
  rw [runR, if_neg (by simp [chk_nil hs]), runD_pls ws s [] 0 h]
  simp
theorem mem_pls {n : Nat} {ws : List Opn} (h : WsOk n ws) {q : Nat} {x : Sec} : InW ws q x ↔ (⟨(q : Int), x⟩ : Cach) ∈ pls ws := by
  rw [pls, List.mem_flatMap]
  constructor
  · rintro ⟨a, l, i, m1, m2, rfl⟩
    refine ⟨_, m1, ?_⟩
    show _ ∈ puts (a : Int) l
    rw [puts, List.mem_map]
    exact ⟨(x, i), List.mem_zipIdx_iff_getElem?.2 m2, by simp⟩
  · rintro ⟨o, ho, hm⟩
    obtain ⟨a, l, rfl, hl⟩ := h o ho
    obtain ⟨i, i1, i2⟩ := mem_puts (c := ⟨(q : Int), x⟩) hm
    exact ⟨a, l, i, ho, i1, by dsimp only at i2; omega⟩
theorem cach_uniq {cs : List Cach} (h : (cs.map Cach.pos).Nodup) {a b : Cach} (ha : a ∈ cs) (hb : b ∈ cs) (e : a.pos = b.pos) : a = b := by
  obtain ⟨i, hi, rfl⟩ := List.getElem_of_mem ha
  obtain ⟨k, hk, rfl⟩ := List.getElem_of_mem hb
  have hp := List.pairwise_iff_getElem.1 h
  rcases Nat.lt_trichotomy i k with q | q | q
  · exact absurd (by rw [List.getElem_map, List.getElem_map]; exact e) (hp i k (by simpa using hi) (by simpa using hk) q)
  · subst q; rfl
  · exact absurd (by rw [List.getElem_map, List.getElem_map]; exact e.symm) (hp k i (by simpa using hk) (by simpa using hi) q)
theorem SelS.mix {d : Dk} {sel : List Int} {d' : Dk} (h : SelS d sel d'.stable) (hc : d'.cache = []) : Mix d d' := by
  refine ⟨hc, h.1, fun i hi => ?_⟩
  by_cases c : (i : Int) ∈ sel
  · exact .inr ((h.2 i hi).1 c)
  · exact .inl ((h.2 i hi).2 c)
theorem ItrA.weak {d : Dk} {ops : List Opn} {a : Int} {l : List Int} {d' : Dk} {e : Nat} (h : ItrA d ops a l d' e) : ItrS d ops a d' e := by
  unfold ItrA at h
  unfold ItrS
  split
  · rwa [if_pos (by assumption)] at h
  · rw [if_neg (by assumption)] at h
    split
    · rwa [if_pos (by assumption)] at h
    · rw [if_neg (by assumption)] at h
      split
      · rwa [if_pos (by assumption)] at h
      · rw [if_neg (by assumption)] at h
        exact ⟨h.1, h.2.2.mix h.2.1⟩
theorem itrA_w {s : List Sec} {ws : List Opn} (hs : s.length ≤ 4096) (hw : WsOk s.length ws) {a : Nat} (ha : a ≤ ws.length + 1) {l : List Int} {s' : List Sec} {e : Nat} (h : ItrA ⟨s, []⟩ (ws ++ [opS]) a l ⟨s', []⟩ e) :
    (a ≤ ws.length ∧ SelS ⟨s, pls (ws.take a)⟩ (selF (srt (plc (ws.take a))) l) s') ∨ (a = ws.length + 1 ∧ s' = execS s ws) := by
  have hc := chk_nil hs
  rw [ItrA, if_neg (by simp [hc]), if_neg (by simp; omega), Int.toNat_natCast] at h
  by_cases ha2 : a = ws.length + 1
  · right
    rw [List.take_of_length_le (by simp; omega), runR_exec hs (fun o ho => by
      rcases List.mem_append.1 ho with ho | ho
      · exact hw.ok o ho
      · rw [List.mem_singleton] at ho; exact .inl ho) (.inr (by simp)), if_neg (by simp), execS_app, execS_s] at h
    obtain ⟨-, -, h1, h2⟩ := h
    refine ⟨ha2, List.ext_getElem h1 fun i hi1 hi2 => ?_⟩
    exact ((h2 i hi1).2 (fun hm => by have := srt_mem.1 (selF_mem _ _ _ hm); cases this)).2
  · left
    have hw' : WsOk s.length (ws.take a) := fun o ho => hw o (List.mem_of_mem_take ho)
    rw [List.take_append_of_le_length (by omega), runR_pls hs hw', if_neg (by simp)] at h
    exact ⟨by omega, h.2.2⟩
theorem pls_take (ws : List Opn) (a : Nat) : (plc (ws.take a)).Sublist (plc ws) := by
  have e : plc ws = plc (ws.take a) ++ plc (ws.drop a) := by rw [← plc_app, List.take_append_drop]
  rw [e]; exact List.sublist_append_left _ _
theorem nod_itr {s : List Sec} {ws : List Opn} (hs : s.length ≤ 4096) (hw : WsOk s.length ws) (hn : (plc ws).Nodup) (a : Nat) (ha : a ≤ ws.length + 1) : ((runR ⟨s, []⟩ ((ws ++ [opS]).take (a : Int).toNat)).1.cache.map Cach.pos).Nodup := by
  rw [Int.toNat_natCast]
  by_cases ha2 : a = ws.length + 1
  · rw [List.take_of_length_le (by simp; omega), runR_exec hs (fun o ho => by
      rcases List.mem_append.1 ho with ho | ho
      · exact hw.ok o ho
      · rw [List.mem_singleton] at ho; exact .inl ho) (.inr (by simp))]
    exact List.nodup_nil
  · have hw' : WsOk s.length (ws.take a) := fun o ho => hw o (List.mem_of_mem_take ho)
    rw [List.take_append_of_le_length (by omega), runR_pls hs hw']
    exact hn.sublist (pls_take ws a)
theorem sel_all {s s' : List Sec} {ws : List Opn} (hw : WsOk s.length ws) (hn : (plc ws).Nodup) {a : Nat} {sel : List Int} (h : SelS ⟨s, pls (ws.take a)⟩ sel s') (hs : ∀ q ∈ plc ws, q ∈ sel) : s' = execS s ws := by
  have hw' : WsOk s.length (ws.take a) := fun o ho => hw o (List.mem_of_mem_take ho)
  have hm := exec_mix ws s hw
  have hsub : ∀ c ∈ pls (ws.take a), c ∈ pls ws := fun c hc => by
    rw [pls, List.mem_flatMap] at hc ⊢
    obtain ⟨o, ho, hh⟩ := hc
    exact ⟨o, List.mem_of_mem_take ho, hh⟩
  refine List.ext_getElem? fun q => ?_
  by_cases hq : q < s'.length
  · by_cases c : (q : Int) ∈ sel
    · obtain ⟨x, x1, x2, x3⟩ := (h.2 q hq).1 c
      rw [List.getElem?_eq_getElem hq, x3]
      symm
      have hin : InW ws q x.data := (mem_pls hw).2 (by
        have := hsub x x1
        obtain ⟨p, d⟩ := x
        dsimp only at x2 ⊢
        rw [← x2]; exact this)
      refine exec_all ws s hw q x.data (fun y hy => ?_) (.inl hin)
      have := cach_uniq hn ((mem_pls hw).1 hy) ((mem_pls hw).1 hin) rfl
      exact congrArg Cach.data this
    · obtain ⟨h1, h2⟩ := (h.2 q hq).2 c
      rw [List.getElem?_eq_getElem hq, h2]
      rcases hm.2 q with e | ⟨x, hx, -⟩
      · rw [e]; exact (List.getElem?_eq_getElem h1).symm
      · exact absurd (hs q (List.mem_map.2 ⟨_, (mem_pls hw).1 hx, rfl⟩)) c
  · have h1 := h.1
    rw [List.getElem?_eq_none (by omega), List.getElem?_eq_none (by rw [execS_len]; dsimp only at h1; omega)]
theorem wrap_plc {s : List Sec} {j : Jrn} {rs : List Rcd} {st n hd u : Nat} (v : RV s j rs st n hd u) {l : List Sec} (hl : u + l.length ≤ n) (h1 : 1 ≤ l.length) :
    plc (wrapW j.start j.count j.tail l) = (List.range l.length).map fun i => ((st + 16 + posN hd n (u + i) : Nat) : Int) := by
  obtain ⟨v1, v2, v3, v4, v5, v6, v7, v8, v9, v10, v11, v12, v13, v14, v15, v16⟩ := v
  have hk : kW j.count j.tail l = min l.length (n - posN hd n u) := by
    have := posN_lt v7 v6
    rw [kW, v2, v8]; omega
  have ht := posN_lt v7 v6
  have hpos : ∀ i, i < l.length → posN hd n (u + i) = if i < n - posN hd n u then posN hd n u + i else posN hd n u + i - n := fun i hi => by
    unfold posN at ht ⊢
    split <;> split <;> split <;> omega
  generalize posN hd n u = t at *
  have e1 : opW (j.start + 16 + j.tail) (l.take (kW j.count j.tail l)) = opW ((st + 16 + t : Nat) : Int) (l.take (kW j.count j.tail l)) := opW_val _ _ (by omega)
  have e2 : opW (j.start + 16) (l.drop (kW j.count j.tail l)) = opW ((st + 16 : Nat) : Int) (l.drop (kW j.count j.tail l)) := opW_val _ _ (by omega)
  have one : ∀ (a : Nat) (m : List Sec), plc [opW a m] = (List.range m.length).map fun i => ((a + i : Nat) : Int) := fun a m => by
    rw [← puts_pos]; simp [plc, pls, opW]
  by_cases hlt : kW j.count j.tail l < l.length
  · rw [wrapW_1 hlt, e1, e2, show ∀ a b : Opn, [a, b] = [a] ++ [b] from fun _ _ => rfl, plc_app, one, one, List.length_take, List.length_drop]
    generalize kW j.count j.tail l = k at *
    refine List.ext_getElem (by simp; omega) fun i a b => ?_
    simp only [List.length_map, List.length_range] at b
    rw [List.getElem_append]
    simp only [List.getElem_map, List.getElem_range, List.length_map, List.length_range]
    rw [hpos i b]
    split <;> split <;> omega
  · rw [wrapW_0 hlt, e1, one, List.length_take]
    generalize kW j.count j.tail l = k at *
    refine List.ext_getElem (by simp; omega) fun i a b => ?_
    simp only [List.length_map, List.length_range] at b
    simp only [List.getElem_map, List.getElem_range]
    rw [hpos i b, if_pos (by omega)]
    omega
theorem wrap_nod {s : List Sec} {j : Jrn} {rs : List Rcd} {st n hd u : Nat} (v : RV s j rs st n hd u) {l : List Sec} (hl : u + l.length ≤ n) (h1 : 1 ≤ l.length) : (plc (wrapW j.start j.count j.tail l)).Nodup := by
  rw [wrap_plc v hl h1, List.nodup_iff_pairwise_ne, List.pairwise_map]
  refine List.Pairwise.imp_of_mem (fun {a b} ha hb hab e => hab ?_) (List.nodup_iff_pairwise_ne.1 List.nodup_range)
  rw [List.mem_range] at ha hb
  have := posN_inj v.ehn (by omega : u + a < n) (by omega : u + b < n) (by omega)
  omega
theorem wrap_shape (s c p : Int) {l m : List Sec} (h : l.length = m.length) (a : Nat) : plc ((wrapW s c p l).take a) = plc ((wrapW s c p m).take a) := by
  have one : ∀ (a : Int) (x y : List Sec), x.length = y.length → (puts a x).map Cach.pos = (puts a y).map Cach.pos := fun a x y e => by
    refine List.ext_getElem (by simp [puts_len, e]) fun i h1 h2 => ?_
    simp [puts]
  have hk : kW c p l = kW c p m := by rw [kW, kW, h]
  have two : ∀ (x y : Opn), x.pos = y.pos → x.data.length = y.data.length → (puts x.pos x.data).map Cach.pos = (puts y.pos y.data).map Cach.pos := fun x y e1 e2 => by rw [e1]; exact one _ _ _ e2
  have key : ∀ (xs ys : List Opn), xs.map (fun o => (o.pos, o.data.length)) = ys.map (fun o => (o.pos, o.data.length)) → plc xs = plc ys := by
    intro xs
    induction xs with
    | nil => intro ys e; cases ys with | nil => rfl | cons y ys => cases e
    | cons x xs ih =>
      intro ys e
      cases ys with
      | nil => cases e
      | cons y ys =>
        rw [List.map_cons, List.map_cons, List.cons.injEq] at e
        have := ih ys e.2
        have e1 := e.1
        rw [Prod.mk.injEq] at e1
        have h2 := two x y e1.1 e1.2
        unfold plc pls at this ⊢
        rw [List.flatMap_cons, List.flatMap_cons, List.map_append, List.map_append, this, h2]
  refine key _ _ ?_
  rw [List.map_take, List.map_take]
  congr 1
  by_cases c1 : kW c p l < l.length
  · rw [wrapW_1 c1, wrapW_1 (by omega), hk]
    simp [opW, h]
  · rw [wrapW_0 c1, wrapW_0 (by omega), hk]
    simp [opW, h]
end Go.Proofs.YtmgoflhjblombaaGreatDoor
namespace Go.Proofs.YtmgoflhjblombaaGreatDoor
open Go.Proofs
theorem exec_congr : ∀ (os : List Opn) (s t : List Sec), s.length = t.length → (∀ o ∈ os, OpOk s.length o) → ∀ i : Nat, s[i]? = t[i]? → (execS s os)[i]? = (execS t os)[i]?
  | [], s, t, _, _, i, h => h
  | o :: os, s, t, hl, ho, i, h => by
    have ht : ∀ o ∈ os, OpOk s.length o := fun x hx => ho x (by simp [hx])
    rcases ho o (by simp) with rfl | ⟨a, l, rfl, hf⟩
    · rw [execS_s, execS_s]; exact exec_congr os s t hl ht i h
    · rw [execS_w, execS_w]
      refine exec_congr os _ _ (by rw [patS_len, patS_len, hl]) (by rw [patS_len]; exact ht) i ?_
      rw [patS_get hf, patS_get (by omega), h]
def WEq (s t : List Sec) : Prop := ∀ q : Nat, 3 ≤ q → q < 19 → s[q]? = t[q]?
theorem WEq.refl (s : List Sec) : WEq s s := fun _ _ _ => rfl
theorem WEq.symm {s t : List Sec} (h : WEq s t) : WEq t s := fun q a b => (h q a b).symm
theorem WEq.trans {s t u : List Sec} (h : WEq s t) (g : WEq t u) : WEq s u := fun q a b => (h q a b).trans (g q a b)
theorem WEq.win {s t : List Sec} (h : WEq s t) : win 3 s = win 3 t := by
  rw [Go.Proofs.YtmgoflhjblombaaGreatDoor.win, Go.Proofs.YtmgoflhjblombaaGreatDoor.win]
  refine List.ext_getElem? fun i => ?_
  rw [List.getElem?_take, List.getElem?_take]
  split
  · rw [List.getElem?_drop, List.getElem?_drop, h _ (by omega) (by omega)]
  · rfl
theorem MixW.weq {s t : List Sec} {P : Nat → Sec → Prop} (h : MixW s P t) (hP : ∀ q x, P q x → 19 ≤ q) : WEq t s := fun q a b => by
  rcases h.2 q with e | ⟨x, hx, -⟩
  · exact e
  · have := hP q x hx; omega
theorem SelS.weq {s t s' t' : List Sec} {cs : List Cach} {sel : List Int} (hl : s.length = t.length) (hn : (cs.map Cach.pos).Nodup) (h : WEq s t) (h1 : SelS ⟨s, cs⟩ sel s') (h2 : SelS ⟨t, cs⟩ sel t') : WEq s' t' := fun q a b => by
  have l1 := h1.1
  have l2 := h2.1
  dsimp only at l1 l2
  by_cases hq : q < s.length
  · by_cases c : (q : Int) ∈ sel
    · obtain ⟨x, x1, x2, x3⟩ := (h1.2 q (by omega)).1 c
      obtain ⟨y, y1, y2, y3⟩ := (h2.2 q (by omega)).1 c
      have := cach_uniq hn x1 y1 (x2.trans y2.symm)
      rw [List.getElem?_eq_getElem (by omega), List.getElem?_eq_getElem (by omega), x3, y3, this]
    · obtain ⟨x1, x2⟩ := (h1.2 q (by omega)).2 c
      obtain ⟨y1, y2⟩ := (h2.2 q (by omega)).2 c
      have := h q a b
      rw [List.getElem?_eq_getElem (by omega), List.getElem?_eq_getElem (by omega), x2, y2]
      rw [List.getElem?_eq_getElem x1, List.getElem?_eq_getElem y1] at this
      exact this
  · rw [List.getElem?_eq_none (by omega), List.getElem?_eq_none (by omega)]
def StpJ (size : UInt8) (s : List Sec) (j : Jrn) (rs : List Rcd) (x : Evt) (s' : List Sec) (j' : Jrn) : Prop :=
  ((planF (stj s j rs) x).2.2.2 = false ∧ j' = j ∧ WEq s' s) ∨
  ((planF (stj s j rs) x).2.2.2 = true ∧ ∃ sc N rr ll, SI size N sc j' rr ll ∧ WEq s' sc ∧
    (((planF (stj s j rs) x).2.1.length < x.after.toNat ∧ j' = (planF (stj s j rs) x).1 ∧ ∃ k, runR ⟨s, []⟩ (planF (stj s j rs) x).2.1 = (⟨sc, []⟩, k, 0)) ∨
     (x.after.toNat ≤ (planF (stj s j rs) x).2.1.length ∧ (j' = j ∨ j' = (planF (stj s j rs) x).1) ∧ ItrA ⟨s, []⟩ (planF (stj s j rs) x).2.1 x.after.toNat x.ch ⟨sc, []⟩ 0)))
theorem appJ_shape {j : Jrn} {p q : List UInt8} (h : p.length = q.length) : (appJ j 7 p).1 = (appJ j 7 q).1 ∧ (appJ j 7 p).2.2 = (appJ j 7 q).2.2 ∧ (appJ j 7 p).2.1.length = (appJ j 7 q).2.1.length ∧ ∀ a, plc ((appJ j 7 p).2.1.take a) = plc ((appJ j 7 q).2.1.take a) := by
  by_cases hJ : chkJ j = true
  case neg => rw [appJ_bad hJ, appJ_bad hJ]; exact ⟨rfl, rfl, rfl, fun _ => rfl⟩
  by_cases hb : ((7 : Int) < 1 ∨ 255 < (7 : Int) ∨ nextJ j < 1 ∨ 4294967295 < nextJ j)
  · rw [appJ_err hJ (enc_bad (r := ⟨7, nextJ j, p⟩) hb), appJ_err hJ (enc_bad (r := ⟨7, nextJ j, q⟩) hb)]
    exact ⟨rfl, rfl, rfl, fun _ => rfl⟩
  by_cases hlg : 4096 < p.length
  · rw [appJ_err hJ (enc_long (r := ⟨7, nextJ j, p⟩) hb hlg), appJ_err hJ (enc_long (r := ⟨7, nextJ j, q⟩) hb (by show 4096 < q.length; omega))]
    exact ⟨rfl, rfl, rfl, fun _ => rfl⟩
  have e1 := enc_ok (r := ⟨7, nextJ j, p⟩) hb hlg
  have e2 := enc_ok (r := ⟨7, nextJ j, q⟩) hb (by show ¬ 4096 < q.length; omega)
  have hl : (secsR (nextJ j).toNat (strmR 7 p)).length = (secsR (nextJ j).toNat (strmR 7 q)).length := by
    rw [secsR_ln, secsR_ln, strm_len, strm_len, h]
  dsimp only at e1 e2
  generalize secsR (nextJ j).toNat (strmR 7 p) = l at e1 hl
  generalize secsR (nextJ j).toNat (strmR 7 q) = m at e2 hl
  by_cases h1 : 1073741824 ≤ nextJ j
  · rw [appJ_many hJ e1 h1, appJ_many hJ e2 h1]
    exact ⟨rfl, rfl, rfl, fun _ => rfl⟩
  by_cases h2 : freeJ j < l.length
  · rw [appJ_full hJ e1 h1 h2, appJ_full hJ e2 h1 (by omega)]
    exact ⟨rfl, rfl, rfl, fun _ => rfl⟩
  rw [appJ_ok hJ e1 h1 h2, appJ_ok hJ e2 h1 (by omega), hl]
  have hwl : (wrapW j.start j.count j.tail l).length = (wrapW j.start j.count j.tail m).length := by
    have hk : kW j.count j.tail l = kW j.count j.tail m := by rw [kW, kW, hl]
    by_cases c : kW j.count j.tail l < l.length
    · rw [wrapW_1 c, wrapW_1 (by omega)]; rfl
    · rw [wrapW_0 c, wrapW_0 (by omega)]; rfl
  refine ⟨rfl, rfl, by rw [List.length_append, List.length_append, hwl], fun a => ?_⟩
  dsimp only
  rw [List.take_append, List.take_append, plc_app, plc_app, wrap_shape _ _ _ hl, hwl]
def AllS (j : Jrn) (x : Evt) : Prop := (appJ j 7 x.pay).2.1.length ≤ x.after.toNat ∨ ∀ q ∈ plc (appJ j 7 x.pay).2.1, q ∈ selF (srt (plc ((appJ j 7 x.pay).2.1.take x.after.toNat))) x.ch
theorem RJ.uniq {s : List Sec} {j j' : Jrn} {rs rs' : List Rcd} {l l' : List Sec} {T T' : Nat} (h : RJ s j rs l T) (h' : RJ s j' rs' l' T') (e1 : j.start = j'.start) (e2 : j.count = j'.count) : j = j' := by
  have a := h.open
  have b := h'.open
  rw [e1, e2] at a
  rw [a] at b
  exact congrArg Prod.fst b
theorem szs_split : ∀ {rr : List Rcd} {zs : List Int} {m : Int}, szs rr = zs ++ [m] → ∃ ra b, rr = ra ++ [b] ∧ szs ra = zs ∧ szR (b.pay.length : Int) = m := by
  intro rr zs m h
  rcases List.eq_nil_or_concat rr with rfl | ⟨ra, b, rfl⟩
  · cases zs <;> cases h
  · rw [List.concat_eq_append] at h ⊢
    have e : szs (ra ++ [b]) = szs ra ++ [szR (b.pay.length : Int)] := by rw [szs, List.map_append]; rfl
    rw [e] at h
    obtain ⟨h1, h2⟩ := List.append_inj' h rfl
    exact ⟨ra, b, rfl, h1, by simpa using h2⟩
theorem app_step {size : UInt8} {N : Nat} {s s' : List Sec} {j j' : Jrn} {rs : List Rcd} {x : Evt} (h : SI size N s j rs []) (k0 : x.kind.toNat % 2 = 0) (hs : StpJ size s j rs x s' j') :
    WEq s' s ∧ ((appJ j 7 x.pay).2.2 ≠ 0 → j' = j) ∧ ((appJ j 7 x.pay).2.2 = 0 → (AllS j x → j' = (appJ j 7 x.pay).1) ∧ (¬ AllS j x → j' = j)) := by
  have hpl : planF (stj s j rs) x = ((appJ j 7 x.pay).1, (appJ j 7 x.pay).2.1, rs.map Rcd.pay ++ [x.pay], decide ((appJ j 7 x.pay).2.2 = 0)) := by rw [planF, if_pos k0]; rfl
  unfold StpJ at hs
  rw [hpl] at hs
  dsimp only at hs
  by_cases he : (appJ j 7 x.pay).2.2 = 0
  case neg =>
    rcases hs with ⟨-, a, b⟩ | ⟨a, -⟩
    · exact ⟨b, fun _ => a, fun c => absurd c he⟩
    · exact absurd (by simpa using a) he
  rcases hs with ⟨a, -⟩ | ⟨-, sc, N', rr, ll, hsi, hw, hcs⟩
  · exact absurd he (by simpa using a)
  have h0 := rgN_in size
  have hJ := h.rj.jd.chk
  have hsm := h.small
  have hlen : s.length = sc.length := by have := h.len; have := hsi.len; omega
  unfold AllS
  cases hen : encR ⟨7, nextJ j, x.pay⟩ with
  | error e =>
    rw [appJ_err hJ hen] at he
    have := enc_err hen
    dsimp only at he
    omega
  | ok l =>
  by_cases h1 : 1073741824 ≤ nextJ j
  · rw [appJ_many hJ hen h1] at he; cases he
  by_cases h2 : freeJ j < l.length
  · rw [appJ_full hJ hen h1 h2] at he; cases he
  obtain ⟨a1, a2, a3, a4⟩ := h.rj.app hen h1 h2
  obtain ⟨st, n, hd, u, v⟩ := h.rj.val
  have hbad : ¬ ((7 : Int) < 1 ∨ 255 < (7 : Int) ∨ nextJ j < 1 ∨ 4294967295 < nextJ j) := fun c => by rw [enc_bad (r := ⟨7, nextJ j, x.pay⟩) c] at hen; cases hen
  have hlong : ¬ 4096 < x.pay.length := fun c => by rw [enc_long (r := ⟨7, nextJ j, x.pay⟩) hbad c] at hen; cases hen
  have hel : l = secsR (nextJ j).toNat (strmR 7 x.pay) := by rw [enc_ok (r := ⟨7, nextJ j, x.pay⟩) hbad hlong] at hen; cases hen; rfl
  have hln : l.length = (x.pay.length + 10) / 4 := by rw [hel, secsR_ln, strm_len]
  have hfree : u + l.length ≤ n := by rw [freeJ, v.esu, v.ect] at h2; omega
  have hnod := wrap_nod v hfree (by omega)
  have hplc := wrap_plc v hfree (by omega)
  rw [appJ_ok hJ hen h1 h2] at hcs ⊢
  dsimp only at hcs ⊢
  have hP : ∀ q y, InW (wrapW j.start j.count j.tail l) q y → 19 ≤ q := fun q y hq => by
    have := a2 q y hq
    rw [h.st] at this; omega
  have hst := h.st
  have hct := h.ct
  generalize hws : wrapW j.start j.count j.tail l = ws at *
  generalize hj0 : (⟨j.start, j.count, j.head, (j.tail + l.length) % (j.count - 16), j.first, j.sizes ++ [(l.length : Int)]⟩ : Jrn) = j0 at *
  have hplcw : plc (ws ++ [opS]) = plc ws := by rw [plc_app, plc_s, List.append_nil]
  have e0 : j0.start = 3 ∧ j0.count = rgN size := by rw [← hj0]; exact ⟨hst, hct⟩
  have hex : sc = execS s ws → j' = j0 := fun e => by
    have r1 := hsi.rj
    rw [e] at r1
    exact r1.uniq a4 (by rw [hsi.st, e0.1]) (by rw [hsi.ct, e0.2])
  rw [List.length_append, List.length_singleton] at hcs ⊢
  rw [hplcw]
  rcases hcs with ⟨c1, c2, k, c3⟩ | ⟨c1, c2, c3⟩
  · rw [a1.run (by omega)] at c3
    have e : execS s ws = sc := congrArg (fun z => z.1.stable) c3
    refine ⟨hw.trans (by rw [← e]; exact (exec_mix ws s a1).weq hP), fun c => absurd rfl c, fun _ => ⟨fun _ => c2, fun c => absurd (.inl (by omega)) c⟩⟩
  have hi := itrA_w (by omega) a1 c1 c3
  have hmx : MixW s (InW ws) sc := by
    obtain ⟨-, s2, e, hm, -⟩ := itr_w (by omega) a1 c1 c3.weak
    have : sc = s2 := congrArg Dk.stable e
    rw [this]; exact hm
  refine ⟨hw.trans (hmx.weq hP), fun c => absurd rfl c, fun _ => ⟨fun hall => ?_, fun hall => ?_⟩⟩
  · rcases hi with ⟨i1, i2⟩ | ⟨-, i2⟩
    · rcases hall with hall | hall
      · omega
      · rw [List.take_append_of_le_length i1] at hall
        exact hex (sel_all a1 hnod i2 hall)
    · exact hex i2
  · rcases hi with ⟨i1, i2⟩ | ⟨i1, -⟩
    case inr => exact absurd (.inl (by omega)) hall
    rcases c2 with c2 | c2
    · exact c2
    exfalso
    apply hall
    right
    rw [List.take_append_of_le_length i1]
    intro q hq
    rw [hplc, List.mem_map] at hq
    obtain ⟨i, hi, rfl⟩ := hq
    rw [List.mem_range] at hi
    refine Classical.byContradiction fun hns => ?_
    have hui : u + i < n := by omega
    have hpl2 := posN_lt v.ehn (Nat.le_of_lt hui)
    have hql : st + 16 + posN hd n (u + i) < sc.length := by have := v.els; omega
    obtain ⟨g1, g2⟩ := (i2.2 _ hql).2 hns
    dsimp only at g1 g2
    obtain ⟨R, hR, hT⟩ := h.rj.ring
    rw [v.erg] at hR
    have o1 : (ringR s (st + 16) hd n)[u + i]? = some s[st + 16 + posN hd n (u + i)] := by
      rw [ringR_get (by have := v.els; omega) v.ehn hui, List.getElem?_eq_getElem g1]
    rw [hR, List.getElem?_append_right (by rw [v.efl]; omega)] at o1
    have o2 := (hT.1 _ _ o1).resolve_right (by simp)
    have r1 := hsi.rj
    rw [c2] at r1
    obtain ⟨R', hR', -⟩ := r1.ring
    have hsz := r1.sz
    have hrc := r1.rc
    rw [← hj0] at hR' hsz hrc
    dsimp only at hsz hrc
    rw [show ringJ sc (⟨j.start, j.count, j.head, (j.tail + l.length) % (j.count - 16), j.first, j.sizes ++ [(l.length : Int)]⟩ : Jrn) = ringR sc (j.start.toNat + 16) j.head.toNat (j.count - 16).toNat from rfl, v.est, v.ehd, v.ect] at hR'
    rw [Int.toNat_natCast, Int.toNat_natCast, show ((n : Int) + 16 - 16).toNat = n by omega] at hR'
    obtain ⟨ra, b, rfl, z1, z2⟩ := szs_split hsz.symm
    have hkd := hrc.kd
    have hfa := flatR_len ra fun r hr => hkd r (List.mem_append_left _ hr)
    rw [z1, v.esu] at hfa
    have hb := hkd b (List.mem_append_right _ (List.mem_singleton.2 rfl))
    have hbl := encL_len hb.2.2
    rw [z2] at hbl
    have hral : ra.length = j.sizes.length := by rw [← z1, szs, List.length_map]
    have hbq : b.sq = nextJ j := by
      have := hrc.sq ra.length (by simp)
      rw [List.getElem_append_right (Nat.le_refl _)] at this
      simp only [Nat.sub_self, List.getElem_cons_zero] at this
      rw [this, nextJ, hral]
    have o3 : (ringR sc (st + 16) hd n)[u + i]? = some sc[st + 16 + posN hd n (u + i)] := by
      rw [ringR_get (by have := v.els; omega) v.ehn hui, List.getElem?_eq_getElem hql]
    rw [hR', List.flatMap_append, List.flatMap_cons, List.flatMap_nil, List.append_nil, List.append_assoc, List.getElem?_append_right (by omega), List.getElem?_append_left (by omega)] at o3
    have hmem := List.mem_of_getElem? o3
    rw [encL] at hmem
    have hgn := secsR_gn (by rw [hbq]; omega) hmem
    rw [g2] at hgn
    rw [hgn, hbq] at o2
    omega
theorem storeS_weq {s t : List Sec} {p : List UInt8} (h1 : 3 + 16 ≤ s.length) (h2 : s.length ≤ 4096) (hl : s.length = t.length) (h : WEq s t) : storeS ⟨s, []⟩ 3 p = storeS ⟨t, []⟩ 3 p := by
  obtain ⟨f1, f2⟩ := find_nil (o := 3) h1 h2
  obtain ⟨g1, g2⟩ := find_nil (o := 3) (s := t) (by omega) (by omega)
  rw [show ((3 : Nat) : Int) = 3 from rfl] at f1 f2 g1 g2
  rw [storeS, storeS, f1, f2, g1, g2, h.win]
theorem relJ_weq {s t : List Sec} {j : Jrn} {q : Int} (hj : j.start = 3) (h1 : 3 + 16 ≤ s.length) (h2 : s.length ≤ 4096) (hl : s.length = t.length) (h : WEq s t) : relJ ⟨s, []⟩ j q = relJ ⟨t, []⟩ j q := by
  rw [relJ, relJ, chk_nil h2, chk_nil (by omega), hj]
  simp only [storeS_weq h1 h2 hl h]
theorem store_nod (d : Dk) (o : Int) (p : List UInt8) : (storeS d o p).1 = [] ∨ ∃ a l, (storeS d o p).1 = [opW a l] ++ [opS] := by
  unfold storeS
  split
  · exact .inl rfl
  split
  · exact .inl rfl
  split
  · exact .inl rfl
  split
  · exact .inl rfl
  exact .inr ⟨_, _, rfl⟩
theorem rel_nod (d : Dk) (j : Jrn) (q : Int) : (relJ d j q).2.1 = [] ∨ ∃ a l, (relJ d j q).2.1 = [opW a l] ++ [opS] := by
  unfold relJ
  split
  · exact .inl rfl
  split
  · exact .inl rfl
  split
  · exact .inl rfl
  split
  · exact .inl rfl
  dsimp only
  split
  · exact .inl rfl
  exact store_nod _ _ _
theorem one_nod (a : Int) (l : List Sec) : (plc [opW a l]).Nodup := by
  have e : plc [opW a l] = (List.range l.length).map fun i : Nat => a + (i : Int) := by
    rw [plc, pls, List.flatMap_cons, List.flatMap_nil, List.append_nil]
    refine List.ext_getElem (by simp [puts_len, opW]) fun i h1 h2 => ?_
    simp [puts, opW]
  rw [e, List.nodup_iff_pairwise_ne, List.pairwise_map]
  exact List.Pairwise.imp (fun {a b} hab e => hab (by omega)) (List.nodup_iff_pairwise_ne.1 List.nodup_range)
theorem win_first {size : UInt8} {N M : Nat} {s t : List Sec} {j k : Jrn} {rs rt : List Rcd} {l m : List Sec} (h : SI size N s j rs l) (g : SI size M t k rt m) (hw : WEq s t) : j.first = k.first := by
  obtain ⟨g1, hg1⟩ := h.rj.jd.gd
  obtain ⟨g2, hg2⟩ := g.rj.jd.gd
  rw [h.st] at hg1
  rw [g.st] at hg2
  have b1 := hg1.bst
  have b2 := hg2.bst
  rw [show (3 : Int).toNat = 3 from rfl] at b1 b2
  rw [hw.win, b2] at b1
  have e : superJ k.head k.first = superJ j.head j.first := congrArg Prod.snd b1
  have hp := (preJ_iff j).1 ((chkJ_iff j).1 h.rj.jd.chk).2.1
  have hq := (preJ_iff k).1 ((chkJ_iff k).1 g.rj.jd.chk).2.1
  have hr := rgN_in size
  have x1 := headP_super (c := j.count) hp.1 hp.2.1 (by rw [h.ct]; omega) hp.2.2.1 hp.2.2.2.1
  have x2 := headP_super (c := k.count) hq.1 hq.2.1 (by rw [g.ct]; omega) hq.2.2.1 hq.2.2.2.1
  rw [e, g.ct, ← h.ct, x1] at x2
  exact congrArg (fun z => z.2.1) x2
theorem rel_step {size : UInt8} {N : Nat} (hN : N ≤ 900) {s t s' t' : List Sec} {j j' k' : Jrn} {rs rt : List Rcd} {x y : Evt} (h : SI size N s j rs []) (g : SI size N t j rt []) (hw : WEq s t) (k0 : ¬ x.kind.toNat % 2 = 0)
    (e1 : x.kind = y.kind) (e2 : x.pay.length = y.pay.length) (e3 : x.after = y.after) (e4 : x.ch = y.ch) (hs : StpJ size s j rs x s' j') (ht : StpJ size t j rt y t' k') : WEq s' t' ∧ j' = k' := by
  have hsm := h.small
  have gsm := g.small
  have hr := rgN_in size
  have hl : s.length = t.length := by have := h.len; have := g.len; omega
  have hsl := h.len
  have hpl : planF (stj s j rs) x = ((relJ ⟨s, []⟩ j (j.first - 1 + ((x.pay.length % (rs.length + 1) : Nat) : Int))).1, (relJ ⟨s, []⟩ j (j.first - 1 + ((x.pay.length % (rs.length + 1) : Nat) : Int))).2.1, (rs.map Rcd.pay).drop (x.pay.length % (rs.length + 1)), decide ((relJ ⟨s, []⟩ j (j.first - 1 + ((x.pay.length % (rs.length + 1) : Nat) : Int))).2.2 = 0)) := by
    rw [planF, if_neg k0, stj_k, List.length_map]; rfl
  have gpl : planF (stj t j rt) y = ((relJ ⟨s, []⟩ j (j.first - 1 + ((x.pay.length % (rs.length + 1) : Nat) : Int))).1, (relJ ⟨s, []⟩ j (j.first - 1 + ((x.pay.length % (rs.length + 1) : Nat) : Int))).2.1, (rt.map Rcd.pay).drop (y.pay.length % (rt.length + 1)), decide ((relJ ⟨s, []⟩ j (j.first - 1 + ((x.pay.length % (rs.length + 1) : Nat) : Int))).2.2 = 0)) := by
    rw [planF, if_neg (by rw [← e1]; exact k0), stj_k, List.length_map, e2, show rs.length = rt.length by omega, relJ_weq h.st (by omega) (by omega) hl hw]; rfl
  have hn : x.pay.length % (rs.length + 1) < rs.length + 1 := Nat.mod_lt _ (by omega)
  unfold StpJ at hs ht
  rw [hpl] at hs
  rw [gpl, ← e3, ← e4] at ht
  dsimp only at hs ht
  generalize x.pay.length % (rs.length + 1) = n at *
  by_cases n0 : n = 0
  · subst n0
    have e0 := h.rel0
    rw [show j.first - 1 + ((0 : Nat) : Int) = j.first - 1 by omega, e0] at hs ht
    dsimp only at hs ht
    rcases hs with ⟨a, -⟩ | ⟨-, sc, N1, rr, ll, hsi, hw1, hcs⟩
    · simp at a
    rcases ht with ⟨a, -⟩ | ⟨-, tc, N2, rr2, ll2, gsi, hw2, gcs⟩
    · simp at a
    have r1 : sc = s ∧ j' = j := by
      rcases hcs with ⟨-, c2, k, c3⟩ | ⟨c1, c2, c3⟩
      · rw [run_nil (by omega)] at c3
        exact ⟨(congrArg (fun z => z.1.stable) c3).symm, c2⟩
      · have : x.after.toNat = 0 := by simpa using c1
        rw [this] at c3
        obtain ⟨-, i2⟩ := itr_nil (by omega) c3.weak
        exact ⟨congrArg Dk.stable i2, by rcases c2 with c2 | c2 <;> exact c2⟩
    have r2 : tc = t ∧ k' = j := by
      rcases gcs with ⟨-, c2, k, c3⟩ | ⟨c1, c2, c3⟩
      · rw [run_nil (by omega)] at c3
        exact ⟨(congrArg (fun z => z.1.stable) c3).symm, c2⟩
      · have : x.after.toNat = 0 := by simpa using c1
        rw [this] at c3
        obtain ⟨-, i2⟩ := itr_nil (by omega) c3.weak
        exact ⟨congrArg Dk.stable i2, by rcases c2 with c2 | c2 <;> exact c2⟩
    rw [r1.1] at hw1
    rw [r2.1] at hw2
    exact ⟨(hw1.trans hw).trans hw2.symm, r1.2.trans r2.2.symm⟩
  obtain ⟨ws, q1, q2, q3, q4, q5⟩ := h.rel (by omega) (by omega) n0
  have hnd := rel_nod ⟨s, []⟩ j (j.first - 1 + (n : Int))
  rw [q1] at hs ht hnd
  dsimp only at hs ht hnd
  have hno : (plc ws).Nodup := by
    rcases hnd with c | ⟨a, l, c⟩
    · simp at c
    · rw [(List.append_inj' c rfl).1]; exact one_nod _ _
  have q3' : WsOk t.length ws := by rw [← hl]; exact q3
  rcases hs with ⟨a, -⟩ | ⟨-, sc, N1, rr, ll, hsi, hw1, hcs⟩
  · simp at a
  rcases ht with ⟨a, -⟩ | ⟨-, tc, N2, rr2, ll2, gsi, hw2, gcs⟩
  · simp at a
  have key : WEq sc tc := by
    rcases hcs with ⟨c1, c2, k, c3⟩ | ⟨c1, c2, c3⟩
    · rcases gcs with ⟨d1, d2, k2, d3⟩ | ⟨d1, -⟩
      · rw [q3.run (by omega)] at c3
        rw [q3'.run (by omega)] at d3
        have z1 : execS s ws = sc := congrArg (fun z => z.1.stable) c3
        have z2 : execS t ws = tc := congrArg (fun z => z.1.stable) d3
        rw [← z1, ← z2]
        exact fun q a b => exec_congr ws s t hl (fun o ho => q3.ok o ho) q (hw q a b)
      · omega
    · rcases gcs with ⟨d1, -⟩ | ⟨d1, d2, d3⟩
      · omega
      rw [List.length_append, List.length_singleton] at c1 d1
      rcases itrA_w (by omega) q3 c1 c3 with ⟨i1, i2⟩ | ⟨i1, i2⟩
      · rcases itrA_w (by omega) q3' d1 d3 with ⟨k1, k2⟩ | ⟨k1, k2⟩
        · exact SelS.weq hl (hno.sublist (pls_take ws _)) hw i2 k2
        · omega
      · rcases itrA_w (by omega) q3' d1 d3 with ⟨k1, k2⟩ | ⟨k1, k2⟩
        · omega
        · rw [i2, k2]
          exact fun q a b => exec_congr ws s t hl (fun o ho => q3.ok o ho) q (hw q a b)
  refine ⟨(hw1.trans key).trans hw2.symm, ?_⟩
  have hf := win_first hsi gsi key
  have f1 : j' = j ∨ j' = dropJ j n := by
    rcases hcs with ⟨-, c, -⟩ | ⟨-, c, -⟩
    · exact .inr c
    · exact c
  have f2 : k' = j ∨ k' = dropJ j n := by
    rcases gcs with ⟨-, c, -⟩ | ⟨-, c, -⟩
    · exact .inr c
    · exact c
  have fd : (dropJ j n).first = j.first + n := rfl
  rcases f1 with rfl | rfl <;> rcases f2 with f2 | f2
  · exact f2.symm
  · rw [f2, fd] at hf; omega
  · rw [f2, fd] at hf; omega
  · exact f2.symm
def ShE (x y : Evt) : Prop := x.kind = y.kind ∧ x.pay.length = y.pay.length ∧ x.after = y.after ∧ x.ch = y.ch
theorem two_step {size : UInt8} {N : Nat} (hN : N ≤ 900) {s t s' t' : List Sec} {j j' k' : Jrn} {rs rt : List Rcd} {x y : Evt} (h : SI size N s j rs []) (g : SI size N t j rt []) (hw : WEq s t) (he : ShE x y) (hs : StpJ size s j rs x s' j') (ht : StpJ size t j rt y t' k') : WEq s' t' ∧ j' = k' := by
  obtain ⟨e1, e2, e3, e4⟩ := he
  by_cases k0 : x.kind.toNat % 2 = 0
  case neg => exact rel_step hN h g hw k0 e1 e2 e3 e4 hs ht
  obtain ⟨a1, a2, a3⟩ := app_step h k0 hs
  obtain ⟨b1, b2, b3⟩ := app_step g (by rw [← e1]; exact k0) ht
  refine ⟨(a1.trans hw).trans b1.symm, ?_⟩
  obtain ⟨c1, c2, c3, c4⟩ := appJ_shape (j := j) e2
  rw [← c2] at b2 b3
  by_cases c : (appJ j 7 x.pay).2.2 = 0
  case neg => rw [a2 c, b2 c]
  have hiff : AllS j x ↔ AllS j y := by
    have z := c4 (appJ j 7 x.pay).2.1.length
    rw [List.take_length, c3, List.take_length] at z
    unfold AllS
    rw [z, c3, c4, e3, e4]
  by_cases hall : AllS j x
  · rw [(a3 c).1 hall, (b3 c).1 (hiff.1 hall), c1]
  · rw [(a3 c).2 hall, (b3 c).2 fun q => hall (hiff.2 q)]
end Go.Proofs.YtmgoflhjblombaaGreatDoor
namespace Go.Proofs.YtmgoflhjblombaaGreatDoor
open Go.Proofs
abbrev zst10 : List CV := [.v (.slice none 0 0), .v (.slice none 0 0), iv 0, iv 0, iv 0, iv 0, iv 0, .v (.slice none 0 0), .v (.slice none 0 0), cb false]
end Go.Proofs.YtmgoflhjblombaaGreatDoor
namespace Go.Proofs.YtmgoflhjblombaaGreatDoor
open Go.Proofs
theorem SI.open19 {size : UInt8} {N : Nat} {s : List Sec} {j : Jrn} {rs : List Rcd} {l : List Sec} (h : SI size N s j rs l) :
    ∃ ws, openJ 3 (rgN size) ⟨s, []⟩ = (j, rs, clnO ws, 0) ∧ WsOk s.length ws ∧ (∀ s', MixW s (InW ws) s' → SI size N s' j rs l) ∧ SI size N (execS s ws) j rs [] ∧ (∀ q x, InW ws q x → 19 ≤ q) ∧ ws.length ≤ 60 := by
  have h1 := rgN_in size
  have ho := h.rj.open
  obtain ⟨ws, c1, c2, c3, c4, c5, c6, c7⟩ := h.rj.clean
  rw [h.ct] at c7
  rw [c1, h.st, h.ct] at ho
  have hP : ∀ q x, InW ws q x → 19 ≤ q ∧ q < 3 + (rgN size).toNat := fun q x hq => by
    have := c3 q x hq
    rw [h.st, h.ct] at this
    omega
  have hP' : ∀ q x, InW ws q x → 3 ≤ q ∧ q < 3 + (rgN size).toNat := fun q x hq => by
    have := hP q x hq; omega
  exact ⟨ws, ho, c2, fun s' hm => h.to hm hP' (c4 s' hm) h.st h.ct h.nx h.kd, h.to (exec_mix ws s c2) hP' c5 h.st h.ct h.nx h.kd, fun q x hq => (hP q x hq).1, by omega⟩
theorem plan_nod {size : UInt8} {N : Nat} {s : List Sec} {j : Jrn} {rs : List Rcd} (h : SI size N s j rs []) (hN : N ≤ 900) (x : Evt) (ho : (planF (stj s j rs) x).2.2.2 = true) (a : Nat) (ha : a ≤ (planF (stj s j rs) x).2.1.length) :
    ((runR ⟨s, []⟩ ((planF (stj s j rs) x).2.1.take (a : Int).toNat)).1.cache.map Cach.pos).Nodup := by
  have hsm := h.small
  have hnil : ((runR ⟨s, []⟩ (([] : List Opn).take (a : Int).toNat)).1.cache.map Cach.pos).Nodup := by
    rw [List.take_nil, run_nil (by omega)]; exact List.nodup_nil
  by_cases k0 : x.kind.toNat % 2 = 0
  · have hpl : planF (stj s j rs) x = ((appJ j 7 x.pay).1, (appJ j 7 x.pay).2.1, rs.map Rcd.pay ++ [x.pay], decide ((appJ j 7 x.pay).2.2 = 0)) := by rw [planF, if_pos k0]; rfl
    rw [hpl] at ho ha ⊢
    dsimp only at ho ha ⊢
    have he : (appJ j 7 x.pay).2.2 = 0 := by simpa using ho
    have hJ := h.rj.jd.chk
    cases hen : encR ⟨7, nextJ j, x.pay⟩ with
    | error e => rw [appJ_err hJ hen]; exact hnil
    | ok l =>
    by_cases h1 : 1073741824 ≤ nextJ j
    · rw [appJ_many hJ hen h1]; exact hnil
    by_cases h2 : freeJ j < l.length
    · rw [appJ_full hJ hen h1 h2]; exact hnil
    obtain ⟨a1, a2, a3, a4⟩ := h.rj.app hen h1 h2
    obtain ⟨st, n, hd, u, v⟩ := h.rj.val
    have hl1 := (enc_le hen).2
    have hfree : u + l.length ≤ n := by rw [freeJ, v.esu, v.ect] at h2; omega
    rw [appJ_ok hJ hen h1 h2] at ha ⊢
    dsimp only at ha ⊢
    exact nod_itr (by omega) a1 (wrap_nod v hfree hl1) a (by simpa using ha)
  · obtain ⟨q, hpl⟩ : ∃ q, (planF (stj s j rs) x).2.1 = (relJ ⟨s, []⟩ j q).2.1 := ⟨_, by rw [planF, if_neg k0]; rfl⟩
    have hpo := plan_ok h hN x
    rcases hpo with e | ⟨ops, j', rs2, e, hp⟩
    · rw [e] at ho; cases ho
    rw [hpl] at ha ⊢
    rcases rel_nod ⟨s, []⟩ j q with e1 | ⟨b, l, e1⟩
    · rw [e1]; exact hnil
    · rw [e1] at ha ⊢
      by_cases ha2 : a = 2
      · subst ha2
        obtain ⟨s1, r1, -⟩ := hp.run
        have : ops = [opW b l] ++ [opS] := by
          rw [e] at hpl
          exact hpl.trans e1
        rw [this] at r1
        rw [show (([opW b l] ++ [opS]).take ((2 : Nat) : Int).toNat) = [opW b l] ++ [opS] from rfl, r1]
        exact List.nodup_nil
      · have ha1 : a ≤ 1 := by simp at ha; omega
        rcases Nat.eq_zero_or_pos a with rfl | hp0
        · rw [show (([opW b l] ++ [opS]).take ((0 : Nat) : Int).toNat) = [] from rfl, run_nil (by omega)]; exact List.nodup_nil
        · obtain rfl : a = 1 := by omega
          rw [show (([opW b l] ++ [opS]).take ((1 : Nat) : Int).toNat) = [opW b l] from rfl]
          rw [runR, if_neg (by simp [chk_nil (show s.length ≤ 4096 by omega)]), runD, stepD, if_neg (by simp [opW]), if_pos (by rfl)]
          show ((match (match (match writeD ⟨s, []⟩ b l with | some d' => Except.ok d' | none => Except.error 2) with | .ok d' => runD d' [] 1 | .error e => .error (0, e)) with | .ok (d', n) => (d', n, 0) | .error (i, e) => (dk0, i, e)) : Dk × Nat × Nat).1.cache.map Cach.pos |>.Nodup
          rw [writeD]
          by_cases hin : insideB ⟨s, []⟩ b l.length = true
          · rw [if_pos hin]
            show ((([] : List Cach) ++ puts b l).map Cach.pos).Nodup
            have := one_nod b l
            rw [plc, pls, List.flatMap_cons, List.flatMap_nil, List.append_nil] at this
            rw [List.nil_append]; exact this
          · rw [if_neg hin]; exact List.nodup_nil
def StpK (size : UInt8) (s : List Sec) (j : Jrn) (x : Evt) (pl : Jrn × List Opn × List (List UInt8) × Bool) (s' : List Sec) (j' : Jrn) : Prop :=
  (pl.2.2.2 = false ∧ j' = j ∧ WEq s' s) ∨
  (pl.2.2.2 = true ∧ ∃ sc N rr ll, SI size N sc j' rr ll ∧ WEq s' sc ∧
    ((pl.2.1.length < x.after.toNat ∧ j' = pl.1 ∧ ∃ k, runR ⟨s, []⟩ pl.2.1 = (⟨sc, []⟩, k, 0)) ∨
     (x.after.toNat ≤ pl.2.1.length ∧ (j' = j ∨ j' = pl.1) ∧ ItrA ⟨s, []⟩ pl.2.1 x.after.toNat x.ch ⟨sc, []⟩ 0)))
def StA (size : UInt8) (N : Nat) (s : List Sec) (j : Jrn) (rs : List Rcd) (x : Evt) (H : Hp) (V : List Nat) : CV → Hp → List Nat → Prop := fun r H' V' => ∃ s' j' rs', (SI size (N + 1) s' j' rs' [] ∧ StpJ size s j rs x s' j') ∧ r = .agg (stjC (stj s' j' rs')) ∧ H' = H ∧ V' = V
set_option maxRecDepth 8000 in
theorem stepA_cc (H : Hp) (V : List Nat) (size : UInt8) (N : Nat) (hN : N ≤ 900) (s : List Sec) (j : Jrn) (rs : List Rcd) (h : SI size N s j rs []) (x : Evt) (hx : x.pay.length ≤ 60) (hch : x.ch.length ≤ 60) : CC Tryz.prog 46 [.agg (stjC (stj s j rs)), .agg [iv 3, iv (rgN size)], .agg (evC x)] H V (StA size N s j rs x H V) := by
  refine CC.of_swp Tryz.func46 rfl (by kernel_rfl) (by rw [Tryz.ntmps46]; exact len_le _ _ rfl) fun hok hokH => ?_
  clear hok
  have fin : ∀ {s' : List Sec} {j' : Jrn} {rs' : List Rcd} {H' : Hp} {V' : List Nat}, SI size (N + 1) s' j' rs' [] ∧ StpJ size s j rs x s' j' → H'.take H.length = H → V'.take V.length = V → Fin H.length V.length (StA size N s j rs x H V) (.agg (stjC (stj s' j' rs'))) H' V' := fun h1 h2 h3 =>
    Fin.pure (r' := .agg (stjC (stj _ _ _))) ⟨_, _, _, h1, rfl, rfl, rfl⟩ h2 h3 (.refl _) (by rw [okV, okL_stjC]; trivial) hokH
  have hsm := h.small
  have hpl := plan_ok h hN x
  have hnod := plan_nod h hN x
  have hsj : ∀ s' j', StpK size s j x (planF (stj s j rs) x) s' j' → StpJ size s j rs x s' j' := fun _ _ h => h
  refine SWp.seq (Wp.s ?_)
  simp -implicitDefEqProofs [go_sem, args0]
  refine SWp.seq (Wp.s ?_)
  simp -implicitDefEqProofs [go_sem]
  refine CC.mono (plan_cc _ _ (stj s j rs) x (stj_S h) hx) ?_
  rintro _ _ _ ⟨rfl, rfl, rfl⟩
  generalize planF (stj s j rs) x = pl at hpl hnod hsj ⊢
  obtain ⟨j0, ops0, kn, ok⟩ := pl
  unfold StpK at hsj
  dsimp only at hpl hnod hsj
  simp -implicitDefEqProofs [go_sem, plV]
  refine SWp.seq (SWp.seq (Wp.s ?_))
  rcases hpl with rfl | ⟨ops, j', rs2, e, hp⟩
  · simp -implicitDefEqProofs [go_sem]
    refine Wp.s ?_
    simp -implicitDefEqProofs [go_sem]
    exact fin ⟨h.mono, hsj _ _ <| .inl ⟨rfl, rfl, .refl _⟩⟩ (by simp) (by simp)
  obtain ⟨rfl, rfl, rfl, rfl⟩ : j' = j0 ∧ ops = ops0 ∧ rs2.map Rcd.pay = kn ∧ true = ok := by simpa [eq_comm] using e
  simp -implicitDefEqProofs [go_sem]
  refine Wp.s ?_
  simp -implicitDefEqProofs [go_sem]
  have ha := x.after.toNat_lt
  have hg := x.again.toNat_lt
  have w1 : IntKind.i64.wrap (x.after.toNat : Int) = (x.after.toNat : Int) := IntWalk.i64_in _ ⟨by omega, by omega⟩
  have w2 : IntKind.i64.wrap (x.again.toNat : Int) = (x.again.toNat : Int) := IntWalk.i64_in _ ⟨by omega, by omega⟩
  refine SWp.seq (SWp.seq (Wp.s ?_))
  by_cases c1 : ops.length < x.after.toNat
  · have c1' : (ops.length : Int) < (x.after.toNat : Int) := by omega
    obtain ⟨s1, r1, r2⟩ := hp.run
    have hl := hp.len
    have ht := hp.tot
    simp -implicitDefEqProofs [go_sem, w1, c1, c1']
    refine Wp.s ?_
    simp -implicitDefEqProofs [go_sem]
    refine CC.mono (sRun_cc _ _ ⟨s, []⟩ ops (by show s.length ≤ _; omega) (by show [].length + _ ≤ _; simp; omega) (by omega)) ?_
    rintro _ _ _ ⟨rfl, rfl, rfl⟩
    rw [r1]
    simp -implicitDefEqProofs [go_sem, runV]
    exact fin ⟨r2, hsj _ _ <| .inr ⟨rfl, s1, _, _, _, r2, .refl _, .inl ⟨c1, rfl, _, r1⟩⟩⟩ (by simp) (by simp)
  have c1' : ¬ (ops.length : Int) < (x.after.toNat : Int) := by omega
  have hl := hp.len
  have ht := hp.tot
  have hitr := hp.itr x.after.toNat (by omega)
  simp -implicitDefEqProofs [go_sem, w1, c1, c1']
  refine Wp.s ?_
  simp -implicitDefEqProofs [go_sem]
  refine SWp.seq (Wp.s ?_)
  simp -implicitDefEqProofs [go_sem, w1]
  refine CC.mono (sInterruptA_cc _ _ ⟨s, []⟩ ops x.after.toNat .sh x.ch (by show s.length ≤ _; omega) (by show [].length + _ ≤ _; simp; omega) (by omega) (by omega) (hnod rfl x.after.toNat (by omega)) sortA) ?_
  rintro _ _ V9 ⟨d2, l2, e2, ⟨hI, hl2⟩, rfl, rfl, eV⟩
  obtain rfl := eV.symm
  obtain ⟨rfl, s', l, rfl, hcs⟩ := hitr d2 e2 hI.weak
  obtain ⟨jj, rr, ll, hsi, hkn, hold, hjj⟩ : ∃ jj rr ll, SI size (N + 1) s' jj rr ll ∧ (sameB rr (rs2.map Rcd.pay) = true → rs2.map Rcd.pay = rr.map Rcd.pay) ∧ (sameB rr (rs2.map Rcd.pay) = false → rr = rs ∧ x.after.toNat < ops.length) ∧ (jj = j ∨ jj = j') := by
    rcases hcs with ⟨a, b⟩ | b
    · exact ⟨j, rs, l, b, fun q => (sameB_eq q).symm, fun _ => ⟨rfl, a⟩, .inl rfl⟩
    · exact ⟨j', rs2, [], b, fun _ => rfl, (fun q => by rw [sameB_self b.kd] at q; cases q), .inr rfl⟩
  obtain ⟨ws, o1, o2, o3, o4, o5, o6⟩ := hsi.open19
  have hss := hsi.small
  simp -implicitDefEqProofs [go_sem]
  refine SWp.seq (Wp.s ?_)
  simp -implicitDefEqProofs [go_sem]
  refine CC.mono (Open_cc _ _ 3 (rgN size) ⟨s', []⟩ ⟨by show s'.length ≤ _; omega, by simp⟩ (loadS_len _ _)) ?_
  rintro _ _ _ ⟨rfl, rfl, rfl⟩
  rw [o1]
  simp -implicitDefEqProofs [go_sem, opV]
  refine SWp.seq (Wp.s ?_)
  simp -implicitDefEqProofs [go_sem, w1]
  refine SWp.join (α := Unit) (fun _ => ([(3, .ptr H.length 0), (4, .ptr (H.length + 1) 0), (5, .ptr (H.length + 2) 0), (6, .ptr (H.length + 3) 0), (11, .ptr (H.length + 5) 0), (13, opsV (clnO ws))], H ++ [some (stjC ⟨⟨s', []⟩, j, rr.map Rcd.pay, true⟩), some [iv 3, iv (rgN size)], some (evC x), some [.v (.slice none 0 0), .v (.slice none 0 0), iv 0, iv 0, iv 0, iv 0, iv 0, .v (.slice none 0 0), .v (.slice none 0 0), cb false], some (jrC j'), some (jrC jj)], V)) (fun _ => True) ?_ ?_
  · refine SWp.block (SWp.seq (Wp.s ?_))
    simp -implicitDefEqProofs [go_sem]
    refine Wp.s ?_
    simp -implicitDefEqProofs [go_sem]
    refine CC.mono (same_cc _ _ rr (rs2.map Rcd.pay) (by omega)) ?_
    rintro _ _ _ ⟨rfl, rfl, rfl⟩
    cases hsb : sameB rr (rs2.map Rcd.pay) with
    | true =>
      simp -implicitDefEqProofs [go_sem]
      rw [← hkn hsb]
      exact Sh.forget (by simp [go_sem]) rfl rfl
    | false =>
      obtain ⟨rfl, hlt⟩ := hold hsb
      have hlt' : ¬ (x.after.toNat : Int) = (ops.length : Int) := by omega
      have hlt2 : ¬ x.after.toNat = ops.length := by omega
      simp -implicitDefEqProofs [go_sem, hlt', hlt2]
      refine CC.mono (same_cc _ _ rr (rr.map Rcd.pay) (by omega)) ?_
      rintro _ _ _ ⟨rfl, rfl, rfl⟩
      rw [sameB_self hsi.kd]
      simp -implicitDefEqProofs [go_sem]
      exact Sh.forget (by simp [go_sem]) rfl rfl
  rintro _ -
  dsimp only
  refine SWp.seq (Wp.s ?_)
  simp -implicitDefEqProofs [go_sem]
  refine SWp.join (α := List Sec × List Opn) (fun a => ([(3, .ptr H.length 0), (6, .ptr (H.length + 3) 0), (13, opsV (clnO a.2))], H ++ [some (stjC ⟨⟨a.1, []⟩, jj, rr.map Rcd.pay, true⟩), some [iv 3, iv (rgN size)], some (evC x), some [.v (.slice none 0 0), .v (.slice none 0 0), iv 0, iv 0, iv 0, iv 0, iv 0, .v (.slice none 0 0), .v (.slice none 0 0), cb false], some (jrC j'), some (jrC jj)], V))
    (fun a => (WEq a.1 s' ∧ ∀ q y, InW a.2 q y → 19 ≤ q) ∧ SI size (N + 1) a.1 jj rr ll ∧ WsOk a.1.length a.2 ∧ SI size (N + 1) (execS a.1 a.2) jj rr [] ∧ a.2.length ≤ 60) ?_ ?_
  · refine SWp.seq (Wp.s ?_)
    have hcl := cln_len ws
    have hct := cln_tot o2
    have hmul : (ws.length + 1) * s'.length ≤ 61 * 70 := Nat.mul_le_mul (by omega) (by omega)
    by_cases c2 : x.again.toNat < (clnO ws).length
    case neg =>
      have c2' : ¬ (x.again.toNat : Int) < ((clnO ws).length : Int) := by omega
      simp -implicitDefEqProofs [go_sem, w2, c2, c2']
      refine Wp.s ?_
      simp -implicitDefEqProofs [go_sem]
      exact ⟨s', ws, ⟨⟨.refl _, o5⟩, hsi, o2, o4, o6⟩, Sh.forget (by simp [go_sem]) rfl rfl⟩
    have c2' : (x.again.toNat : Int) < ((clnO ws).length : Int) := by omega
    have hne : ws ≠ [] := fun e => by rw [e] at c2; exact absurd c2 (Nat.not_lt_zero _)
    have hcw : clnO ws = ws ++ [opS] := if_neg hne
    simp -implicitDefEqProofs [go_sem, w2, c2, c2']
    refine SWp.condT rfl ?_
    refine SWp.seq (Wp.s ?_)
    simp -implicitDefEqProofs [go_sem, w2]
    refine CC.mono (sInterrupt_cc _ _ ⟨s', []⟩ (clnO ws) x.again.toNat .sh x.ch (by show s'.length ≤ _; omega) (by show [].length + _ ≤ _; simp; omega) (by omega) (by omega) sortOK) ?_
    rintro _ _ V9 ⟨d3, l3, e3, ⟨hI3, hl3⟩, rfl, rfl, eV⟩
    obtain rfl := eV.symm
    rw [hcw] at hI3
    obtain ⟨rfl, s3, rfl, hm3, -⟩ := itr_w (by omega) o2 (by rw [hcw] at c2; simp at c2; omega) hI3
    have hsi3 := o3 s3 hm3
    obtain ⟨ws3, p1, p2, p3, p4, p5, p6⟩ := hsi3.open19
    have hss3 := hsi3.small
    simp -implicitDefEqProofs [go_sem]
    refine SWp.seq (Wp.s ?_)
    simp -implicitDefEqProofs [go_sem]
    refine CC.mono (Open_cc _ _ 3 (rgN size) ⟨s3, []⟩ ⟨by show s3.length ≤ _; omega, by simp⟩ (loadS_len _ _)) ?_
    rintro _ _ _ ⟨rfl, rfl, rfl⟩
    rw [p1]
    simp -implicitDefEqProofs [go_sem, opV]
    refine Wp.s ?_
    simp -implicitDefEqProofs [go_sem]
    refine CC.mono (same_cc _ _ rr (rr.map Rcd.pay) (by omega)) ?_
    rintro _ _ _ ⟨rfl, rfl, rfl⟩
    rw [sameB_self hsi.kd]
    simp -implicitDefEqProofs [go_sem]
    refine CC.mono (Same_cc _ _ jj (by omega)) ?_
    rintro _ _ _ ⟨rfl, rfl, rfl⟩
    simp -implicitDefEqProofs [go_sem]
    exact ⟨s3, ws3, ⟨⟨hm3.weq o5, p5⟩, hsi3, p2, p4, p6⟩, Sh.forget (by simp [go_sem]) rfl rfl⟩
  rintro ⟨s4, ws4⟩ ⟨⟨q0, q00⟩, q1, q2, q3, q4⟩
  dsimp only at q0 q00 q1 q2 q3 q4 ⊢
  have hs4 := q1.small
  have hcl := cln_len ws4
  have hct := cln_tot q2
  have hmul : (ws4.length + 1) * s4.length ≤ 61 * 70 := Nat.mul_le_mul (by omega) (by omega)
  refine SWp.seq (Wp.s ?_)
  simp -implicitDefEqProofs [go_sem]
  refine CC.mono (sRun_cc _ _ ⟨s4, []⟩ (clnO ws4) (by show s4.length ≤ _; omega) (by show [].length + _ ≤ _; simp; omega) (by omega)) ?_
  rintro _ _ _ ⟨rfl, rfl, rfl⟩
  rw [cln_run (by omega) q2]
  simp -implicitDefEqProofs [go_sem, runV]
  refine SWp.seq (Wp.s ?_)
  simp -implicitDefEqProofs [go_sem]
  refine Wp.s ?_
  simp -implicitDefEqProofs [go_sem]
  exact fin ⟨q3, hsj _ _ <| .inr ⟨rfl, s', _, _, _, hsi, (((exec_mix ws4 s4 q2).weq q00).trans q0), .inr ⟨by omega, hjj, hI⟩⟩⟩ (by simp) (by simp)
def Rch (size : UInt8) (l : List Evt) : Nat → List Sec → Jrn → List Rcd → Prop
  | 0, s, j, rs => s = newS (rgN size + 7).toNat 3 ∧ j = newJ 3 (rgN size) ∧ rs = []
  | i + 1, s', j', rs' => ∃ s j rs x, Rch size l i s j rs ∧ SI size i s j rs [] ∧ l[i]? = some x ∧ StpJ size s j rs x s' j'
theorem two_run {size : UInt8} {l m : List Evt} (hlm : ∀ (q : Nat) x y, l[q]? = some x → m[q]? = some y → ShE x y) : ∀ (i : Nat), i ≤ 900 → ∀ {s t : List Sec} {j k : Jrn} {rs rt : List Rcd}, Rch size l i s j rs → Rch size m i t k rt → WEq s t ∧ j = k
  | 0, _, s, t, j, k, rs, rt, h, g => by
    obtain ⟨rfl, rfl, -⟩ := h
    obtain ⟨rfl, rfl, -⟩ := g
    exact ⟨.refl _, rfl⟩
  | i + 1, hi, s, t, j, k, rs, rt, h, g => by
    obtain ⟨s0, j0, rs0, x, h1, h2, h3, h4⟩ := h
    obtain ⟨t0, k0, rt0, y, g1, g2, g3, g4⟩ := g
    obtain ⟨w, rfl⟩ := two_run hlm i (by omega) h1 g1
    exact two_step (by omega) h2 g2 w (hlm i x y h3 g3) h4 g4
def RuA (size : UInt8) (l : List Evt) (H : Hp) (V : List Nat) : CV → Hp → List Nat → Prop := fun r H' V' => ∃ s' j' rs', (SI size l.length s' j' rs' [] ∧ Rch size l l.length s' j' rs') ∧ r = .agg (stjC (stj s' j' rs')) ∧ H' = H ∧ V' = V
set_option maxRecDepth 8000 in
theorem runA_cc (H : Hp) (V : List Nat) (size : UInt8) (l : List Evt) (hl : l.length ≤ 24) (hs : ∀ x ∈ l, x.pay.length ≤ 60 ∧ x.ch.length ≤ 60) : CC Tryz.prog 16 [.v (.int .u8 (size.toNat : Int)), .sl .sh 5 (l.map evC)] H V (RuA size l H V) := by
  refine CC.of_swp Tryz.func16 rfl (by kernel_rfl) (by rw [Tryz.ntmps16]; exact len_le _ _ rfl) fun hok hokH => ?_
  clear hok
  have h0 := SI.begin size
  refine SWp.seq (Wp.s ?_)
  simp -implicitDefEqProofs [go_sem, args0]
  refine SWp.seq (Wp.s ?_)
  simp -implicitDefEqProofs [go_sem]
  refine CC.mono (beginJ_cc _ _ size) ?_
  rintro _ _ _ ⟨rfl, rfl, rfl⟩
  have h00 : Rch size l 0 (newS (rgN size + 7).toNat 3) (newJ 3 (rgN size)) [] := ⟨rfl, rfl, rfl⟩
  generalize newS (rgN size + 7).toNat 3 = s0 at h0 h00 ⊢
  generalize newJ 3 (rgN size) = j0 at h0 h00 ⊢
  simp -implicitDefEqProofs [go_sem]
  refine SWp.seq (Wp.s ?_)
  simp -implicitDefEqProofs [go_sem, dkC, jrC]
  refine SWp.join (α := List Sec × Jrn × List Rcd) (fun a => ([(4, .ptr H.length 0), (8, .ptr (H.length + 3) 0)], H ++ [some zst10, some (dkC ⟨s0, []⟩), some (jrC j0), some (stjC (stj a.1 a.2.1 a.2.2))], V)) (fun a => SI size l.length a.1 a.2.1 a.2.2 [] ∧ Rch size l l.length a.1 a.2.1 a.2.2) ?_ ?_
  · refine SWp.seq (Wp.s ?_)
    simp -implicitDefEqProofs [go_sem]
    refine SWp.block ?_
    refine SWp.loop (α := Nat × List Sec × Jrn × List Rcd) (fun a => ([(0, .v (.int .u8 (size.toNat : Int))), (1, .sl .sh 5 (l.map evC)), (4, .ptr H.length 0), (8, .ptr (H.length + 3) 0), (9, ci a.1)], H ++ [some zst10, some (dkC ⟨s0, []⟩), some (jrC j0), some (stjC (stj a.2.1 a.2.2.1 a.2.2.2))], V))
      (fun a => a.1 ≤ l.length ∧ SI size a.1 a.2.1 a.2.2.1 a.2.2.2 [] ∧ Rch size l a.1 a.2.1 a.2.2.1 a.2.2.2) (fun a => l.length - a.1) (0, s0, j0, []) ⟨Nat.zero_le _, h0, h00⟩ ?_ ?_
    · refine Sh.weak (b := H.length + 3) (ds := stjC (stj s0 j0 [])) (hget _ _ 3) ?_ ?_ (Sh.forget (by simp [go_sem]) (by simp [go_sem]; exact ⟨rfl, rfl⟩) rfl)
      · exact .cons (.refl _) (.cons (.refl _) (.cons (.refl _) (.cons (.refl _) (.cons (.refl _) (.cons (.refl _) (.cons (.refl _) (.cons (.refl _) (.cons (.nil 1 (by decide)) (.cons (.refl _) .nil)))))))))
      · simp [CV.isObj, secsV, cachV]
    rintro ⟨i, s, j, rs⟩ ⟨hi, hsi, hrc⟩
    dsimp only at hi hsi hrc ⊢
    refine SWp.seq (SWp.seq (Wp.s ?_))
    by_cases h : i < l.length
    case neg =>
      obtain rfl : i = l.length := by omega
      simp -implicitDefEqProofs [go_sem]
      refine Wp.s ?_
      simp -implicitDefEqProofs [go_sem]
      exact ⟨s, j, rs, ⟨hsi, hrc⟩, Sh.forget (by simp [go_sem]) rfl rfl⟩
    simp -implicitDefEqProofs [go_sem, h]
    refine Wp.s ?_
    simp -implicitDefEqProofs [go_sem]
    have hx := hs _ (List.getElem_mem h)
    refine SWp.seq (SWp.block (SWp.drawnT [] [8] (.s 0 .pl <| .s 1 .pl <| .s 3 .pl <| .s 4 .pl <| .s 5 .pl <| .s 6 .pl <| .s 2 .pl <| .s 7 .pl <| .s 8 .st <| .n) (by kernel_rfl) (by kernel_rfl) ?_))
    simp -implicitDefEqProofs [go_sem, h]
    refine CC.mono (region_cc _ _ size) ?_
    rintro _ _ _ ⟨rfl, rfl, rfl⟩
    simp -implicitDefEqProofs [go_sem, h]
    refine CC.mono (stepA_cc _ _ size i (by omega) s j rs hsi l[i] hx.1 hx.2) ?_
    rintro _ _ V9 ⟨s', j', rs', ⟨hsi', hst'⟩, rfl, rfl, eV⟩
    obtain rfl := eV.symm
    simp -implicitDefEqProofs [go_sem]
    refine Wp.s ?_
    simp -implicitDefEqProofs [go_sem]
    refine ⟨i + 1, s', j', rs', ⟨by omega, hsi', s, j, rs, l[i], hrc, hsi, List.getElem?_eq_getElem h, hst'⟩, by omega, Sh.forget ?_ rfl rfl⟩
    simp [go_sem, wrap_succ (show i ≤ 1000000000 by omega)]
  rintro ⟨s, j, rs⟩ ⟨hsi, hrc⟩
  dsimp only at hsi hrc ⊢
  refine SWp.seq (Wp.s ?_)
  simp -implicitDefEqProofs [go_sem]
  refine Wp.s ?_
  simp -implicitDefEqProofs [go_sem]
  exact Fin.pure (r' := .agg (stjC (stj s j rs))) ⟨_, _, _, ⟨hsi, hrc⟩, rfl, rfl, rfl⟩ (by simp) (by simp) (.refl _) (by rw [okV, okL_stjC]; trivial) hokH
end Go.Proofs.YtmgoflhjblombaaGreatDoor
namespace Go.Proofs.YtmgoflhjblombaaGreatDoor
open Go.Proofs
def fbB (l : List UInt8) : List CV := l.map fun b => CV.v (.int .u8 (b.toNat : Int))
theorem fbB_flat : ∀ l : List UInt8, (bs l).flatten = fbB l
  | [] => rfl
  | b :: l => by rw [bs, List.map_cons, List.flatten_cons]; exact congrArg (_ :: ·) (fbB_flat l)
@[go_sem, simp] theorem fbB_len (l : List UInt8) : (fbB l).length = l.length := by rw [fbB, List.length_map]
@[go_sem] theorem fbB_get (l : List UInt8) (i : Nat) (h : i < (fbB l).length) : (fbB l)[i] = CV.v (.int .u8 ((l[i]'(by simpa using h)).toNat : Int)) := by simp [fbB]
theorem fbB_set (l : List UInt8) (i : Nat) (c : UInt8) (h : i < l.length) : (fbB l).take i ++ CV.v (.int .u8 (c.toNat : Int)) :: (fbB l).drop (i + 1) = fbB (l.set i c) := by
  rw [List.set_eq_take_append_cons_drop, if_pos h]
  simp [fbB]
theorem fbB_chunks : ∀ l : List UInt8, chunks 1 l.length (fbB l) = bs l
  | [] => rfl
  | b :: l => by
    rw [List.length_cons, chunks]
    exact congrArg (_ :: ·) (fbB_chunks l)
@[go_sem] theorem okL_fbB (i j : Nat) (l : List UInt8) : okL i j (fbB l) = True := eq_true (okL_iff.2 fun c hc => by
  obtain ⟨b, -, rfl⟩ := List.mem_map.1 hc
  rw [okV]; trivial)
def othB (o : List UInt8) (k : Nat) : UInt8 := if h : k < o.length then o[k] else UInt8.ofNat k
def othP (o : List UInt8) (n : Nat) : List UInt8 := (List.range n).map (othB o)
theorem othP_len (o : List UInt8) (n : Nat) : (othP o n).length = n := by rw [othP, List.length_map, List.length_range]
def mixP (o p : List UInt8) (k : Nat) : List UInt8 := othP o k ++ p.drop k
theorem mixP_len {o p : List UInt8} {k : Nat} (h : k ≤ p.length) : (mixP o p k).length = p.length := by
  rw [mixP, List.length_append, othP_len, List.length_drop]; omega
theorem mixP_0 (o p : List UInt8) : mixP o p 0 = p := rfl
theorem mixP_all (o p : List UInt8) : mixP o p p.length = othP o p.length := by rw [mixP, List.drop_length, List.append_nil]
theorem mixP_set {o p : List UInt8} {k : Nat} (h : k < p.length) (b : UInt8) : ((mixP o p k).set k b).set k (othB o k) = mixP o p (k + 1) := by
  rw [List.set_set]
  refine List.ext_getElem (by rw [List.length_set, mixP_len (by omega), mixP_len (by omega)]) fun i a c => ?_
  rw [List.getElem_set]
  simp only [mixP, othP]
  split
  · rename_i e
    subst e
    rw [List.getElem_append_left (by simp)]
    simp
  · rename_i e
    rw [List.getElem_append, List.getElem_append]
    simp only [List.length_map, List.length_range, List.getElem_map, List.getElem_range, List.getElem_drop]
    by_cases c1 : i < k
    · rw [dif_pos c1, dif_pos (by omega)]
    · rw [dif_neg c1, dif_neg (by omega)]
      congr 1; omega
theorem mixP_set1 {o p : List UInt8} {k : Nat} (h : k < p.length) (hk : ¬ k < o.length) : (mixP o p k).set k (UInt8.ofNat k) = mixP o p (k + 1) := by
  have := mixP_set (o := o) h (UInt8.ofNat k)
  rw [List.set_set, othB, dif_neg hk] at this
  exact this
def evO (o : List UInt8) (x : Evt) : Evt := ⟨x.kind, if x.kind.toNat % 2 = 0 then othP o x.pay.length else x.pay, x.after, x.again, x.ch⟩
theorem evO_sh (o : List UInt8) (x : Evt) : ShE x (evO o x) := by
  refine ⟨rfl, ?_, rfl, rfl⟩
  show x.pay.length = (if x.kind.toNat % 2 = 0 then othP o x.pay.length else x.pay).length
  split
  · rw [othP_len]
  · rfl
def evB (x : Evt) (b n : Nat) : List CV := [.v (.int .u8 (x.kind.toNat : Int)), .bsa b n 1, .v (.int .u8 (x.after.toNat : Int)), .v (.int .u8 (x.again.toNat : Int)), .sl .sh 1 (x.ch.map ic)]
@[go_sem, simp] theorem evB_len (x : Evt) (b n : Nat) : (evB x b n).length = 5 := rfl
@[go_sem, simp] theorem evB_take (x : Evt) (b n : Nat) : (evB x b n).take 5 = evB x b n := rfl
@[go_sem, simp] theorem evB_0 (x : Evt) (b n : Nat) (h : 0 < (evB x b n).length) : (evB x b n)[0] = CV.v (.int .u8 (x.kind.toNat : Int)) := rfl
@[go_sem, simp] theorem evB_1 (x : Evt) (b n : Nat) (h : 1 < (evB x b n).length) : (evB x b n)[1] = .bsa b n 1 := rfl
@[go_sem] theorem evC_setb (x : Evt) (b n : Nat) : List.take 1 (evC x) ++ .bsa b n 1 :: List.drop 2 (evC x) = evB x b n := rfl
theorem LeE.reflJ : ∀ l : List (List CV), LeE l l
  | [] => .nil
  | c :: l => .cons (LeL.refl c) (LeE.reflJ l)
theorem LeE.appJ : ∀ {a b c d : List (List CV)}, LeE a b → LeE c d → LeE (a ++ c) (b ++ d)
  | _, _, _, _, .nil, h => h
  | _, _, _, _, .cons h t, g => .cons h (LeE.appJ t g)
theorem FyL.rflJ (b : Nat) (cs : List CV) : ∀ l : List CV, FyL b cs l l
  | [] => .nil
  | c :: l => .cons (.refl c) (FyL.rflJ b cs l)
theorem FyE.rflJ (b : Nat) (cs : List CV) : ∀ l : List (List CV), FyE b cs l l
  | [] => .nil
  | c :: l => .cons (FyL.rflJ b cs c) (FyE.rflJ b cs l)
theorem FyE.appJ {b : Nat} {cs : List CV} : ∀ {x y z w : List (List CV)}, FyE b cs x y → FyE b cs z w → FyE b cs (x ++ z) (y ++ w)
  | _, _, _, _, .nil, h => h
  | _, _, _, _, .cons h t, g => .cons h (FyE.appJ t g)
def evS (x : Evt) (b n : Nat) : List CV := [.v (.int .u8 (x.kind.toNat : Int)), .bsl b 0 n 1, .v (.int .u8 (x.after.toNat : Int)), .v (.int .u8 (x.again.toNat : Int)), .sl .sh 1 (x.ch.map ic)]
theorem evB_S (x : Evt) (b n : Nat) : LeL (evB x b n) (evS x b n) := .cons (.refl _) (.cons (.bsa _ _ _) (.cons (.refl _) (.cons (.refl _) (.cons (.refl _) .nil))))
theorem evS_C (x : Evt) (b : Nat) (pp : List UInt8) (o : List UInt8) (h : pp = (evO o x).pay) : FyL b (fbB pp) (evS x b pp.length) (evC (evO o x)) := by
  have hf := Fy.bsl (b := b) (cs := fbB pp) 0 pp.length 1 (by simp)
  rw [List.drop_zero, fbB_chunks] at hf
  have e : evC (evO o x) = [.v (.int .u8 (x.kind.toNat : Int)), .sl .sh 1 (bs pp), .v (.int .u8 (x.after.toNat : Int)), .v (.int .u8 (x.again.toNat : Int)), .sl .sh 1 (x.ch.map ic)] := by rw [h]; rfl
  rw [e]
  exact .cons (.refl _) (.cons hf (.cons (.refl _) (.cons (.refl _) (.cons (.refl _) .nil))))
set_option maxRecDepth 8000 in
theorem JIgnores_law (H : Hp) (V : List Nat) (size : UInt8) (l : List Evt) (hl : l.length ≤ 9223372036854775807) (o : List UInt8) (hol : o.length ≤ maxLen) : CC Tryz.prog 5 [.v (.int .u8 (size.toNat : Int)), .sl .sh 5 (l.map evC), .sl .sh 1 (bs o)] H V (Pu (cb true) H V) := by
  refine CC.of_swp Tryz.func5 rfl (by kernel_rfl) (by rw [Tryz.ntmps5]; exact len_le _ _ rfl) fun hok hokH => ?_
  clear hok
  refine SWp.seq (Wp.s ?_)
  simp -implicitDefEqProofs [go_sem, args0]
  refine SWp.seq (Wp.s ?_)
  simp -implicitDefEqProofs [go_sem]
  refine CC.mono (small_cc _ _ l hl) ?_
  rintro _ _ _ ⟨rfl, rfl, rfl⟩
  cases hsb : smallB l with
  | false =>
    simp -implicitDefEqProofs [go_sem]
    refine CC.mono (awake_cc _ _) ?_
    rintro _ _ _ ⟨rfl, rfl, rfl⟩
    simp -implicitDefEqProofs [go_sem]
    exact Fin.bool rfl hokH (by simp) (by simp)
  | true =>
  obtain ⟨hs1, hs2⟩ := small_ok hsb
  by_cases ho : 40 < o.length
  · have ho' : 40 < (o.length : Int) := by omega
    simp -implicitDefEqProofs [go_sem, ho, ho']
    refine CC.mono (awake_cc _ _) ?_
    rintro _ _ _ ⟨rfl, rfl, rfl⟩
    simp -implicitDefEqProofs [go_sem]
    exact Fin.bool rfl hokH (by simp) (by simp)
  have ho' : ¬ 40 < (o.length : Int) := by omega
  simp -implicitDefEqProofs [go_sem, ho, ho']
  refine SWp.seq (Wp.s ?_)
  simp -implicitDefEqProofs [go_sem]
  refine SWp.join (α := Unit) (fun _ => ([(0, .v (.int .u8 (size.toNat : Int))), (1, .sl .sh 5 (l.map evC)), (7, .sl (.own V.length l.length) 5 ((l.map (evO o)).map evC))], H, V ++ [l.length])) (fun _ => True) ?_ ?_
  · refine SWp.seq (Wp.s ?_)
    simp -implicitDefEqProofs [go_sem]
    refine SWp.block ?_
    refine SWp.loop (α := Nat) (fun i => ([(0, .v (.int .u8 (size.toNat : Int))), (1, .sl .sh 5 (l.map evC)), (2, .sl .sh 1 (bs o)), (7, .sl (.own V.length i) 5 (((l.take i).map (evO o)).map evC)), (8, ci i)], H, V ++ [i])) (fun i => i ≤ l.length) (fun i => l.length - i) 0 (Nat.zero_le _) (Sh.tokT (by simp [go_sem]) rfl rfl) ?_
    intro i hi
    dsimp only
    refine SWp.seq (SWp.seq (Wp.s ?_))
    by_cases h : i < l.length
    case neg =>
      obtain rfl : i = l.length := by omega
      simp -implicitDefEqProofs [go_sem]
      refine Wp.s ?_
      simp -implicitDefEqProofs [go_sem]
      exact Sh.forget (by simp [go_sem]) rfl rfl
    simp -implicitDefEqProofs [go_sem, h]
    refine Wp.s ?_
    simp -implicitDefEqProofs [go_sem]
    have hmn : min i l.length = i := by omega
    obtain ⟨hx1, hx2⟩ := hs2 _ (List.getElem_mem h)
    have tk1 : (l.take (i + 1)).map (evO o) = (l.take i).map (evO o) ++ [evO o l[i]] := by rw [List.take_succ_eq_append_getElem h, List.map_append]; rfl
    have tkM : List.take (i + 1) (List.map (evC ∘ evO o) l) = List.take i (List.map (evC ∘ evO o) l) ++ [evC (evO o l[i])] := by
      rw [List.take_succ_eq_append_getElem (by simpa using h)]; simp
    have okM : ∀ a b k, okE a b (List.take k (List.map (evC ∘ evO o) l)) = True := fun a b k => by
      rw [← List.map_map, ← List.map_take]
      exact okE_evs a b _
    have wi : IntKind.i64.wrap ((i : Int) + 1) = (i : Int) + 1 := wrap_succ (show i ≤ 1000000000 by omega)
    generalize hx : l[i] = x at *
    refine SWp.seq (SWp.block (SWp.seq (Wp.s ?_)))
    simp -implicitDefEqProofs [go_sem, h, hx]
    by_cases hp : x.pay = []
    · have hbs : bs x.pay = [] := by rw [hp]; rfl
      have hox : evO o x = x := by
        obtain ⟨xk, xp, xa, xg, xc⟩ := x
        dsimp only at hp
        subst hp
        rw [evO]
        congr 1
        split <;> rfl
      refine SWp.seq (Wp.s ?_)
      simp -implicitDefEqProofs [go_sem, hbs]
      refine SWp.join (α := Unit) (fun _ => ([(0, .v (.int .u8 (size.toNat : Int))), (1, .sl .sh 5 (l.map evC)), (2, .sl .sh 1 (bs o)), (7, .sl (.own V.length i) 5 (((l.take i).map (evO o)).map evC)), (8, ci i), (9, .ptr H.length 0)], H ++ [some (evC x)], V ++ [i, 0])) (fun _ => True) ?_ ?_
      · refine SWp.seq (Wp.s ?_)
        simp -implicitDefEqProofs [go_sem]
        refine SWp.block ?_
        refine SWp.loop (α := Unit) (fun _ => ([(0, .v (.int .u8 (size.toNat : Int))), (1, .sl .sh 5 (l.map evC)), (2, .sl .sh 1 (bs o)), (7, .sl (.own V.length i) 5 (((l.take i).map (evO o)).map evC)), (8, ci i), (9, .ptr H.length 0), (10, ci 0)], H ++ [some (evC x)], V ++ [i, 0])) (fun _ => True) (fun _ => 0) () trivial ?_ ?_
        · refine Sh.weak (b := H.length) (ds := evC x) (hget _ _ 0) ?_ ?_ (Sh.forget (by simp [go_sem]) (by simp) rfl)
          · exact .cons (.refl _) (.cons (by rw [hbs]; exact .sh _ _ _) (.cons (.refl _) (.cons (.refl _) (.cons (.refl _) .nil))))
          · simp [CV.isObj, evC]
        rintro - -
        dsimp only
        refine SWp.seq (SWp.seq (Wp.s ?_))
        simp -implicitDefEqProofs [go_sem, hp]
        refine Wp.s ?_
        simp -implicitDefEqProofs [go_sem]
        exact Sh.forget (by simp [go_sem]) rfl rfl
      rintro _ -
      dsimp only
      refine Wp.s ?_
      simp -implicitDefEqProofs [go_sem]
      refine ⟨by omega, Wp.s ?_⟩
      simp -implicitDefEqProofs [go_sem]
      refine ⟨i + 1, by omega, by omega, Sh.trim0 ?_ ?_ hokH (by simp) (by simp) (by simp)⟩
      · rw [tkM, hox]; simp [go_sem, wi]
      · simp [go_sem, okE_evs, okM]
    have hbs : bs x.pay ≠ [] := fun e => hp (by simpa [bs] using e)
    have hp1 : 0 < x.pay.length := List.length_pos_iff.2 hp
    refine SWp.seq (SWp.opx (pre := [_, _, _]) (post := [_, _]) rfl (by intro c e; cases e) ?_)
    simp -implicitDefEqProofs [go_sem, hbs]
    refine ⟨_, _, _, appbox (sz := 1) (tk := .sh) (ys := bs x.pay) slTy51 slTy51 rfl rfl hbs (by rw [bs, List.length_map]; omega), ?_⟩
    rw [fbB_flat]
    simp -implicitDefEqProofs [go_sem]
    have hkk := x.kind.toNat_lt
    obtain ⟨z, hz⟩ : ∃ z, z = x.kind.toNat % 2 := ⟨_, rfl⟩
    have m1 : (x.kind.toNat : Int).tmod 2 = (z : Int) := by rw [Int.tmod_eq_emod_of_nonneg (by omega)]; omega
    have m1' : (x.kind.toNat : Int) % 2 = (z : Int) := by omega
    have m2 : IntKind.u8.wrap (z : Int) = (z : Int) := by rw [IntKind.wrap_u8]; omega
    obtain ⟨pp, hpp⟩ : ∃ pp, pp = (evO o x).pay := ⟨_, rfl⟩
    have hppe : pp = if x.kind.toNat % 2 = 0 then othP o x.pay.length else x.pay := hpp
    refine SWp.join (α := Unit) (fun _ => ([(0, .v (.int .u8 (size.toNat : Int))), (1, .sl .sh 5 (l.map evC)), (2, .sl .sh 1 (bs o)), (7, .sl (.own V.length i) 5 (((l.take i).map (evO o)).map evC)), (8, ci i), (9, .ptr H.length 0)], H ++ [some (evB x (H.length + 1) x.pay.length), some (fbB pp)], V ++ [i])) (fun _ => True) ?_ ?_
    · refine SWp.seq (Wp.s ?_)
      simp -implicitDefEqProofs [go_sem]
      refine SWp.block ?_
      refine SWp.loop (α := Nat) (fun k => ([(0, .v (.int .u8 (size.toNat : Int))), (1, .sl .sh 5 (l.map evC)), (2, .sl .sh 1 (bs o)), (7, .sl (.own V.length i) 5 (((l.take i).map (evO o)).map evC)), (8, ci i), (9, .ptr H.length 0), (10, ci k)], H ++ [some (evB x (H.length + 1) x.pay.length), some (fbB (mixP o x.pay k))], V ++ [i])) (fun k => k ≤ x.pay.length ∧ (z ≠ 0 → k = 0)) (fun k => x.pay.length - k) 0 ⟨Nat.zero_le _, fun _ => rfl⟩ (Sh.forget (by simp [go_sem]) (by rw [mixP_0]) rfl) ?_
      rintro k ⟨hk, hkz⟩
      dsimp only at hk hkz ⊢
      have hml := mixP_len (o := o) hk
      refine SWp.seq (SWp.seq (Wp.s ?_))
      by_cases h1 : k < x.pay.length
      case neg =>
        obtain rfl : k = x.pay.length := by omega
        have hz0 : z = 0 := Classical.byContradiction fun c => by have := hkz c; omega
        simp -implicitDefEqProofs [go_sem]
        refine Wp.s ?_
        simp -implicitDefEqProofs [go_sem]
        refine Sh.forget (by simp [go_sem]) ?_ rfl
        rw [hppe, if_pos (by omega), mixP_all]
      have h1' : (k : Int) < (x.pay.length : Int) := by omega
      by_cases h2 : z = 0
      case neg =>
        have h2' : ¬ (z : Int) = 0 := by omega
        obtain rfl := hkz h2
        simp -implicitDefEqProofs [go_sem, h1, h1', m1, m1', m2, h2, h2']
        refine Wp.s ?_
        simp -implicitDefEqProofs [go_sem]
        refine Sh.forget (by simp [go_sem]) ?_ rfl
        rw [hppe, if_neg (by omega), mixP_0]
      have h2' : (z : Int) = 0 := by omega
      have w1 : IntKind.u8.wrap (k : Int) = ((UInt8.ofNat k).toNat : Int) := by rw [IntKind.wrap_u8, UInt8.toNat_ofNat']; omega
      simp -implicitDefEqProofs [go_sem, h1, h1', m1, m1', m2, h2, h2']
      refine Wp.s ?_
      simp -implicitDefEqProofs [go_sem]
      refine SWp.seq (SWp.block (SWp.seq (Wp.s ?_)))
      simp -implicitDefEqProofs [go_sem, h1, hml]
      rw [w1]
      refine ⟨by omega, ?_⟩
      have hms : k < (mixP o x.pay k).length := by omega
      rw [fbB_set _ k (UInt8.ofNat k) hms]
      refine SWp.seq (Wp.s ?_)
      have wk : IntKind.i64.wrap ((k : Int) + 1) = (k : Int) + 1 := wrap_succ (show k ≤ 1000000000 by omega)
      by_cases h3 : k < o.length
      case neg =>
        have h3' : ¬ (k : Int) < (o.length : Int) := by omega
        simp -implicitDefEqProofs [go_sem, h3, h3']
        refine Wp.s ?_
        simp -implicitDefEqProofs [go_sem]
        refine Wp.s ?_
        simp -implicitDefEqProofs [go_sem]
        refine ⟨k + 1, by omega, by omega, Sh.forget (by simp [go_sem, wk]) ?_ rfl⟩
        rw [mixP_set1 h1 h3]
      have h3' : (k : Int) < (o.length : Int) := by omega
      simp -implicitDefEqProofs [go_sem, h3, h3']
      refine SWp.condT rfl ?_
      refine SWp.drawnT [] [8] (.s 0 .pl <| .s 1 .pl <| .s 2 .pl <| .s 3 .pl <| .s 4 .pl <| .s 5 .pl <| .s 6 .pl <| .s 7 .pl <| .s 8 .st <| .n) (by kernel_rfl) (by kernel_rfl) ?_
      simp -implicitDefEqProofs [go_sem, h1, h3, hml]
      refine ⟨by omega, ?_⟩
      rw [fbB_set _ k o[k] (by rw [List.length_set]; omega)]
      refine Wp.s ?_
      simp -implicitDefEqProofs [go_sem]
      refine ⟨k + 1, by omega, by omega, Sh.forget (by simp [go_sem, wk]) ?_ rfl⟩
      rw [← mixP_set h1 (UInt8.ofNat k), show othB o k = o[k] from dif_pos h3, List.set_set]
    rintro _ -
    dsimp only
    refine Wp.s ?_
    simp -implicitDefEqProofs [go_sem]
    refine ⟨rfl, by omega, Wp.s ?_⟩
    simp -implicitDefEqProofs [go_sem]
    have hpl : pp.length = x.pay.length := by rw [hpp]; exact (evO_sh o x).2.1.symm
    refine ⟨i + 1, by omega, by omega, ?_⟩
    refine Gst.trans (T' := [(0, .v (.int .u8 (size.toNat : Int))), (1, .sl .sh 5 (l.map evC)), (2, .sl .sh 1 (bs o)), (7, .sl (.own V.length (i + 1)) 5 (List.take i (List.map (evC ∘ evO o) l) ++ [evS x (H.length + 1) pp.length])), (8, ci ((i : Int) + 1))]) (Gst.ge fun p hp => ?_) ?_
    · simp only [List.mem_cons, List.not_mem_nil, or_false] at hp
      rcases hp with rfl | rfl | rfl | rfl | rfl
      · simp [go_sem]
      · simp [go_sem]
      · simp [go_sem]
      · simp [go_sem]; rw [hpl]; exact Ge.slk (LeE.appJ (LeE.reflJ _) (.cons (evB_S _ _ _) .nil))
      · simp [go_sem, wi]
    refine Gst.trans (T' := [(0, .v (.int .u8 (size.toNat : Int))), (1, .sl .sh 5 (l.map evC)), (2, .sl .sh 1 (bs o)), (7, .sl (.own V.length (i + 1)) 5 (List.take i (List.map (evC ∘ evO o) l) ++ [evC (evO o x)])), (8, ci ((i : Int) + 1))]) (Gst.freezeK (b := H.length + 1) (cs := fbB pp) (by rw [hget]; rfl) (TFk.get ⟨by simp [go_sem], by simp [go_sem], by simp [go_sem], Fk.slk _ _ (FyE.appJ (FyE.rflJ _ _ _) (.cons (evS_C x _ pp o hpp) .nil)), by simp [go_sem], trivial⟩)) ?_
    refine Sh.trim0 ?_ ?_ hokH (by simp) (by simp) (by simp)
    · rw [tkM]; simp [go_sem]
    · simp [go_sem, okE_evs, okM]
  rintro _ -
  dsimp only
  have hs2' : ∀ x ∈ l.map (evO o), x.pay.length ≤ 60 ∧ x.ch.length ≤ 60 := fun x hx => by
    obtain ⟨y, hy, rfl⟩ := List.mem_map.1 hx
    have h1 := hs2 y hy
    have h2 := (evO_sh o y).2.1
    exact ⟨by omega, h1.2⟩
  refine SWp.seq (Wp.s ?_)
  simp -implicitDefEqProofs [go_sem]
  refine CC.mono (runA_cc _ _ size l hs1 hs2) ?_
  rintro _ _ V9 ⟨s1, j1, rs1, ⟨hsi1, hr1⟩, rfl, rfl, eV⟩
  obtain rfl := eV.symm
  simp -implicitDefEqProofs [go_sem]
  rw [← List.map_map]
  refine CC.mono (CC.le (.cons (.refl _) (.cons (.sh _ _ _) .nil)) (runA_cc _ _ size (l.map (evO o)) (by simpa using hs1) hs2')) ?_
  rintro _ _ V9 ⟨s2, j2, rs2, ⟨hsi2, hr2⟩, rfl, rfl, eV⟩
  obtain rfl := eV.symm
  rw [List.length_map] at hr2
  obtain ⟨-, rfl⟩ := two_run (l := l) (m := l.map (evO o)) (fun q x y hx hy => by
    rw [List.getElem?_map, hx] at hy
    obtain rfl := Option.some.inj hy
    exact evO_sh o x) l.length (by omega) hr1 hr2
  have hsm := hsi1.small
  simp -implicitDefEqProofs [go_sem]
  refine SWp.seq (Wp.s ?_)
  simp -implicitDefEqProofs [go_sem]
  refine CC.mono (awake_cc _ _) ?_
  rintro _ _ _ ⟨rfl, rfl, rfl⟩
  simp -implicitDefEqProofs [go_sem]
  refine CC.mono (Same_cc _ _ j1 (by omega)) ?_
  rintro _ _ _ ⟨rfl, rfl, rfl⟩
  simp -implicitDefEqProofs [go_sem]
  refine Wp.s ?_
  simp -implicitDefEqProofs [go_sem]
  exact Fin.bool rfl hokH (by simp) (by simp)
end Go.Proofs.YtmgoflhjblombaaGreatDoor
namespace Go.Proofs.YtmgoflhjblombaaGreatDoor
open Go.Proofs
end Go.Proofs.YtmgoflhjblombaaGreatDoor
namespace Go.Proofs.YtmgoflhjblombaaGreatDoor
open Go.RowKit

def gh0 (w : World) : Gh where
  lim k := match w.heap[k]? with
    | some (.cells c _ _) => c.size
    | _ => 0
  box := []
  tip := []

theorem gh0_inv (w : World) : Inv (gh0 w) w [] [] where
  boxlen := rfl
  tiplen := rfl
  limv k h := by
    simp only [gh0] at h ⊢
    split at h
    · rename_i c e fr hc
      exact ⟨c, e, fr, hc, by simp⟩
    · omega
  tips := by intro t k h; simp [gh0] at h
  boxes := by intro b k h; simp [gh0] at h
  uniq := by intro b b' k cs cs' h; simp at h
  live := by intro b cs h; simp at h

theorem gh0_lim {w : World} {k o : Nat} {u : Value} (h : w.cell? ⟨k, o, none⟩ = some u) : o < (gh0 w).lim k := by
  simp only [World.cell?] at h
  simp only [gh0]
  split at h
  · rename_i c e fr hc
    simp only [hc]
    simp at h
    obtain ⟨h, _⟩ := Array.getElem?_eq_some_iff.1 h
    exact h
  · cases h

theorem law_calls {P : Program} {f : FuncId} {args : Array Value} {W : World} {cs : List CV} {R : CV → Hp → List Nat → Prop} (hrel : RelL (gh0 W) W [] cs args.toList) (h : CC P f cs [] [] R)
    (hR : ∀ r H V, R r H V → r = .v (.bool true)) : Calls P f args W fun e W' => e = .returned (.bool true) ∧ Below W.heap.size W W' := by
  have := h.2 (gh0 W) W args.toList (gh0_inv W) hrel
  rw [Array.toArray_toList] at this
  refine this.mono ?_
  rintro e w' ⟨u, m', r, H', V', rfl, hr, _, hu, hx⟩
  obtain rfl := hR _ _ _ hr
  rw [RelV] at hu
  subst hu
  exact ⟨rfl, hx.os, hx.tape, hx.output, hx.size, fun k hk => hx.same k hk (by simp [gh0]) (by simp [gh0])⟩

def Opens (P : Program) (t : TypeId) (S : List CV → Prop) : Prop :=
  ∀ (H : Type) (enc : TypeId × Value → H) (w : World) (base : Nat) (spare : Nat → Bool) (held : Bool) (fuel : Nat) (us : List Value) (x : DataW H × List MemPlace),
    DataW.trod enc P w base spare held fuel t us = some x → ∃ cs, S cs ∧ RelL (gh0 w) w [] cs us ∧ ∀ u ∈ us, u.oneCell' = true

theorem relL_one {m : Gh} {w : World} {V : List Nat} {c : CV} {u : Value} (h : RelV m w V c u) : RelL m w V [c] [u] := by
  rw [RelL]; exact ⟨u, [], rfl, h, by rw [RelL]⟩

theorem relL_one' {m : Gh} {w : World} {V : List Nat} {c : CV} {u : Value} (h : RelL m w V [c] [u]) : RelV m w V c u := by
  rw [RelL] at h; obtain ⟨_, _, h1, h2, _⟩ := h; cases h1; exact h2

theorem relL_nil {m : Gh} {w : World} {V : List Nat} : RelL m w V [] [] := by rw [RelL]
theorem relL_mk2 {m : Gh} {w : World} {V : List Nat} {c : CV} {u : Value} {cs : List CV} {us : List Value} (h : RelV m w V c u) (h2 : RelL m w V cs us) : RelL m w V (c :: cs) (u :: us) := by
  rw [RelL]; exact ⟨u, us, rfl, h, h2⟩
variable {P : Program} {t e : TypeId}
theorem Opens.int {k : IntKind} (ht : P.underlying t = some (.int k)) : Opens P t fun cs => ∃ n, cs = [.v (.int k n)] ∧ (Lit.int k n).wf = true := by
  intro H enc w base spare held fuel us x h
  obtain ⟨n, rfl, _, hw⟩ := DataW.trod_int ht h
  exact ⟨_, ⟨n, rfl, hw⟩, relL_one (by rw [RelV]), by simp [Value.oneCell']⟩

theorem Opens.bool (ht : P.underlying t = some .bool) : Opens P t fun cs => ∃ b, cs = [.v (.bool b)] := by
  intro H enc w base spare held fuel us x h
  obtain ⟨n, rfl, _⟩ := DataW.trod_bool ht h
  exact ⟨_, ⟨n, rfl⟩, relL_one (by rw [RelV]), by simp [Value.oneCell']⟩

theorem Opens.string (ht : P.underlying t = some .string) : Opens P t fun cs => ∃ s : ByteArray, cs = [.v (.string s)] ∧ s.size ≤ maxLen := by
  intro H enc w base spare held fuel us x h
  obtain ⟨n, rfl, _, hs⟩ := DataW.trod_string ht h
  exact ⟨_, ⟨n, rfl, hs⟩, relL_one (by rw [RelV]), by simp [Value.oneCell']⟩

theorem cells_get {w : World} {base : Nat} {a : Addr} {n : Nat} {us : List Value} (h : w.cells? base a n = some us) : us.length = n ∧ ∀ j, j < n → w.cell? (a.add j) = us[j]? := by
  unfold World.cells? at h
  split at h
  · exact ⟨by simpa using mapM_some_length h, fun j hj => mapM_some_get h j j (by simp [hj])⟩
  · cases h

theorem add_none {a : Addr} (ha : a.spot = none) (i : Nat) : a.add i = ⟨a.block, a.off + i, none⟩ := by
  cases a with
  | mk b o s =>
    simp only at ha
    subst ha
    unfold Addr.add
    split <;> simp_all

theorem Opens.slice {sz : Nat} {S : List CV → Prop} (ht : P.underlying t = some (.slice e)) (hs : P.cellsOf e = sz) (h0 : 0 < sz) (he : Opens P e S) :
    Opens P t fun cs => ∃ xs, cs = [.sl .sh sz xs] ∧ xs.length ≤ maxLen ∧ ∀ x ∈ xs, S x := by
  intro H enc w base spare held fuel us x h
  rcases DataW.trod_slice ht h with ⟨rfl, _⟩ | ⟨a, len, cap, elems, rest, n, _, rfl, rfl, hb, hl, hm, hlen, hel, hsp, hns⟩
  · refine ⟨_, ⟨[], rfl, by simp, by simp⟩, relL_one ?_, by simp [Value.oneCell']⟩
    rw [RelV]
    exact ⟨none, 0, rfl, by simp, trivial, h0, .inl rfl⟩
  · have key : ∀ i, i < len → ∃ (cs : List CV) (vs : List Value), S cs ∧ RelL (gh0 w) w [] cs vs ∧ (∀ u ∈ vs, u.oneCell' = true) ∧ vs.length = sz ∧ ∀ j, j < sz → w.cell? ((a.add (i * sz)).add j) = vs[j]? := by
      intro i hi
      have h1 := hel i hi
      rw [List.getElem?_eq_getElem (by omega)] at h1
      obtain ⟨vs, h2, h3⟩ := Option.bind_eq_some_iff.1 h1
      obtain ⟨cs, h4, h5, h6⟩ := he _ enc w base spare held n vs _ h3
      rw [hs] at h2
      obtain ⟨h7, h8⟩ := cells_get h2
      exact ⟨cs, vs, h4, h5, h6, h7, h8⟩
    by_cases hz : len = 0
    · subst hz
      refine ⟨_, ⟨[], rfl, by simp, by simp⟩, relL_one ?_, by simp [Value.oneCell']⟩
      rw [RelV]
      exact ⟨some a, cap, rfl, by simp, trivial, h0, .inl rfl⟩
    · have hsp : a.spot = none := by
        obtain ⟨cs, vs, _, _, _, h7, h8⟩ := key 0 (by omega)
        have h9 := h8 0 h0
        rw [List.getElem?_eq_getElem (by omega)] at h9
        have : (a.add (0 * sz)).add 0 = a := by simp [Addr.add]
        rw [this] at h9
        simp only [World.cell?] at h9
        split at h9
        · split at h9
          · cases h9
          · rename_i h; simpa using h
        · cases h9
      let g : Nat → List CV := fun i => if h : i < len then Classical.choose (key i h) else []
      have hg : ∀ i (h : i < len), ∃ (vs : List Value), S (g i) ∧ RelL (gh0 w) w [] (g i) vs ∧ (∀ u ∈ vs, u.oneCell' = true) ∧ vs.length = sz ∧ ∀ j, j < sz → w.cell? ((a.add (i * sz)).add j) = vs[j]? := by
        intro i h
        have := Classical.choose_spec (key i h)
        simp only [g, h, dif_pos]
        exact this
      have cell : ∀ i j, i < len → j < sz → ∃ u, w.cell? ⟨a.block, a.off + i * sz + j, none⟩ = some u := by
        intro i j hi hj
        obtain ⟨vs, _, _, _, h7, h8⟩ := hg i hi
        have h9 := h8 j hj
        rw [List.getElem?_eq_getElem (by omega), add_none hsp, add_none rfl] at h9
        exact ⟨_, h9⟩
      refine ⟨_, ⟨(List.range len).map g, rfl, by simp; omega, ?_⟩, relL_one ?_, by simp [Value.oneCell']⟩
      · intro x hx
        obtain ⟨i, hi, rfl⟩ := List.mem_map.1 hx
        obtain ⟨_, h4, _⟩ := hg i (by simpa using hi)
        exact h4
      · rw [RelV]
        refine ⟨some a, cap, by simp, by simp; omega, trivial, h0, .inr ⟨a.block, a.off, by cases a; simp_all, ?_, relE_mk fun j c hc => ?_⟩⟩
        · obtain ⟨u, hu⟩ := cell (len - 1) (sz - 1) (by omega) (by omega)
          have := gh0_lim hu
          simp only [List.length_map, List.length_range]
          have h1 : len * sz = (len - 1) * sz + sz := by
            rw [← Nat.succ_mul]; congr 1; omega
          omega
        · simp only [List.getElem?_map, Option.map_eq_some_iff] at hc
          obtain ⟨i, hi, rfl⟩ := hc
          obtain ⟨hi', hi⟩ := List.getElem?_eq_some_iff.1 hi
          simp at hi hi'
          subst hi
          obtain ⟨vs, h4, h5, h6, h7, h8⟩ := hg j hi'
          have hl := relL_length h5
          refine ⟨by omega, relC_mk fun q c hc => ?_⟩
          obtain ⟨u, hu, hv⟩ := relL_get h5 q c hc
          have hq : q < sz := by
            have := (List.getElem?_eq_some_iff.1 hc).1
            omega
          have h9 := h8 q hq
          rw [hu, add_none hsp, add_none rfl] at h9
          exact ⟨u, h9, hv, h6 u (List.mem_of_getElem? hu)⟩

def OpensF (P : Program) (N : Nat) (fs : List Field) (o : Nat) (S : List CV → Prop) : Prop :=
  ∀ (H : Type) (enc : TypeId × Value → H) (w : World) (base : Nat) (spare : Nat → Bool) (held : Bool) (fuel : Nat) (us : List Value), us.length = N →
    (∀ f ∈ fs, ∃ x, DataW.trod enc P w base spare held fuel f.type ((us.drop f.offset).take (P.cellsOf f.type)) = some x) →
    ∃ cs, S cs ∧ RelL (gh0 w) w [] cs (us.drop o) ∧ ∀ u ∈ us.drop o, u.oneCell' = true

theorem OpensF.nil {N : Nat} : OpensF P N [] N fun cs => cs = [] := by
  intro H enc w base spare held fuel us hl h
  subst hl
  exact ⟨_, rfl, by rw [List.drop_length, RelL], by simp⟩

theorem OpensF.cons {N : Nat} {f : Field} {fs : List Field} {o n : Nat} {S S' : List CV → Prop} (ho : f.offset = o) (hn : P.cellsOf f.type = n) (h1 : Opens P f.type S) (h2 : OpensF P N fs (o + n) S') :
    OpensF P N (f :: fs) o fun cs => ∃ a b, cs = a ++ b ∧ S a ∧ S' b := by
  intro H enc w base spare held fuel us hl h
  obtain ⟨x, hx⟩ := h f (by simp)
  rw [ho, hn] at hx
  obtain ⟨a, ha, ra, oa⟩ := h1 _ enc w base spare held fuel _ _ hx
  obtain ⟨b, hb, rb, ob⟩ := h2 _ enc w base spare held fuel us hl fun g hg => h g (List.mem_cons_of_mem _ hg)
  have hd : us.drop o = (us.drop o).take n ++ us.drop (o + n) := by
    rw [← List.drop_drop, List.take_append_drop]
  refine ⟨_, ⟨a, b, rfl, ha, hb⟩, ?_, ?_⟩
  · rw [hd]; exact relL_append ra rb
  · rw [hd]
    intro u hu
    rcases List.mem_append.1 hu with h | h
    · exact oa u h
    · exact ob u h

theorem Opens.struct {fs : Array Field} {S : List CV → Prop} (ht : P.underlying t = some (.struct fs)) {N : Nat} (hN : P.cellsOf t = N) (h : OpensF P N fs.toList 0 S) : Opens P t S := by
  intro H enc w base spare held fuel us x hx
  obtain ⟨xs, n, _, _, hl, hl2, hf⟩ := DataW.trod_struct ht hx
  obtain ⟨cs, h1, h2, h3⟩ := h _ enc w base spare held n us (by omega) (by
    intro f hf'
    obtain ⟨i, hi⟩ := List.getElem?_of_mem hf'
    have := hf i f (by simpa using hi)
    have hi' : i < fs.size := by
      have := (List.getElem?_eq_some_iff.1 hi).1
      simpa using this
    rw [this, List.getElem?_eq_getElem (by omega)]
    exact ⟨_, rfl⟩)
  exact ⟨cs, h1, by simpa using h2, by simpa using h3⟩

theorem Opens.array {n sz : Nat} {S : List CV → Prop} (ht : P.underlying t = some (.array n e)) (hs : P.cellsOf e = sz) (hN : P.cellsOf t = n * sz) (he : Opens P e S) :
    Opens P t fun cs => ∃ xs : List (List CV), cs = xs.flatten ∧ xs.length = n ∧ ∀ x ∈ xs, S x := by
  intro H enc w base spare held fuel us x hx
  obtain ⟨xs, m, _, _, hl, hl2, hf⟩ := DataW.trod_array ht hx
  rw [hN] at hl
  rw [hs] at hf
  have key : ∀ q, q ≤ n → ∃ ys : List (List CV), ys.length = q ∧ (∀ x ∈ ys, S x) ∧ RelL (gh0 w) w [] ys.flatten (us.drop ((n - q) * sz)) ∧ ∀ u ∈ us.drop ((n - q) * sz), u.oneCell' = true := by
    intro q
    induction q with
    | zero =>
      intro _
      refine ⟨[], rfl, by simp, ?_, ?_⟩
      · rw [Nat.sub_zero, List.drop_of_length_le (by omega), List.flatten_nil, RelL]
      · rw [Nat.sub_zero, List.drop_of_length_le (by omega)]; simp
    | succ q ih =>
      intro hq
      obtain ⟨ys, h1, h2, h3, h4⟩ := ih (by omega)
      have hx := hf (n - (q + 1)) (by omega)
      rw [List.getElem?_eq_getElem (by omega)] at hx
      obtain ⟨a, ha, ra, oa⟩ := he _ enc w base spare held m _ _ hx
      have hd : us.drop ((n - (q + 1)) * sz) = (us.drop ((n - (q + 1)) * sz)).take sz ++ us.drop ((n - q) * sz) := by
        have : (n - q) * sz = (n - (q + 1)) * sz + sz := by
          rw [← Nat.succ_mul]; congr 1; omega
        rw [this, ← List.drop_drop, List.take_append_drop]
      refine ⟨a :: ys, by simp [h1], by simpa using ⟨ha, h2⟩, ?_, ?_⟩
      · rw [hd, List.flatten_cons]; exact relL_append ra h3
      · rw [hd]
        intro u hu
        rcases List.mem_append.1 hu with h | h
        · exact oa u h
        · exact h4 u h
  obtain ⟨ys, h1, h2, h3, h4⟩ := key n (Nat.le_refl _)
  rw [Nat.sub_self, Nat.zero_mul, List.drop_zero] at h3 h4
  exact ⟨_, ⟨ys, rfl, h1, h2⟩, h3, h4⟩

theorem Opens.mono {S S' : List CV → Prop} (h : Opens P t S) (hs : ∀ cs, S cs → S' cs) : Opens P t S' := by
  intro H enc w base spare held fuel us x hx
  obtain ⟨cs, h1, h2, h3⟩ := h _ enc w base spare held fuel us x hx
  exact ⟨cs, hs cs h1, h2, h3⟩

variable {H : Type} {enc : TypeId × Value → H} {w : World} {base : Nat} {spare : Nat → Bool} {held : Bool}
theorem Opens.arg {S : List CV → Prop} (h : Opens P t S) {v : Value} {d : DataW H} {p : List MemPlace} (hv : v.cells.toList = [v]) (hd : DataW.Trod enc P w base spare held t v d p) :
    ∃ c, S [c] ∧ RelV (gh0 w) w [] c v := by
  obtain ⟨fuel, hf⟩ := hd
  rw [hv] at hf
  obtain ⟨cs, h1, h2, _⟩ := h _ enc w base spare held fuel _ _ hf
  have := relL_length h2
  match cs, this with
  | [c], _ => exact ⟨c, h1, relL_one' h2⟩
theorem Opens.args {S : List CV → Prop} (h : Opens P t S) {us : Array Value} {d : DataW H} {p : List MemPlace} (hd : DataW.Trod enc P w base spare held t (.agg us) d p) :
    ∃ cs, S cs ∧ RelV (gh0 w) w [] (.agg cs) (.agg us) := by
  obtain ⟨fuel, hf⟩ := hd
  obtain ⟨cs, h1, h2, _⟩ := h _ enc w base spare held fuel _ _ hf
  refine ⟨cs, h1, ?_⟩
  rw [RelV]
  refine ⟨us.toList, by simp, ?_⟩
  simpa [Value.cells] using h2

theorem trodAll_below (hl : laidOutB P = true) {W W' : World} (hb : Below W.heap.size W W') : ∀ {ts : List TypeId} {vs : List Value} {ds : List (DataW H)} {p : List MemPlace},
    (ts.all fun t => P.readableRec t && decide (t < P.types.size)) = true → DataW.TrodAll enc P W 0 (fun _ => true) true ts vs ds p → DataW.TrodAll enc P W' 0 (fun b => decide (b < W.heap.size)) true ts vs ds p
  | [], [], [], p, _, h => h
  | t :: ts, v :: vs, d :: ds, p, ht, h => by
    obtain ⟨p, q, h1, h2, rfl⟩ := h
    simp only [List.all_cons, Bool.and_eq_true, decide_eq_true_eq] at ht
    refine ⟨p, q, Below.trod hl ht.1.1 ht.1.2 h1 hb ?_, trodAll_below hl hb ht.2 h2, rfl⟩
    obtain ⟨m, hm⟩ := h1
    exact DataW.trod_lt m _ _ _ hm
  | [], [], _ :: _, _, _, h => h.elim
  | [], _ :: _, _, _, _, h => h.elim
  | _ :: _, [], _, _, _, h => h.elim
  | _ :: _, _ :: _, [], _, _, h => h.elim
end Go.Proofs.YtmgoflhjblombaaGreatDoor
namespace Go.Proofs.YtmgoflhjblombaaGreatDoor
open Go.Proofs
theorem opens_int : Opens Tryz.prog 3 fun cs => ∃ n, cs = ic n :=
  (Opens.int Tryz.underlying3).mono fun _ ⟨n, h, _⟩ => ⟨n, h⟩
theorem opens_sl {t e sz : Nat} {α : Type} {f : α → List CV} (ht : Tryz.prog.underlying t = some (.slice e)) (hs : Tryz.prog.cellsOf e = sz) (h0 : 0 < sz) (he : Opens Tryz.prog e fun cs => ∃ a, cs = f a) :
    Opens Tryz.prog t fun cs => ∃ l : List α, cs = [.sl .sh sz (l.map f)] ∧ l.length ≤ maxLen :=
  (Opens.slice ht hs h0 he).mono fun _ ⟨xs, h, hl, hx⟩ => by
    obtain ⟨ys, rfl⟩ := exMap hx
    exact ⟨ys, h, by simpa using hl⟩
theorem opens_u8 : Opens Tryz.prog 5 fun cs => ∃ b, cs = u8 b :=
  (Opens.int Tryz.underlying5).mono fun _ ⟨n, h, hw⟩ => ⟨byt n, by
    simp only [Lit.wf, Bool.and_eq_true, decide_eq_true_eq] at hw
    have h1 : 0 ≤ n := hw.1
    have h2 : n ≤ 255 := hw.2
    rw [h, u8, byt_toNat, Int.emod_eq_of_lt h1 (by omega)]⟩
theorem opens_ints : Opens Tryz.prog 29 fun cs => ∃ l : List Int, cs = [.sl .sh 1 (l.map ic)] ∧ l.length ≤ maxLen := opens_sl Tryz.underlying29 (by kernel_rfl) (by decide) opens_int
theorem opens_byt : Opens Tryz.prog 51 fun cs => ∃ l : List UInt8, cs = [.sl .sh 1 (bs l)] ∧ l.length ≤ maxLen := opens_sl Tryz.underlying51 (by kernel_rfl) (by decide) opens_u8
theorem opens_ev : Opens Tryz.prog 53 fun cs => ∃ x, cs = evC x :=
  (Opens.struct Tryz.underlying53 (N := 5) (by kernel_rfl) (.cons rfl (n := 1) (by kernel_rfl) opens_u8 (.cons rfl (n := 1) (by kernel_rfl) opens_byt (.cons rfl (n := 1) (by kernel_rfl) opens_u8 (.cons rfl (n := 1) (by kernel_rfl) opens_u8 (.cons rfl (n := 1) (by kernel_rfl) opens_ints .nil)))))).mono fun cs h => by
    obtain ⟨_, _, rfl, ⟨a, rfl⟩, _, _, rfl, ⟨b, rfl, _⟩, _, _, rfl, ⟨c, rfl⟩, _, _, rfl, ⟨d, rfl⟩, _, _, rfl, ⟨e, rfl, _⟩, rfl⟩ := h
    exact ⟨⟨a, b, c, d, e⟩, rfl⟩
theorem opens_evs : Opens Tryz.prog 44 fun cs => ∃ l : List Evt, cs = [.sl .sh 5 (l.map evC)] ∧ l.length ≤ 9223372036854775807 := (opens_sl Tryz.underlying44 (by kernel_rfl) (by decide) opens_ev).mono fun _ ⟨l, h, hl⟩ => ⟨l, h, Nat.le_trans hl (by decide)⟩
end Go.Proofs.YtmgoflhjblombaaGreatDoor
