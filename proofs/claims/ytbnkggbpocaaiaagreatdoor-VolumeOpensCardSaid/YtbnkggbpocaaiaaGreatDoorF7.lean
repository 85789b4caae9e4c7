import Derived.Test.YtbnkggbpocaaiaaGreatDoorF6
import Derived.Test.YtbnkggbpocaaiaaGreatDoorF5
import Derived.Test.YtbnkggbpocaaiaaGreatDoorF4
import Derived.WalkSmall
set_option linter.unusedSimpArgs false
set_option linter.unusedVariables false
set_option linter.unusedSectionVars false
namespace Go.Proofs.YtbnkggbpocaaiaaGreatDoor
open Go.Proofs
theorem appJ_bad {j : Jrn} {k : Int} {p : List UInt8} (h : ¬ chkJ j = true) : appJ j k p = (zjr, [], 3) := by rw [appJ, if_pos (by simpa using h)]
theorem appJ_err {j : Jrn} {k : Int} {p : List UInt8} {e : Nat} (h : chkJ j = true) (he : encR ⟨k, nextJ j, p⟩ = .error e) : appJ j k p = (zjr, [], e) := by
  rw [appJ, if_neg (by simp [h]), he]
theorem appJ_many {j : Jrn} {k : Int} {p : List UInt8} {l : List Sec} (h : chkJ j = true) (he : encR ⟨k, nextJ j, p⟩ = .ok l) (h1 : 1073741824 ≤ nextJ j) : appJ j k p = (zjr, [], 6) := by
  rw [appJ, if_neg (by simp [h]), he]; exact if_pos h1
theorem appJ_full {j : Jrn} {k : Int} {p : List UInt8} {l : List Sec} (h : chkJ j = true) (he : encR ⟨k, nextJ j, p⟩ = .ok l) (h1 : ¬ 1073741824 ≤ nextJ j) (h2 : freeJ j < l.length) : appJ j k p = (zjr, [], 11) := by
  rw [appJ, if_neg (by simp [h]), he]; exact (if_neg h1).trans (if_pos h2)
theorem appJ_ok {j : Jrn} {k : Int} {p : List UInt8} {l : List Sec} (h : chkJ j = true) (he : encR ⟨k, nextJ j, p⟩ = .ok l) (h1 : ¬ 1073741824 ≤ nextJ j) (h2 : ¬ freeJ j < l.length) :
    appJ j k p = (⟨j.start, j.count, j.head, (j.tail + l.length) % (j.count - 16), j.first, j.sizes ++ [(l.length : Int)]⟩, wrapW j.start j.count j.tail l ++ [opS], 0) := by
  rw [appJ, if_neg (by simp [h]), he]; exact (if_neg h1).trans (if_neg h2)
theorem enc_le {r : Rcd} {l : List Sec} (h : encR r = .ok l) : l.length ≤ 1100 ∧ 1 ≤ l.length := by
  rw [encR] at h
  split at h
  · cases h
  · split at h
    · cases h
    · cases h
      rw [secsR, List.length_map, List.length_range, strm_len]
      omega
theorem enc_err {r : Rcd} {e : Nat} (h : encR r = .error e) : e = 2 ∨ e = 5 := by
  rw [encR] at h
  split at h
  · cases h; exact .inl rfl
  · split at h
    · cases h; exact .inr rfl
    · cases h
theorem rc_args (k n : Int) (p : List UInt8) : [iv k, iv n, .sl .sh 1 (bs p)] = rcC ⟨k, n, p⟩ := rfl
theorem chkJ_tail {j : Jrn} (h : chkJ j = true) : 0 ≤ j.tail ∧ j.tail < j.count - 16 := by
  have h1 := (chkJ_iff j).1 h
  have hv := (validJ_iff _ _).1 h1.1
  rw [h1.2.2.2.2]
  exact ⟨Int.emod_nonneg _ (by omega), Int.emod_lt_of_pos _ (by omega)⟩
theorem wrapW_len (s c p : Int) (l : List Sec) : (wrapW s c p l).length ≤ 2 := by
  by_cases h : kW c p l < l.length
  · rw [wrapW_1 h]; exact Nat.le_refl _
  · rw [wrapW_0 h]; exact Nat.le_succ _
theorem snoc_ints (l : List Int) (n : Int) : List.map ic l ++ [[iv n]] = (l ++ [n]).map ic := by rw [List.map_append]; rfl
theorem ops_le1 (A : List Opn) : LeE (A.map opC ++ [[iv 1, iv 0, .v (.slice none 0 0)]]) ((A ++ [opS]).map opC) := by
  rw [List.map_append]
  exact LeE.app (LeE.rfl' _) LeE.sync
theorem jr_upd_le (j : Jrn) (n : Int) (tl : Int) (tk : Tk) : Le (.agg [iv j.start, iv j.count, iv j.head, iv tl, iv j.first, .sl tk 1 (List.map ic j.sizes ++ [[iv n]])]) (.agg (jrC ⟨j.start, j.count, j.head, tl, j.first, j.sizes ++ [n]⟩)) := by
  refine .agg (.cons (.refl _) (.cons (.refl _) (.cons (.refl _) (.cons (.refl _) (.cons (.refl _) (.cons ?_ .nil))))))
  rw [snoc_ints]
  exact .sh _ _ _
set_option maxRecDepth 8000 in
theorem Append_cc (H : Hp) (V : List Nat) (j : Jrn) (kind : Int) (p : List UInt8) (hl : j.sizes.length ≤ 1000000000) (hp : p.length ≤ 900000000) : CC Tryz.prog 60 [.agg (jrC j), iv kind, .sl .sh 1 (bs p)] H V (Pu (jtV (appJ j kind p)) H V) := by
  refine CC.of_swp Tryz.func60 rfl (by kernel_rfl) (by rw [Tryz.ntmps60]; exact len_le _ _ rfl) fun hok hokH => ?_
  clear hok
  refine SWp.seq (Wp.s ?_)
  simp -implicitDefEqProofs [go_sem, args0]
  have bad : ∀ (e : Nat) {H' : Hp} {V' : List Nat}, appJ j kind p = (zjr, [], e) → H'.take H.length = H → V'.take V.length = V → Fin H.length V.length (Pu (jtV (appJ j kind p)) H V) (.tup [.agg zjC, .v (.slice none 0 0), er e]) H' V' := fun e H' V' h1 h2 h3 => by
    rw [h1]
    exact fin_jt zj_le (.nil 3 (by decide)) rfl hokH h2 h3
  refine SWp.seq (Wp.s ?_)
  simp -implicitDefEqProofs [go_sem]
  refine CC.mono (examine_cc _ _ j hl) ?_
  rintro _ _ _ ⟨u, rfl, rfl, rfl, hu⟩
  simp -implicitDefEqProofs [go_sem]
  refine SWp.seq (SWp.seq (Wp.s ?_))
  by_cases h : chkJ j = true
  case neg =>
    simp -implicitDefEqProofs [go_sem, h]
    refine Wp.s ?_
    simp -implicitDefEqProofs [go_sem]
    exact bad 3 (appJ_bad h) (by simp) (by simp)
  obtain rfl := hu h
  have hn := chkJ_next h
  have hsu := chkJ_sum h
  have hva := chkJ_val h
  have hv := (validJ_iff _ _).1 hva
  have ht := chkJ_tail h
  simp -implicitDefEqProofs [go_sem, h]
  refine Wp.s ?_
  simp -implicitDefEqProofs [go_sem]
  refine SWp.seq (Wp.s ?_)
  simp -implicitDefEqProofs [go_sem]
  refine CC.mono (next_cc _ _ j _ hn.1 hn.2) ?_
  rintro _ _ _ ⟨rfl, rfl, rfl⟩
  simp -implicitDefEqProofs [go_sem, rc_args]
  refine CC.mono (REncode_cc _ _ ⟨kind, nextJ j, p⟩ hp) ?_
  rintro _ _ _ ⟨rfl, rfl, rfl⟩
  cases he : encR ⟨kind, nextJ j, p⟩ with
  | error e =>
    have hee : ¬ e = 0 := by have := enc_err he; omega
    simp -implicitDefEqProofs [go_sem, encV]
    refine SWp.seq (SWp.block (SWp.seq (Wp.s ?_)))
    simp -implicitDefEqProofs [go_sem, hee]
    refine Wp.s ?_
    simp -implicitDefEqProofs [go_sem]
    exact bad e (appJ_err h he) (by simp) (by simp)
  | ok l =>
    have hle := enc_le he
    simp -implicitDefEqProofs [go_sem, encV]
    refine SWp.seq (SWp.block (SWp.seq (Wp.s ?_)))
    simp -implicitDefEqProofs [go_sem]
    refine SWp.condF (by simp [go_sem]) ?_
    refine SWp.seq (Wp.s ?_)
    simp -implicitDefEqProofs [go_sem]
    refine CC.mono (next_cc _ _ j _ hn.1 hn.2) ?_
    rintro _ _ _ ⟨rfl, rfl, rfl⟩
    by_cases h1 : 1073741824 ≤ nextJ j
    · simp -implicitDefEqProofs [go_sem, h1]
      refine Wp.s ?_
      simp -implicitDefEqProofs [go_sem]
      exact bad 6 (appJ_many h he h1) (by simp) (by simp)
    simp -implicitDefEqProofs [go_sem, h1]
    refine SWp.condF (by simp [go_sem]) ?_
    refine SWp.seq (Wp.s ?_)
    simp -implicitDefEqProofs [go_sem]
    refine CC.mono (free_cc _ _ j _ hva hsu.1 (by omega)) ?_
    rintro _ _ _ ⟨rfl, rfl, rfl⟩
    by_cases h2 : freeJ j < l.length
    · have h2' : j.count - 16 - sumI j.sizes < (l.length : Int) := h2
      simp -implicitDefEqProofs [go_sem, h2']
      refine Wp.s ?_
      simp -implicitDefEqProofs [go_sem]
      exact bad 11 (appJ_full h he h1 h2) (by simp) (by simp)
    have h2' : ¬ j.count - 16 - sumI j.sizes < (l.length : Int) := h2
    simp -implicitDefEqProofs [go_sem, h2']
    refine Wp.s ?_
    simp -implicitDefEqProofs [go_sem]
    refine SWp.seq (Wp.s ?_)
    simp -implicitDefEqProofs [go_sem]
    refine CC.mono (own_cc _ _ j _ hl) ?_
    rintro _ _ _ ⟨v, rfl, rfl, rfl⟩
    simp -implicitDefEqProofs [go_sem]
    refine SWp.seq (Wp.s ?_)
    simp -implicitDefEqProofs [go_sem]
    refine ⟨by omega, ?_⟩
    have w1 : IntKind.i64.wrap (j.tail + (l.length : Int)) = j.tail + (l.length : Int) := IntWalk.i64_in _ ⟨by omega, by omega⟩
    have t1 := Int.tmod_eq_emod_of_nonneg (b := j.count - 16) (show 0 ≤ j.tail + (l.length : Int) by omega)
    have hz : ¬ j.count - 16 = 0 := by omega
    refine SWp.seq (SWp.drawnT [] [10] (.s 0 .pl <| .s 1 .pl <| .s 2 .pl <| .s 3 .pl <| .s 4 .pl <| .s 5 .pl <| .s 6 .pl <| .s 7 .pl <| .s 8 .pl <| .s 9 .pl <| .s 10 .st <| .n) (by kernel_rfl) (by kernel_rfl) ?_)
    simp -implicitDefEqProofs [go_sem, w1]
    refine CC.mono (length_cc _ _ _ _ hva) ?_
    rintro _ _ _ ⟨rfl, rfl, rfl⟩
    simp -implicitDefEqProofs [go_sem, w1, t1, hz]
    refine SWp.seq (SWp.drawnT [H.length + 2] [11] (.s 0 .pl <| .s 1 .pl <| .s 2 .ld <| .s 3 .pl <| .s 4 .pl <| .s 5 .ld <| .s 6 .pl <| .s 8 .pl <| .s 9 .pl <| .s 7 .pl <| .s 10 .pl <| .s 11 .st <| .s 12 .pl <| .s 13 .pl <| .n) (by kernel_rfl) (by kernel_rfl) ?_)
    simp -implicitDefEqProofs [go_sem]
    refine CC.mono (write_cc _ _ j.start j.count j.tail l hva ht.1 (by omega) (by omega)) ?_
    rintro _ _ _ ⟨v2, rfl, rfl, rfl⟩
    have hA := wrapW_len j.start j.count j.tail l
    have hJ := appJ_ok h he h1 h2
    generalize wrapW j.start j.count j.tail l = A at hA hJ ⊢
    simp -implicitDefEqProofs [go_sem]
    refine ⟨by omega, Kp.keep fun b hb => ?_, Wp.s ?_⟩
    · obtain rfl : b = H.length + 2 := by simpa using hb
      rw [hget, hget]; rfl
    simp -implicitDefEqProofs [go_sem]
    rw [hJ]
    exact fin_jt (jr_upd_le j _ _ _) (.sle _ _ (ops_le1 A)) rfl hokH (by simp) (by simp)
end Go.Proofs.YtbnkggbpocaaiaaGreatDoor
namespace Go.Proofs.YtbnkggbpocaaiaaGreatDoor
open Go.Proofs
def opE (l : List Opn) : List CV := [opsV l]
@[go_sem, simp] theorem opE_len (l : List Opn) : (opE l).length = 1 := rfl
@[go_sem, simp] theorem opE_get (l : List Opn) (h : 0 < (opE l).length) : (opE l)[0] = opsV l := rfl
@[go_sem] theorem okL_opE (i j : Nat) (l : List Opn) : okL i j (opE l) = True := by simp [opE, go_sem, okL, okV, okE_ops]
@[go_sem] theorem okE_opEs (i j : Nat) (l : List (List Opn)) : okE i j (l.map opE) = True := eq_true (okE_map opE l fun e => by rw [okL_opE]; trivial)
theorem zcOp : zcTy Tryz.prog 98 = some [.int .i64 0, .int .i64 0, .slice none 0 0] := by kernel_rfl
theorem growOp_cc (H : Hp) (V : List Nat) (n : Nat) (hn : n ≤ 1000000000) : CC Tryz.prog 166 [.v (.slice none 0 0), ci n] H V (Fr 3 [] H V) := by
  refine CC.of_swp Tryz.func166 rfl (by kernel_rfl) (by rw [Tryz.ntmps166]; exact len_le _ _ rfl) fun hok hokH => ?_
  clear hok
  refine SWp.seq (Wp.s ?_)
  simp -implicitDefEqProofs [go_sem, args0]
  refine SWp.seq (Wp.s ?_)
  simp -implicitDefEqProofs [go_sem, show ¬ (n : Int) < 0 by omega]
  refine SWp.seq (SWp.seq ?_)
  refine SWp.opx (pre := [_, _]) (post := [_, _, _, _, _]) rfl (by intro c e; cases e) ?_
  simp -implicitDefEqProofs [go_sem]
  refine ⟨_, _, _, capnil (by rfl) (by rw [slTy38]; rfl), ?_⟩
  have w0 : IntKind.i64.wrap 0 = 0 := rfl
  have wn : IntKind.i64.wrap (n : Int) = n := IntWalk.i64_in _ ⟨by omega, by omega⟩
  simp -implicitDefEqProofs [go_sem, w0, wn]
  refine SWp.seq (Wp.s ?_)
  rcases Nat.eq_zero_or_pos n with rfl | h0
  · simp -implicitDefEqProofs [go_sem, w0]
    refine Wp.s ?_
    simp -implicitDefEqProofs [go_sem]
    refine SWp.seq (Wp.s ?_)
    simp -implicitDefEqProofs [go_sem]
    refine Wp.s ?_
    simp -implicitDefEqProofs [go_sem]
    exact Fin.frtok (by decide) (.inl ⟨rfl, rfl⟩) (by simp [go_sem]) hokH (by simp) (by simp)
  · have h0' : (0 : Int) < n := by omega
    simp -implicitDefEqProofs [go_sem, h0]
    refine SWp.condT rfl ?_
    refine SWp.mw (MW.app (mid := [_, _, _, _, _]) (mid2 := [_, _, _, _, _]) ?_)
    refine MW.app (mid := [_, _]) (mid2 := [_, _, _]) (MW.crun ?_)
    simp -implicitDefEqProofs [go_sem]
    refine MW.app (mid := [_]) (mid2 := [_, _]) (MW.opx rfl (by intro c e; cases e) (by simp [dOk]) (capnil (by rfl) (by rw [slTy38]; rfl)) (MW.crun ?_))
    simp -implicitDefEqProofs [go_sem]
    refine MW.app (mid := [_, _, _, _]) (mid2 := [_]) (MW.room (N := n) (k0 := 0) slTy38 (by kernel_rfl) zcOp rfl rfl rfl (by omega) (by omega) (by decide) (by decide) (MW.crun ?_))
    simp -implicitDefEqProofs [go_sem]
    refine SWp.seq (Wp.s ?_)
    simp -implicitDefEqProofs [go_sem]
    refine Wp.s ?_
    simp -implicitDefEqProofs [go_sem]
    exact Fin.fresh rfl (by simp [go_sem]) hokH (by simp)
theorem flt_take {α : Type} {l : List (List α)} {i : Nat} (h : i < l.length) : (l.take (i + 1)).flatten = (l.take i).flatten ++ l[i] := by
  rw [List.take_succ_eq_append_getElem h, List.flatten_append]; simp
theorem flt_le {α : Type} (l : List (List α)) (i : Nat) : (l.take i).flatten.length ≤ l.flatten.length := by
  conv => rhs; rw [← List.take_append_drop i l, List.flatten_append, List.length_append]
  omega
def catO (l : List (List Opn)) : List Opn := l.flatten
def ftO (l : List (List Opn)) (i : Nat) : List Opn := (l.take i).flatten
theorem ftO_len {l : List (List Opn)} {i : Nat} (h : i < l.length) : (ftO l (i + 1)).length = (ftO l i).length + l[i].length := by
  unfold ftO; rw [flt_take h, List.length_append]
theorem ftO_step {l : List (List Opn)} {i : Nat} (h : i < l.length) : ftO l i ++ l[i] = ftO l (i + 1) := by
  unfold ftO; rw [flt_take h]
theorem ftO_le (l : List (List Opn)) (i : Nat) : (ftO l i).length ≤ (catO l).length := flt_le l i
theorem ftO_all {l : List (List Opn)} {i : Nat} (h : l.length ≤ i) : ftO l i = catO l := by unfold ftO; rw [List.take_of_length_le h]; rfl
theorem concatOp_cc (H : Hp) (V : List Nat) (tk : Tk) (l : List (List Opn)) (hl : l.length ≤ 1000000000) (hf : (catO l).length ≤ 1000000000) : CC Tryz.prog 110 [.sl tk 1 (l.map opE)] H V (Fr 3 ((catO l).map opC) H V) := by
  refine CC.of_swp Tryz.func110 rfl (by kernel_rfl) (by rw [Tryz.ntmps110]; exact len_le _ _ rfl) fun hok hokH => ?_
  clear hok
  refine SWp.seq (Wp.s ?_)
  simp -implicitDefEqProofs [go_sem, args0]
  refine SWp.seq (Wp.s ?_)
  simp -implicitDefEqProofs [go_sem]
  refine SWp.join (α := Unit) (fun _ => ([(0, .sl tk 1 (l.map opE)), (3, ci (catO l).length)], H, V)) (fun _ => True) ?_ ?_
  · refine SWp.seq (Wp.s ?_)
    simp -implicitDefEqProofs [go_sem]
    refine SWp.block ?_
    refine SWp.loop (α := Nat) (fun i => ([(0, .sl tk 1 (l.map opE)), (9, .sl tk 1 (l.map opE)), (10, ci l.length), (11, ci i), (3, ci (ftO l i).length)], H, V)) (fun i => i ≤ l.length) (fun i => l.length - i) 0 (Nat.zero_le _) (Sh.forget (by simp [go_sem, ftO]) rfl rfl) ?_
    intro i hi
    dsimp only
    refine SWp.seq (Wp.s ?_)
    simp -implicitDefEqProofs [go_sem]
    refine SWp.seq (Wp.s ?_)
    simp -implicitDefEqProofs [go_sem]
    refine ⟨fun h => ?_, fun h => Sh.forget (by simp [go_sem, ftO_all h]) rfl rfl⟩
    have q1 := ftO_len h
    have q2 := ftO_le l (i + 1)
    refine SWp.seq (SWp.block (SWp.seq (Wp.s ?_)))
    simp -implicitDefEqProofs [go_sem, h]
    have w1 : IntKind.i64.wrap (((ftO l i).length : Int) + (l[i].length : Int)) = ((ftO l (i + 1)).length : Int) := by rw [IntWalk.i64_in _ ⟨by omega, by omega⟩]; omega
    refine SWp.seq (Wp.s ?_)
    simp -implicitDefEqProofs [go_sem, w1]
    refine SWp.seq (Wp.s ?_)
    simp -implicitDefEqProofs [go_sem, show ¬ ((ftO l (i + 1)).length : Int) < 0 by omega]
    refine Wp.s ?_
    simp -implicitDefEqProofs [go_sem]
    refine Wp.s ?_
    simp -implicitDefEqProofs [go_sem]
    refine ⟨i + 1, by omega, by omega, Sh.forget ?_ rfl rfl⟩
    simp [go_sem, wrap_big (show i < 9223372036854775807 by omega)]
  · rintro _ -
    dsimp only
    refine SWp.seq (Wp.s ?_)
    simp -implicitDefEqProofs [go_sem]
    refine CC.mono (growOp_cc _ _ _ hf) ?_
    rintro _ _ _ ⟨v, rfl, rfl, rfl⟩
    simp -implicitDefEqProofs [go_sem]
    refine SWp.join (α := Nat) (fun v => ([(6, .sl (.own V.length v) 3 ((catO l).map opC))], H, V ++ [v])) (fun _ => True) ?_ ?_
    · refine SWp.seq (Wp.s ?_)
      simp -implicitDefEqProofs [go_sem]
      refine SWp.block ?_
      refine SWp.loop (α := Nat × Nat) (fun x => ([(25, .sl tk 1 (l.map opE)), (26, ci l.length), (27, ci x.1), (6, .sl (.own V.length x.2) 3 ((ftO l x.1).map opC))], H, V ++ [x.2])) (fun x => x.1 ≤ l.length) (fun x => l.length - x.1) (0, v) (Nat.zero_le _) (Sh.forget (by simp [go_sem, ftO]) rfl rfl) ?_
      rintro ⟨i, v⟩ hi
      dsimp only at hi ⊢
      refine SWp.seq (Wp.s ?_)
      simp -implicitDefEqProofs [go_sem]
      refine SWp.seq (Wp.s ?_)
      simp -implicitDefEqProofs [go_sem]
      refine ⟨fun h => ?_, fun h => ⟨v, Sh.forget (by simp [go_sem, ftO_all h]) rfl rfl⟩⟩
      have q1 := ftO_len h
      have q2 := ftO_le l (i + 1)
      refine SWp.seq (SWp.block (SWp.seq (Wp.s ?_)))
      simp -implicitDefEqProofs [go_sem, h]
      refine Wp.s ?_
      simp -implicitDefEqProofs [go_sem]
      refine ⟨by omega, ?_⟩
      refine Wp.s ?_
      simp -implicitDefEqProofs [go_sem]
      refine ⟨i + 1, by omega, by omega, v + 1, Sh.forget ?_ rfl (by simp)⟩
      rw [← ftO_step h]
      simp [go_sem, wrap_big (show i < 9223372036854775807 by omega)]
    · rintro v -
      dsimp only
      refine SWp.seq (Wp.s ?_)
      simp -implicitDefEqProofs [go_sem]
      refine Wp.s ?_
      simp -implicitDefEqProofs [go_sem]
      exact Fin.fresh rfl (by simp [go_sem]) hokH (by simp)
end Go.Proofs.YtbnkggbpocaaiaaGreatDoor
namespace Go.Proofs.YtbnkggbpocaaiaaGreatDoor
open Go.Proofs
theorem flatReg : FlatEq Tryz.prog 30 [.i64, .i64] := flatEq_pair Tryz.underlying30 rfl rfl rfl rfl (by decide) (by decide) Tryz.underlying3 (by kernel_rfl) (by kernel_rfl)
theorem fits_reg (a b : Int) : fits [.i64, .i64] [iv a, iv b] := fits_rep .i64 [a, b]
set_option maxRecDepth 8000 in
theorem Same_cc (H : Hp) (V : List Nat) (j : Jrn) (hl : j.sizes.length ≤ 1000000000) : CC Tryz.prog 53 [.agg (jrC j), .agg (jrC j)] H V (Pu (cb true) H V) := by
  refine CC.of_swp Tryz.func53 rfl (by kernel_rfl) (by rw [Tryz.ntmps53]; exact len_le _ _ rfl) fun hok hokH => ?_
  clear hok
  refine SWp.seq (Wp.s ?_)
  simp -implicitDefEqProofs [go_sem, args0]
  refine SWp.seq (SWp.seq (Wp.s ?_))
  simp -implicitDefEqProofs [go_sem]
  refine ⟨_, flatReg, fits_reg _ _, ?_⟩
  refine Wp.s ?_
  simp -implicitDefEqProofs [go_sem]
  refine SWp.join (α := Unit) (fun _ => ([], H ++ [some (jrC j), some (jrC j)], V)) (fun _ => True) ?_ ?_
  · refine SWp.seq (Wp.s ?_)
    simp -implicitDefEqProofs [go_sem]
    refine SWp.block ?_
    refine SWp.loop (α := Nat) (fun i => ([(2, .ptr H.length 0), (3, .ptr (H.length + 1) 0), (5, ci i)], H ++ [some (jrC j), some (jrC j)], V)) (fun i => i ≤ j.sizes.length) (fun i => j.sizes.length - i) 0 (Nat.zero_le _) (Sh.forget (by simp [go_sem]) rfl rfl) ?_
    intro i hi
    dsimp only
    refine SWp.seq (SWp.seq (Wp.s ?_))
    by_cases h : i < j.sizes.length
    case neg =>
      simp -implicitDefEqProofs [go_sem, h]
      refine Wp.s ?_
      simp -implicitDefEqProofs [go_sem]
      exact Sh.forget (by simp [go_sem]) rfl rfl
    simp -implicitDefEqProofs [go_sem, h]
    refine Wp.s ?_
    simp -implicitDefEqProofs [go_sem]
    refine SWp.seq (SWp.block (SWp.seq (SWp.drawnT [] [] (.s 0 .pl <| .s 1 .pl <| .s 2 .pl <| .s 3 .pl <| .s 4 .pl <| .s 5 .pl <| .s 6 .pl <| .s 7 .pl <| .s 8 .pl <| .s 9 .pl <| .s 10 .pl <| .n) (by kernel_rfl) (by kernel_rfl) ?_)))
    simp -implicitDefEqProofs [go_sem, h]
    refine Wp.s ?_
    simp -implicitDefEqProofs [go_sem]
    refine Wp.s ?_
    simp -implicitDefEqProofs [go_sem]
    refine ⟨i + 1, by omega, by omega, Sh.forget ?_ rfl rfl⟩
    simp [go_sem, wrap_succ (show i ≤ 1000000000 by omega)]
  rintro _ -
  dsimp only
  refine Wp.s ?_
  simp -implicitDefEqProofs [go_sem]
  exact Fin.bool rfl hokH (by simp) (by simp)
end Go.Proofs.YtbnkggbpocaaiaaGreatDoor
namespace Go.Proofs.YtbnkggbpocaaiaaGreatDoor
open Go.Proofs
structure Sto where
  sizes : List Int
  jr : Jrn
  data : Int
  applied : Int
  pend : List Wr
  img : Img
def stoC (s : Sto) : List CV := [.sl .sh 1 (s.sizes.map ic), .v (.int .i64 s.jr.start), .v (.int .i64 s.jr.count), .v (.int .i64 s.jr.head), .v (.int .i64 s.jr.tail), .v (.int .i64 s.jr.first), .sl .sh 1 (s.jr.sizes.map ic), .v (.int .i64 s.data), .v (.int .i64 s.applied), .sl .sh 3 (s.pend.map wrC), .sl .sh 1 (s.img.map imE)]
@[go_sem, simp] theorem stoC_len (s : Sto) : (stoC s).length = 11 := rfl
@[go_sem, simp] theorem stoC_take (s : Sto) : (stoC s).take 11 = stoC s := rfl
@[go_sem, simp] theorem stoC_drop (s : Sto) : (stoC s).drop 11 = [] := rfl
@[go_sem, simp] theorem stoC_all (s : Sto) : allOne (stoC s) = true := rfl
@[go_sem, simp] theorem stoC_jr (s : Sto) : ((stoC s).drop 1).take 6 = jrC s.jr := rfl
@[go_sem] theorem okL_stoC (i j : Nat) (s : Sto) : okL i j (stoC s) = True := by simp [stoC, go_sem, okL, okV, okE_ints, okE_wrs, okE_ims]
def zsto : Sto := ⟨[], zjr, 0, 0, [], []⟩
def sizeV (sizes : List Int) (n : Int) : Int × Nat :=
  if sizesE sizes ≠ 0 then (0, sizesE sizes) else if n < 20 ∨ 4096 - sumI sizes < n then (0, 2) else (n + sumI sizes, 0)
def fmtV (sizes : List Int) (n : Int) : Sto × List Opn × Nat :=
  if (sizeV sizes n).2 ≠ 0 then (zsto, [], (sizeV sizes n).2)
  else (⟨sizes, (formatJ 0 n).1, n, 0, [], imOf sizes⟩, opW n (List.replicate (sumI sizes).toNat sec0) :: opS :: (formatJ 0 n).2.1, 0)
def chkV (s : Sto) : Nat :=
  if sizesE s.sizes ≠ 0 then sizesE s.sizes
  else if chkJ s.jr = false then 3
  else if s.jr.start ≠ 0 ∨ s.data ≠ s.jr.count ∨ 4096 - sumI s.sizes < s.data then 2
  else if s.applied ≠ s.jr.first - 1 ∨ s.pend.length ≠ s.jr.sizes.length then 3
  else if (apR (imOf s.sizes) s.pend).2.2 ≠ 0 then (apR (imOf s.sizes) s.pend).2.2
  else if imgSz s.img ≠ s.sizes then 22
  else if (apR s.img s.pend).2.2 ≠ 0 ∨ (apR s.img s.pend).1 ≠ s.img then 22 else 0
def writeV (s : Sto) (w : Wr) : Sto × Int × List Opn × Nat :=
  if chkV s ≠ 0 then (zsto, 0, [], chkV s)
  else if fitsS s.sizes w ≠ 0 then (zsto, 0, [], fitsS s.sizes w)
  else if (appJ s.jr 1 (encWrs [w])).2.2 ≠ 0 then (zsto, 0, [], (appJ s.jr 1 (encWrs [w])).2.2)
  else (⟨s.sizes, (appJ s.jr 1 (encWrs [w])).1, s.data, s.applied, s.pend ++ [w], ap1 s.img w⟩, nextJ s.jr, (appJ s.jr 1 (encWrs [w])).2.1, 0)
def relJ (d : Dk) (j : Jrn) (q : Int) : Jrn × List Opn × Nat :=
  if checkD d ≠ 0 then (zjr, [], checkD d) else if chkJ j = false then (zjr, [], 3)
  else if q < j.first - 1 ∨ nextJ j ≤ q then (zjr, [], 2)
  else if q = j.first - 1 then (j, [], 0)
  else
    let n := (q + 1 - j.first).toNat
    let h := (j.head + sumI (j.sizes.take n)) % (j.count - 16)
    if (storeS d j.start (superJ h (q + 1))).2 ≠ 0 then (zjr, [], (storeS d j.start (superJ h (q + 1))).2)
    else (⟨j.start, j.count, h, j.tail, q + 1, j.sizes.drop n⟩, (storeS d j.start (superJ h (q + 1))).1, 0)
def opOf (s : Sto) (w : Wr) : Opn := opW (s.data + sumI (s.sizes.take w.volume.toNat) + w.start) w.data
def flushV (d : Dk) (s : Sto) : Sto × List Opn × Nat :=
  if checkD d ≠ 0 then (zsto, [], checkD d) else if chkV s ≠ 0 then (zsto, [], chkV s)
  else if (d.stable.length : Int) < s.data + sumI s.sizes then (zsto, [], 2)
  else if s.pend.length = 0 then (s, [], 0)
  else if (relJ d s.jr (nextJ s.jr - 1)).2.2 ≠ 0 then (zsto, [], (relJ d s.jr (nextJ s.jr - 1)).2.2)
  else (⟨s.sizes, (relJ d s.jr (nextJ s.jr - 1)).1, s.data, nextJ s.jr - 1, [], s.img⟩, s.pend.map (opOf s) ++ opS :: (relJ d s.jr (nextJ s.jr - 1)).2.1, 0)
end Go.Proofs.YtbnkggbpocaaiaaGreatDoor
namespace Go.Proofs.YtbnkggbpocaaiaaGreatDoor
open Go.Proofs
def SzOk (l : List Int) : Prop := l.length ≤ 1000 ∧ ∀ n ∈ l, 0 ≤ n ∧ n ≤ 4096
theorem SzOk.of {l : List Int} (h : sizesE l = 0) : SzOk l := by
  obtain ⟨h1, h2, h3⟩ := sizesE_0 h
  exact ⟨by omega, fun n hn => by have := h3 n hn; omega⟩
theorem SzOk.take {l : List Int} (h : SzOk l) (k : Nat) : SzOk (l.take k) := ⟨by rw [List.length_take]; have := h.1; omega, fun n hn => h.2 n (List.mem_of_mem_take hn)⟩
theorem SzOk.sum {l : List Int} (h : SzOk l) : ∀ k, 0 ≤ sumI (l.take k) ∧ sumI (l.take k) ≤ 4096 * (min k l.length : Nat)
  | 0 => by simp [sumI]
  | k + 1 => by
    have ih := h.sum k
    by_cases hk : k < l.length
    · rw [List.take_succ_eq_append_getElem hk, sumI_snoc]
      have := h.2 _ (List.getElem_mem hk)
      omega
    · rw [List.take_of_length_le (by omega)] at ih ⊢
      rw [Nat.min_eq_right (by omega)] at ih ⊢
      exact ih
theorem SzOk.sum' {l : List Int} (h : SzOk l) : 0 ≤ sumI l ∧ sumI l ≤ 4096 * (l.length : Int) := by
  have := h.sum l.length
  rw [List.take_length, Nat.min_self] at this
  omega
theorem vsum_cc (H : Hp) (V : List Nat) (tk : Tk) (l : List Int) (h : SzOk l) : CC Tryz.prog 42 [.sl tk 1 (l.map ic)] H V (Pu (ci (sumI l)) H V) := by
  refine CC.of_swp Tryz.func42 rfl (by kernel_rfl) (by rw [Tryz.ntmps42]; exact len_le _ _ rfl) fun hok hokH => ?_
  clear hok
  have hl := h.1
  refine SWp.seq (Wp.s ?_)
  simp -implicitDefEqProofs [go_sem, args0]
  refine SWp.seq (Wp.s ?_)
  simp -implicitDefEqProofs [go_sem]
  refine SWp.join (α := Unit) (fun _ => ([(3, ci (sumI l))], H, V)) (fun _ => True) ?_ ?_
  · refine SWp.seq (Wp.s ?_)
    simp -implicitDefEqProofs [go_sem]
    refine SWp.block ?_
    refine SWp.loop (α := Nat) (fun i => ([(3, ci (sumI (l.take i))), (6, .sl tk 1 (l.map ic)), (7, ci l.length), (8, ci i)], H, V)) (fun i => i ≤ l.length) (fun i => l.length - i) 0 (Nat.zero_le _) (Sh.forget (by simp [go_sem, sumI]) rfl rfl) ?_
    intro i hi
    dsimp only
    refine SWp.seq (Wp.s ?_)
    simp -implicitDefEqProofs [go_sem]
    refine SWp.seq (Wp.s ?_)
    simp -implicitDefEqProofs [go_sem]
    refine ⟨fun hi => ?_, fun hi => Sh.forget (by rw [List.take_of_length_le (by omega)]; simp [go_sem]) rfl rfl⟩
    have h1 := h.sum i
    have h2 := h.2 _ (List.getElem_mem hi)
    have hs : sumI (l.take (i + 1)) = sumI (l.take i) + l[i] := by rw [List.take_succ_eq_append_getElem hi, sumI_snoc]
    have w1 : IntKind.i64.wrap (sumI (l.take i) + l[i]) = sumI (l.take i) + l[i] := IntWalk.i64_in _ ⟨by omega, by omega⟩
    have w2 : IntKind.i64.wrap ((i : Int) + 1) = (i : Int) + 1 := IntWalk.i64_in _ ⟨by omega, by omega⟩
    refine SWp.seq (SWp.block (SWp.seq (Wp.s ?_)))
    simp -implicitDefEqProofs [go_sem, hi]
    refine Wp.s ?_
    simp -implicitDefEqProofs [go_sem, w1]
    refine Wp.s ?_
    simp -implicitDefEqProofs [go_sem, w2]
    refine ⟨i + 1, by omega, by omega, Sh.forget (by rw [hs]; simp [go_sem]) rfl rfl⟩
  rintro _ -
  dsimp only
  refine SWp.seq (Wp.s ?_)
  simp -implicitDefEqProofs [go_sem]
  refine Wp.s ?_
  simp -implicitDefEqProofs [go_sem]
  exact Fin.pu (.refl _) (by simp [go_sem]) hokH (by simp) (by simp)
theorem rsum_cc (H : Hp) (V : List Nat) (tk : Tk) (l : List Int) (h : SzOk l) : CC Tryz.prog 44 [.sl tk 1 (l.map ic)] H V (Pu (ci (sumI l)) H V) := by
  refine CC.of_swp Tryz.func44 rfl (by kernel_rfl) (by rw [Tryz.ntmps44]; exact len_le _ _ rfl) fun hok hokH => ?_
  clear hok
  have hl := h.1
  refine SWp.seq (Wp.s ?_)
  simp -implicitDefEqProofs [go_sem, args0]
  refine SWp.seq (Wp.s ?_)
  simp -implicitDefEqProofs [go_sem]
  refine SWp.join (α := Unit) (fun _ => ([(3, ci (sumI l))], H, V)) (fun _ => True) ?_ ?_
  · refine SWp.seq (Wp.s ?_)
    simp -implicitDefEqProofs [go_sem]
    refine SWp.block ?_
    refine SWp.loop (α := Nat) (fun i => ([(0, .sl tk 1 (l.map ic)), (3, ci (sumI (l.take i))), (4, ci i)], H, V)) (fun i => i ≤ l.length) (fun i => l.length - i) 0 (Nat.zero_le _) (Sh.forget (by simp [go_sem, sumI]) rfl rfl) ?_
    intro i hi
    dsimp only
    refine SWp.seq (SWp.seq (Wp.s ?_))
    simp -implicitDefEqProofs [go_sem]
    refine Wp.s ?_
    simp -implicitDefEqProofs [go_sem]
    refine ⟨fun hi => ?_, fun hi => Sh.forget (by rw [List.take_of_length_le (by omega)]; simp [go_sem]) rfl rfl⟩
    have h1 := h.sum i
    have h2 := h.2 _ (List.getElem_mem hi)
    have hs : sumI (l.take (i + 1)) = sumI (l.take i) + l[i] := by rw [List.take_succ_eq_append_getElem hi, sumI_snoc]
    have w1 : IntKind.i64.wrap (sumI (l.take i) + l[i]) = sumI (l.take i) + l[i] := IntWalk.i64_in _ ⟨by omega, by omega⟩
    have w2 : IntKind.i64.wrap ((i : Int) + 1) = (i : Int) + 1 := IntWalk.i64_in _ ⟨by omega, by omega⟩
    refine SWp.seq (SWp.block (Wp.s ?_))
    simp -implicitDefEqProofs [go_sem, hi, w1]
    refine Wp.s ?_
    simp -implicitDefEqProofs [go_sem, w2]
    refine ⟨i + 1, by omega, by omega, Sh.forget (by rw [hs]; simp [go_sem]) rfl rfl⟩
  rintro _ -
  dsimp only
  refine SWp.seq (Wp.s ?_)
  simp -implicitDefEqProofs [go_sem]
  refine Wp.s ?_
  simp -implicitDefEqProofs [go_sem]
  exact Fin.pu (.refl _) (by simp [go_sem]) hokH (by simp) (by simp)
theorem vSize_cc (H : Hp) (V : List Nat) (tk : Tk) (l : List Int) (n : Int) (hl : l.length ≤ 9223372036854775807) : CC Tryz.prog 12 [.sl tk 1 (l.map ic), ci n] H V (Pu (.tup [ci (sizeV l n).1, er (sizeV l n).2]) H V) := by
  refine CC.of_swp Tryz.func12 rfl (by kernel_rfl) (by rw [Tryz.ntmps12]; exact len_le _ _ rfl) fun hok hokH => ?_
  clear hok
  have fin : ∀ (x : Int) (e : Nat) (H' : Hp) (V' : List Nat), sizeV l n = (x, e) → H'.take H.length = H → V'.take V.length = V → Fin H.length V.length (Pu (.tup [ci (sizeV l n).1, er (sizeV l n).2]) H V) (.tup [ci x, er e]) H' V' := fun x e H' V' h1 h2 h3 => by
    rw [h1]; exact Fin.pu (.refl _) (by simp [go_sem]) hokH h2 h3
  refine SWp.seq (Wp.s ?_)
  simp -implicitDefEqProofs [go_sem, args0]
  refine SWp.seq (SWp.seq (Wp.s ?_))
  simp -implicitDefEqProofs [go_sem]
  refine CC.mono (New_cc _ _ tk l hl) ?_
  rintro _ _ _ ⟨rfl, rfl, rfl⟩
  simp -implicitDefEqProofs [go_sem]
  refine SWp.seq (Wp.s ?_)
  by_cases h0 : sizesE l = 0
  case neg =>
    simp -implicitDefEqProofs [go_sem, h0]
    refine Wp.s ?_
    simp -implicitDefEqProofs [go_sem]
    exact fin _ _ _ _ (by rw [sizeV, if_pos h0]) (by simp) (by simp)
  have hz := SzOk.of h0
  have hs := hz.sum'
  have hl8 := (sizesE_0 h0).2.1
  have w1 : IntKind.i64.wrap (4096 - sumI l) = 4096 - sumI l := IntWalk.i64_in _ ⟨by omega, by omega⟩
  simp -implicitDefEqProofs [go_sem, h0]
  refine Wp.s ?_
  simp -implicitDefEqProofs [go_sem]
  refine SWp.seq (SWp.seq (Wp.s ?_))
  by_cases h1 : n < 20
  · simp -implicitDefEqProofs [go_sem, h1]
    refine Wp.s ?_
    simp -implicitDefEqProofs [go_sem]
    exact fin _ _ _ _ (by rw [sizeV, if_neg (by simp [h0]), if_pos (.inl h1)]) (by simp) (by simp)
  simp -implicitDefEqProofs [go_sem, h1]
  refine CC.mono (vsum_cc _ _ tk l hz) ?_
  rintro _ _ _ ⟨rfl, rfl, rfl⟩
  by_cases h2 : 4096 - sumI l < n
  · simp -implicitDefEqProofs [go_sem, w1, h2]
    refine Wp.s ?_
    simp -implicitDefEqProofs [go_sem]
    exact fin _ _ _ _ (by rw [sizeV, if_neg (by simp [h0]), if_pos (.inr h2)]) (by simp) (by simp)
  have w2 : IntKind.i64.wrap (n + sumI l) = n + sumI l := IntWalk.i64_in _ ⟨by omega, by omega⟩
  simp -implicitDefEqProofs [go_sem, w1, h2]
  refine Wp.s ?_
  simp -implicitDefEqProofs [go_sem]
  refine SWp.seq (Wp.s ?_)
  simp -implicitDefEqProofs [go_sem]
  refine CC.mono (vsum_cc _ _ tk l hz) ?_
  rintro _ _ _ ⟨rfl, rfl, rfl⟩
  simp -implicitDefEqProofs [go_sem, w2]
  refine Wp.s ?_
  simp -implicitDefEqProofs [go_sem]
  exact fin _ _ _ _ (by rw [sizeV, if_neg (by simp [h0]), if_neg (by omega)]) (by simp) (by simp)
theorem rSize_cc (H : Hp) (V : List Nat) (tk : Tk) (l : List Int) (n : Int) (hl : l.length ≤ 9223372036854775807) : CC Tryz.prog 13 [.sl tk 1 (l.map ic), ci n] H V (Pu (.tup [ci (sizeV l n).1, er (sizeV l n).2]) H V) := by
  refine CC.of_swp Tryz.func13 rfl (by kernel_rfl) (by rw [Tryz.ntmps13]; exact len_le _ _ rfl) fun hok hokH => ?_
  clear hok
  have fin : ∀ (x : Int) (e : Nat) (H' : Hp) (V' : List Nat), sizeV l n = (x, e) → H'.take H.length = H → V'.take V.length = V → Fin H.length V.length (Pu (.tup [ci (sizeV l n).1, er (sizeV l n).2]) H V) (.tup [ci x, er e]) H' V' := fun x e H' V' h1 h2 h3 => by
    rw [h1]; exact Fin.pu (.refl _) (by simp [go_sem]) hokH h2 h3
  refine SWp.seq (Wp.s ?_)
  simp -implicitDefEqProofs [go_sem, args0]
  refine SWp.seq (SWp.seq (Wp.s ?_))
  simp -implicitDefEqProofs [go_sem]
  refine CC.mono (refSizes_cc _ _ tk l hl) ?_
  rintro _ _ _ ⟨rfl, rfl, rfl⟩
  simp -implicitDefEqProofs [go_sem]
  refine SWp.seq (Wp.s ?_)
  by_cases h0 : sizesE l = 0
  case neg =>
    simp -implicitDefEqProofs [go_sem, h0]
    refine Wp.s ?_
    simp -implicitDefEqProofs [go_sem]
    exact fin _ _ _ _ (by rw [sizeV, if_pos h0]) (by simp) (by simp)
  have hz := SzOk.of h0
  have hs := hz.sum'
  have hl8 := (sizesE_0 h0).2.1
  simp -implicitDefEqProofs [go_sem, h0]
  refine Wp.s ?_
  simp -implicitDefEqProofs [go_sem]
  refine SWp.seq (SWp.seq (Wp.s ?_))
  by_cases h1 : n < 20
  · simp -implicitDefEqProofs [go_sem, h1]
    refine Wp.s ?_
    simp -implicitDefEqProofs [go_sem]
    exact fin _ _ _ _ (by rw [sizeV, if_neg (by simp [h0]), if_pos (.inl h1)]) (by simp) (by simp)
  by_cases h3 : 4096 < n
  · simp -implicitDefEqProofs [go_sem, h1, h3]
    refine Wp.s ?_
    simp -implicitDefEqProofs [go_sem]
    exact fin _ _ _ _ (by rw [sizeV, if_neg (by simp [h0]), if_pos (.inr (by omega))]) (by simp) (by simp)
  simp -implicitDefEqProofs [go_sem, h1, h3]
  refine CC.mono (rsum_cc _ _ tk l hz) ?_
  rintro _ _ _ ⟨rfl, rfl, rfl⟩
  have w2 : IntKind.i64.wrap (n + sumI l) = n + sumI l := IntWalk.i64_in _ ⟨by omega, by omega⟩
  by_cases h2 : 4096 < n + sumI l
  · simp -implicitDefEqProofs [go_sem, w2, h2]
    refine Wp.s ?_
    simp -implicitDefEqProofs [go_sem]
    exact fin _ _ _ _ (by rw [sizeV, if_neg (by simp [h0]), if_pos (.inr (by omega))]) (by simp) (by simp)
  simp -implicitDefEqProofs [go_sem, w2, h2]
  refine Wp.s ?_
  simp -implicitDefEqProofs [go_sem]
  refine SWp.seq (Wp.s ?_)
  simp -implicitDefEqProofs [go_sem]
  refine CC.mono (rsum_cc _ _ tk l hz) ?_
  rintro _ _ _ ⟨rfl, rfl, rfl⟩
  simp -implicitDefEqProofs [go_sem, w2]
  refine Wp.s ?_
  simp -implicitDefEqProofs [go_sem]
  exact fin _ _ _ _ (by rw [sizeV, if_neg (by simp [h0]), if_neg (by omega)]) (by simp) (by simp)
theorem vsync_cc (H : Hp) (V : List Nat)  : CC Tryz.prog 48 [] H V (Pu (.agg (opC opS)) H V) := by
  refine CC.of_swp Tryz.func48 rfl (by kernel_rfl) (by rw [Tryz.ntmps48]; exact len_le _ _ rfl) fun hok hokH => ?_
  clear hok
  refine SWp.seq (Wp.s ?_)
  simp -implicitDefEqProofs [go_sem, args0]
  refine SWp.seq (Wp.s ?_)
  simp -implicitDefEqProofs [go_sem]
  refine Wp.s ?_
  simp -implicitDefEqProofs [go_sem]
  exact Fin.pu (r0 := .agg (opC opS)) (.agg (.cons (.refl _) (.cons (.refl _) (.cons (.nil 8 (by decide)) .nil)))) (by simp [go_sem, okL_opC]) hokH (by simp) (by simp)
theorem operations_cc (H : Hp) (V : List Nat) (t2 : Tk) (a : List Opn) (l : List (List Opn)) (hl : l.length ≤ 1000000) (hf : (catO (a :: l)).length ≤ 1000000000) : CC Tryz.prog 47 [.sl .sh 3 (a.map opC), .sl t2 1 (l.map opE)] H V (Pu (opsV (catO (a :: l))) H V) := by
  refine CC.of_swp Tryz.func47 rfl (by kernel_rfl) (by rw [Tryz.ntmps47]; exact len_le _ _ rfl) fun hok hokH => ?_
  clear hok
  refine SWp.seq (Wp.s ?_)
  simp -implicitDefEqProofs [go_sem, args0]
  refine SWp.seq (Wp.s ?_)
  simp -implicitDefEqProofs [go_sem]
  refine ⟨by omega, ?_⟩
  refine CC.mono (concatOp_cc _ _ (.own V.length 0) (a :: l) (by simp; omega) hf) ?_
  rintro _ _ _ ⟨v, rfl, rfl, rfl⟩
  simp -implicitDefEqProofs [go_sem]
  refine Wp.s ?_
  simp -implicitDefEqProofs [go_sem]
  exact Fin.pu (.sh _ _ _) (by simp [go_sem, okE_ops]) hokH (by simp) (by simp)
end Go.Proofs.YtbnkggbpocaaiaaGreatDoor
namespace Go.Proofs.YtbnkggbpocaaiaaGreatDoor
open Go.Proofs
theorem replay_cc (H : Hp) (V : List Nat) (tk : Tk) (l : Img) (ws : List Wr) (hl : l.length ≤ 1000000000) (hn : ws.length ≤ 1000000000) (hw : ∀ w ∈ ws, w.data.length ≤ 1000000000) : CC Tryz.prog 62 [.sl tk 1 (l.map imE), .sl .sh 3 (ws.map wrC)] H V (Pu (.tup [imV (apR l ws).1, er (apR l ws).2.2]) H V) := by
  refine CC.of_swp Tryz.func62 rfl (by kernel_rfl) (by rw [Tryz.ntmps62]; exact len_le _ _ rfl) fun hok hokH => ?_
  clear hok
  refine SWp.seq (Wp.s ?_)
  simp -implicitDefEqProofs [go_sem, args0]
  refine SWp.seq (Wp.s ?_)
  simp -implicitDefEqProofs [go_sem]
  refine CC.mono (imApply_cc _ _ tk l ws hl hn hw) ?_
  rintro _ _ _ ⟨rfl, rfl, rfl⟩
  simp -implicitDefEqProofs [go_sem, apV]
  refine Wp.s ?_
  simp -implicitDefEqProofs [go_sem]
  exact Fin.pu (.refl _) (by simp [go_sem, okL, okV]) hokH (by simp) (by simp)
theorem chk1_cc (H : Hp) (V : List Nat) (tk : Tk) (v : List Sec) (n : Int) : CC Tryz.prog 74 [.sl tk 8 (v.map secC), ci n] H V (Pu (cb (decide ((v.length : Int) = n))) H V) := by
  refine CC.of_swp Tryz.func74 rfl (by kernel_rfl) (by rw [Tryz.ntmps74]; exact len_le _ _ rfl) fun hok hokH => ?_
  clear hok
  refine SWp.seq (Wp.s ?_)
  simp -implicitDefEqProofs [go_sem, args0]
  refine Wp.s ?_
  simp -implicitDefEqProofs [go_sem]
  exact Fin.pu (.refl _) (by simp [go_sem]) hokH (by simp) (by simp)
theorem imgSz_take {x : Img} {s : List Int} {i : Nat} (h : i < x.length) (h2 : i < s.length) (hp : (imgSz x).take i = s.take i) (he : (x[i].length : Int) = s[i]) : (imgSz x).take (i + 1) = s.take (i + 1) := by
  rw [List.take_succ_eq_append_getElem (by rw [imgSz_len]; exact h), List.take_succ_eq_append_getElem h2, hp, ← he]
  simp [imgSz]
theorem eqSz_cc (H : Hp) (V : List Nat) (t1 t2 : Tk) (x : Img) (s : List Int) (hl : x.length ≤ 1000000000) : CC Tryz.prog 73 [.sl t1 1 (x.map imE), .sl t2 1 (s.map ic), .fn 74 []] H V (Pu (cb (decide (imgSz x = s))) H V) := by
  refine CC.of_swp Tryz.func73 rfl (by kernel_rfl) (by rw [Tryz.ntmps73]; exact len_le _ _ rfl) fun hok hokH => ?_
  clear hok
  refine SWp.seq (Wp.s ?_)
  simp -implicitDefEqProofs [go_sem, args0]
  refine SWp.seq (SWp.seq (Wp.s ?_))
  by_cases hlen : x.length = s.length
  case neg =>
    have hlen' : ¬ (x.length : Int) = (s.length : Int) := by omega
    simp -implicitDefEqProofs [go_sem, hlen']
    refine Wp.s ?_
    simp -implicitDefEqProofs [go_sem, hlen, hlen']
    exact Fin.bool (by rw [decide_eq_false]; intro e; exact hlen (by rw [← e, imgSz_len])) hokH (by simp) (by simp)
  simp -implicitDefEqProofs [go_sem, hlen]
  refine Wp.s ?_
  simp -implicitDefEqProofs [go_sem, hlen]
  refine SWp.join (α := Unit) (fun _ => ([], H, V)) (fun _ => imgSz x = s) ?_ ?_
  · refine SWp.seq (Wp.s ?_)
    simp -implicitDefEqProofs [go_sem]
    refine SWp.block ?_
    refine SWp.loop (α := Nat) (fun i => ([(1, .sl t2 1 (s.map ic)), (2, .fn 74 []), (15, .sl t1 1 (x.map imE)), (16, ci x.length), (17, ci i)], H, V)) (fun i => i ≤ x.length ∧ (imgSz x).take i = s.take i) (fun i => x.length - i) 0 ⟨Nat.zero_le _, rfl⟩ (Sh.forget (by simp [go_sem, hlen]) rfl rfl) ?_
    rintro i ⟨hi, hp⟩
    dsimp only
    refine SWp.seq (Wp.s ?_)
    simp -implicitDefEqProofs [go_sem]
    refine SWp.seq (Wp.s ?_)
    simp -implicitDefEqProofs [go_sem]
    refine ⟨fun h => ?_, fun h => ⟨by rwa [List.take_of_length_le (by rw [imgSz_len]; exact h), List.take_of_length_le (by omega)] at hp, Sh.forget (by simp [go_sem]) rfl rfl⟩⟩
    have h2 : i < s.length := by omega
    refine SWp.seq (SWp.block (SWp.seq (Wp.s ?_)))
    simp -implicitDefEqProofs [go_sem, h]
    refine SWp.seq (Wp.s ?_)
    simp -implicitDefEqProofs [go_sem, h2]
    refine SWp.seq (Wp.s ?_)
    simp -implicitDefEqProofs [go_sem]
    refine CC.mono (chk1_cc _ _ .sh x[i] s[i]) ?_
    rintro _ _ _ ⟨rfl, rfl, rfl⟩
    by_cases he : (x[i].length : Int) = s[i]
    · simp -implicitDefEqProofs [go_sem, he]
      refine Wp.s ?_
      simp -implicitDefEqProofs [go_sem]
      refine Wp.s ?_
      simp -implicitDefEqProofs [go_sem]
      refine ⟨i + 1, ⟨by omega, imgSz_take h h2 hp he⟩, by omega, Sh.forget ?_ rfl rfl⟩
      simp [go_sem, wrap_succ (show i ≤ 1000000000 by omega)]
    · simp -implicitDefEqProofs [go_sem, he]
      refine Wp.s ?_
      simp -implicitDefEqProofs [go_sem]
      refine Fin.bool ?_ hokH (by simp) (by simp)
      rw [decide_eq_false]
      intro e
      apply he
      have := congrArg (fun l : List Int => l[i]?) e
      simp only [imgSz, List.getElem?_map, List.getElem?_eq_getElem h, List.getElem?_eq_getElem h2, Option.map_some] at this
      exact Option.some.inj this
  · rintro _ he
    dsimp only
    refine Wp.s ?_
    simp -implicitDefEqProofs [go_sem]
    exact Fin.bool (by simp [he]) hokH (by simp) (by simp)
structure StS (s : Sto) : Prop where
  sl : s.sizes.length ≤ 1000000000
  jl : s.jr.sizes.length ≤ 1000000000
  pl : s.pend.length ≤ 1000000
  pd : ∀ w ∈ s.pend, w.data.length ≤ 1000000
  il : s.img.length ≤ 1000000
  iv : ∀ v ∈ s.img, v.length ≤ 1000000
theorem chkJ_first {j : Jrn} (h : chkJ j = true) : 1 ≤ j.first ∧ j.first ≤ 1073741824 := by
  simp only [chkJ, Bool.and_eq_true, decide_eq_true_eq] at h
  omega
theorem apI_sz : ∀ (ws : List Wr) (l : Img) (i : Nat) {y : Img} {j : Nat}, apI l ws i = (y, j, 0) → imgSz y = imgSz l
  | [], l, i, y, j, h => by rw [apI] at h; cases h; rfl
  | w :: ws, l, i, y, j, h => by
    rw [apI] at h
    split at h
    · rename_i q
      exact absurd (congrArg (fun x => x.2.2) h) q
    · rename_i q
      rw [apI_sz ws _ _ h]
      have := ap1_sz (k := l) (w := w) (by simpa using q)
      have e : ∀ x : Img, imgSz x = (x.map List.length).map (fun n : Nat => (n : Int)) := fun x => by rw [imgSz, List.map_map]; rfl
      rw [e, e, this]
theorem apR_sz {l : Img} {ws : List Wr} (h : (apR l ws).2.2 = 0) : imgSz (apR l ws).1 = imgSz l := by
  unfold apR at h ⊢
  split at h
  · rename_i q; exact absurd h q
  · rename_i q
    rw [if_neg q]
    refine apI_sz ws l 0 (j := (apI l ws 0).2.1) ?_
    generalize apI l ws 0 = z at h ⊢
    obtain ⟨a, b, d⟩ := z
    dsimp only at h ⊢
    rw [h]
theorem img_small {sz : List Int} (hs : sizesE sz = 0) {x : Img} (hx : imgSz x = sz) : x.length ≤ 1000000000 ∧ ∀ v ∈ x, v.length ≤ 1000000000 := by
  obtain ⟨h1, h2⟩ := sizes_pos (l := x) (by rw [hx]; exact hs)
  exact ⟨by omega, fun v hv => by have := (h2 v hv).2; omega⟩
structure ChkA (s : Sto) : Prop where
  j : chkJ s.jr = true
  a : ¬ (s.jr.start ≠ 0 ∨ s.data ≠ s.jr.count ∨ 4096 - sumI s.sizes < s.data)
  b : ¬ (s.applied ≠ s.jr.first - 1 ∨ s.pend.length ≠ s.jr.sizes.length)
set_option maxRecDepth 8000 in
theorem vCheck_cc (H : Hp) (V : List Nat) (s : Sto) (hs : StS s) : CC Tryz.prog 21 [.agg (stoC s)] H V (Pu (er (chkV s)) H V) := by
  refine CC.of_swp Tryz.func21 rfl (by kernel_rfl) (by rw [Tryz.ntmps21]; exact len_le _ _ rfl) fun hok hokH => ?_
  clear hok
  have fin : ∀ (e : Nat) (H' : Hp) (V' : List Nat), chkV s = e → H'.take H.length = H → V'.take V.length = V → Fin H.length V.length (Pu (er (chkV s)) H V) (er e) H' V' := fun e H' V' h1 h2 h3 => Fin.er h1 hokH h2 h3
  refine SWp.seq (Wp.s ?_)
  simp -implicitDefEqProofs [go_sem, args0]
  refine SWp.seq (Wp.s ?_)
  simp -implicitDefEqProofs [go_sem, stoC]
  refine CC.mono (New_cc _ _ .sh s.sizes (by have := hs.sl; omega)) ?_
  rintro _ _ _ ⟨rfl, rfl, rfl⟩
  simp -implicitDefEqProofs [go_sem]
  refine SWp.seq (SWp.seq (Wp.s ?_))
  by_cases h0 : sizesE s.sizes = 0
  case neg =>
    simp -implicitDefEqProofs [go_sem, h0]
    refine Wp.s ?_
    simp -implicitDefEqProofs [go_sem]
    exact fin _ _ _ (by rw [chkV, if_pos h0]) (by simp) (by simp)
  have hz := SzOk.of h0
  have hsm := hz.sum'
  have hl8 := (sizesE_0 h0).2.1
  simp -implicitDefEqProofs [go_sem, h0]
  refine Wp.s ?_
  simp -implicitDefEqProofs [go_sem]
  refine SWp.seq (Wp.s ?_)
  simp -implicitDefEqProofs [go_sem]
  refine SWp.join (α := Unit) (fun _ => ([(1, .ptr H.length 0), (3, imV (imOf s.sizes))], H ++ [some (stoC s), some (jrC s.jr)], V)) (fun _ => ChkA s) ?_ ?_
  · refine SWp.block (SWp.seq (Wp.s ?_))
    simp -implicitDefEqProofs [go_sem]
    refine CC.mono (JCheck_cc _ _ s.jr hs.jl) ?_
    rintro _ _ _ ⟨rfl, rfl, rfl⟩
    by_cases hJ : chkJ s.jr = true
    case neg =>
      have hJ' : chkJ s.jr = false := by simpa using hJ
      simp -implicitDefEqProofs [go_sem, ckE, hJ']
      refine Wp.s ?_
      simp -implicitDefEqProofs [go_sem]
      exact fin _ _ _ (by rw [chkV, if_neg (by simp [h0]), if_pos hJ']) (by simp) (by simp)
    have e1 : chkV s = if s.jr.start ≠ 0 ∨ s.data ≠ s.jr.count ∨ 4096 - sumI s.sizes < s.data then 2
        else if s.applied ≠ s.jr.first - 1 ∨ s.pend.length ≠ s.jr.sizes.length then 3
        else if (apR (imOf s.sizes) s.pend).2.2 ≠ 0 then (apR (imOf s.sizes) s.pend).2.2
        else if imgSz s.img ≠ s.sizes then 22
        else if (apR s.img s.pend).2.2 ≠ 0 ∨ (apR s.img s.pend).1 ≠ s.img then 22 else 0 := by
      rw [chkV, if_neg (by simp [h0]), if_neg (by simp [hJ])]
    have hfi := chkJ_first hJ
    simp -implicitDefEqProofs [go_sem, ckE, hJ]
    refine SWp.condF (by simp [go_sem]) ?_
    refine SWp.seq (SWp.drawnT [] [] (.s 0 .pl <| .s 1 .pl <| .s 2 .pl <| .s 3 .pl <| .s 4 .pl <| .s 5 .pl <| .s 6 .pl <| .s 7 .pl <| .s 8 .pl <| .s 9 .pl <| .s 10 .pl <| .s 11 .pl <| .s 12 .pl <| .s 13 .pl <| .s 14 .pl <| .s 15 .pl <| .s 16 .pl <| .s 17 .pl <| .s 18 .pl <| .s 19 .pl <| .s 20 .pl <| .s 21 .pl <| .n) (by kernel_rfl) (by kernel_rfl) ?_)
    have w1 : IntKind.i64.wrap (4096 - sumI s.sizes) = 4096 - sumI s.sizes := IntWalk.i64_in _ ⟨by omega, by omega⟩
    have w2 : IntKind.i64.wrap (s.jr.first - 1) = s.jr.first - 1 := IntWalk.i64_in _ ⟨by omega, by omega⟩
    by_cases c1 : s.jr.start = 0
    case neg =>
      simp -implicitDefEqProofs [go_sem, c1]
      refine Wp.s ?_
      simp -implicitDefEqProofs [go_sem]
      exact fin _ _ _ (by rw [e1, if_pos (.inl c1)]) (by simp) (by simp)
    by_cases c2 : s.data = s.jr.count
    case neg =>
      simp -implicitDefEqProofs [go_sem, c1, c2]
      refine Wp.s ?_
      simp -implicitDefEqProofs [go_sem]
      exact fin _ _ _ (by rw [e1, if_pos (.inr (.inl c2))]) (by simp) (by simp)
    simp -implicitDefEqProofs [go_sem, c1, c2]
    refine CC.mono (vsum_cc _ _ .sh s.sizes hz) ?_
    rintro _ _ _ ⟨rfl, rfl, rfl⟩
    by_cases c3 : 4096 - sumI s.sizes < s.jr.count
    · simp -implicitDefEqProofs [go_sem, w1, c3]
      refine Wp.s ?_
      simp -implicitDefEqProofs [go_sem]
      exact fin _ _ _ (by rw [e1, if_pos (.inr (.inr (by rw [c2]; exact c3)))]) (by simp) (by simp)
    simp -implicitDefEqProofs [go_sem, w1, c3]
    refine SWp.condF (by simp [go_sem]) ?_
    have hb1 : ¬ (s.jr.start ≠ 0 ∨ s.data ≠ s.jr.count ∨ 4096 - sumI s.sizes < s.data) := by
      rintro (q | q | q)
      · exact q c1
      · exact q c2
      · rw [c2] at q; exact c3 q
    rw [if_neg hb1] at e1
    refine SWp.seq (Wp.s ?_)
    by_cases c4 : s.applied = s.jr.first - 1
    case neg =>
      simp -implicitDefEqProofs [go_sem, w2, c4]
      refine Wp.s ?_
      simp -implicitDefEqProofs [go_sem]
      exact fin _ _ _ (by rw [e1, if_pos (.inl c4)]) (by simp) (by simp)
    by_cases c5 : s.pend.length = s.jr.sizes.length
    case neg =>
      have c5' : ¬ (s.pend.length : Int) = (s.jr.sizes.length : Int) := by omega
      simp -implicitDefEqProofs [go_sem, w2, c4, c5, c5']
      refine Wp.s ?_
      simp -implicitDefEqProofs [go_sem]
      exact fin _ _ _ (by rw [e1, if_pos (.inr c5)]) (by simp) (by simp)
    simp -implicitDefEqProofs [go_sem, w2, c4, c5]
    refine Wp.s ?_
    simp -implicitDefEqProofs [go_sem]
    exact ⟨⟨hJ, hb1, by rintro (q | q); exact q c4; exact q c5⟩, Sh.forget (by simp [go_sem]) (by rw [stoC, jrC, c1, c2, c4]) rfl⟩
  rintro _ ⟨hJ, hb1, hb2⟩
  dsimp only
  have e1 : chkV s = if (apR (imOf s.sizes) s.pend).2.2 ≠ 0 then (apR (imOf s.sizes) s.pend).2.2
        else if imgSz s.img ≠ s.sizes then 22
        else if (apR s.img s.pend).2.2 ≠ 0 ∨ (apR s.img s.pend).1 ≠ s.img then 22 else 0 := by
    rw [chkV, if_neg (by simp [h0]), if_neg (by simp [hJ]), if_neg hb1, if_neg hb2]
  refine SWp.seq (SWp.seq (Wp.s ?_))
  simp -implicitDefEqProofs [go_sem, stoC]
  refine CC.mono (replay_cc _ _ .sh (imOf s.sizes) s.pend (by rw [imOf_len]; omega) (by have := hs.pl; omega) (fun w hw => by have := hs.pd w hw; omega)) ?_
  rintro _ _ _ ⟨rfl, rfl, rfl⟩
  simp -implicitDefEqProofs [go_sem]
  refine SWp.seq (Wp.s ?_)
  by_cases h1 : (apR (imOf s.sizes) s.pend).2.2 = 0
  case neg =>
    have h1' : ¬ (((apR (imOf s.sizes) s.pend).2.2 : Nat) : Int) = 0 := by omega
    simp -implicitDefEqProofs [go_sem, h1, h1']
    refine Wp.s ?_
    simp -implicitDefEqProofs [go_sem]
    exact fin _ _ _ (by rw [e1, if_pos h1]) (by simp) (by simp)
  rw [if_neg (by simp [h1])] at e1
  simp -implicitDefEqProofs [go_sem, h1]
  refine Wp.s ?_
  simp -implicitDefEqProofs [go_sem]
  refine SWp.seq (SWp.seq (Wp.s ?_))
  simp -implicitDefEqProofs [go_sem, stoC]
  refine CC.mono (eqSz_cc _ _ .sh .sh s.img s.sizes (by have := hs.il; omega)) ?_
  rintro _ _ _ ⟨rfl, rfl, rfl⟩
  by_cases h2 : imgSz s.img = s.sizes
  case neg =>
    simp -implicitDefEqProofs [go_sem, h2]
    refine Wp.s ?_
    simp -implicitDefEqProofs [go_sem]
    exact fin _ _ _ (by rw [e1, if_pos h2]) (by simp) (by simp)
  rw [if_neg (by simp [h2])] at e1
  simp -implicitDefEqProofs [go_sem, h2]
  refine Wp.s ?_
  simp -implicitDefEqProofs [go_sem]
  refine SWp.seq (SWp.seq (Wp.s ?_))
  simp -implicitDefEqProofs [go_sem, stoC]
  refine CC.mono (replay_cc _ _ .sh s.img s.pend (by have := hs.il; omega) (by have := hs.pl; omega) (fun w hw => by have := hs.pd w hw; omega)) ?_
  rintro _ _ _ ⟨rfl, rfl, rfl⟩
  simp -implicitDefEqProofs [go_sem]
  refine SWp.seq (Wp.s ?_)
  by_cases h3 : (apR s.img s.pend).2.2 = 0
  case neg =>
    have h3' : ¬ (((apR s.img s.pend).2.2 : Nat) : Int) = 0 := by omega
    simp -implicitDefEqProofs [go_sem, h3, h3']
    refine Wp.s ?_
    simp -implicitDefEqProofs [go_sem]
    exact fin _ _ _ (by rw [e1, if_pos (.inl h3)]) (by simp) (by simp)
  simp -implicitDefEqProofs [go_sem, h3, stoC]
  obtain ⟨i1, i2⟩ := img_small h0 ((apR_sz h3).trans h2)
  refine CC.mono (imSame_cc _ _ .sh .sh (apR s.img s.pend).1 s.img i1 i2) ?_
  rintro _ _ _ ⟨rfl, rfl, rfl⟩
  by_cases h4 : (apR s.img s.pend).1 = s.img
  case neg =>
    simp -implicitDefEqProofs [go_sem, h4]
    refine Wp.s ?_
    simp -implicitDefEqProofs [go_sem]
    exact fin _ _ _ (by rw [e1, if_pos (.inr h4)]) (by simp) (by simp)
  simp -implicitDefEqProofs [go_sem, h4]
  refine Wp.s ?_
  simp -implicitDefEqProofs [go_sem]
  refine SWp.seq (Wp.s ?_)
  simp -implicitDefEqProofs [go_sem]
  refine Wp.s ?_
  simp -implicitDefEqProofs [go_sem]
  exact fin _ _ _ (by rw [e1, if_neg (by rintro (q | q); exact q h3; exact q h4)]) (by simp) (by simp)
end Go.Proofs.YtbnkggbpocaaiaaGreatDoor
namespace Go.Proofs.YtbnkggbpocaaiaaGreatDoor
open Go.Proofs
theorem vcloneInt_cc (H : Hp) (V : List Nat) (tk : Tk) (xs : List Int) (hx : xs.length ≤ 1000000000) : CC Tryz.prog 46 [.sl tk 1 (xs.map ic)] H V (Pu (.sl .sh 1 (xs.map ic)) H V) := by
  refine CC.of_swp Tryz.func46 rfl (by kernel_rfl) (by rw [Tryz.ntmps46]; exact len_le _ _ rfl) fun hok hokH => Wp.s ?_
  simp -implicitDefEqProofs [go_sem, args0]
  refine ⟨⟨by omega, ?_⟩, fun h => ?_⟩
  · exact Fin.pu (.sh ..) (by simp [go_sem, okE_ints]) hokH (by simp) (by simp)
  · obtain rfl : xs = [] := by simpa using h
    exact Fin.pu (.nil 1 (by decide)) (by simp [go_sem]) hokH (by simp) (by simp)
theorem vcloneSec_cc (H : Hp) (V : List Nat) (tk : Tk) (xs : List Sec) (hx : xs.length ≤ 1000000000) : CC Tryz.prog 122 [.sl tk 8 (xs.map secC)] H V (Pu (secsV xs) H V) := by
  refine CC.of_swp Tryz.func122 rfl (by kernel_rfl) (by rw [Tryz.ntmps122]; exact len_le _ _ rfl) fun hok hokH => Wp.s ?_
  simp -implicitDefEqProofs [go_sem, args0]
  refine ⟨⟨by omega, ?_⟩, fun h => ?_⟩
  · exact Fin.pu (.sh ..) (by simp [go_sem, okE_secs]) hokH (by simp) (by simp)
  · obtain rfl : xs = [] := by simpa using h
    exact Fin.pu (.nil 8 (by decide)) (by simp [go_sem]) hokH (by simp) (by simp)
def wrU (l : List Wr) (i : Nat) : List (List CV) := (l.take i).map wrC
theorem wrU_len (l : List Wr) (i : Nat) (h : i ≤ l.length) : (wrU l i).length = i := by rw [wrU, List.length_map, List.length_take]; omega
@[go_sem] theorem wrU_0 (l : List Wr) : wrU l 0 = [] := rfl
theorem wrU_s {l : List Wr} {i : Nat} (h : i < l.length) : wrU l (i + 1) = wrU l i ++ [wrC l[i]] := by
  rw [wrU, List.take_succ_eq_append_getElem h, List.map_append]; rfl
@[go_sem] theorem wrU_all (l : List Wr) : wrU l l.length = l.map wrC := by rw [wrU, List.take_length]
@[go_sem] theorem okE_wrU (i j : Nat) (l : List Wr) (k : Nat) : okE i j (wrU l k) = True := by rw [wrU, okE_wrs]
theorem wr_put2' (w : Wr) : List.take 3 (List.take 2 (wrC w) ++ CV.sl Tk.sh 8 (List.map secC w.data) :: List.drop 3 (wrC w)) = wrC w := rfl
theorem ownWrites_cc (H : Hp) (V : List Nat) (tk : Tk) (l : List Wr) (h1 : l.length ≤ 1000000) (h2 : ∀ w ∈ l, w.data.length ≤ 1000000) : CC Tryz.prog 64 [.sl .sh 3 (l.map wrC)] H V (Fr 3 (l.map wrC) H V) := by
  refine CC.of_swp Tryz.func64 rfl (by kernel_rfl) (by rw [Tryz.ntmps64]; exact len_le _ _ rfl) fun hok hokH => ?_
  clear hok
  refine SWp.seq (Wp.s ?_)
  simp -implicitDefEqProofs [go_sem, args0]
  refine SWp.seq (Wp.s ?_)
  simp -implicitDefEqProofs [go_sem]
  refine SWp.join (α := Unit) (fun _ => ([(3, .sl (.own V.length l.length) 3 (l.map wrC))], H, V ++ [l.length])) (fun _ => True) ?_ ?_
  · refine SWp.seq (Wp.s ?_)
    simp -implicitDefEqProofs [go_sem]
    refine SWp.block ?_
    refine SWp.loop (α := Nat) (fun i => ([(3, .sl (.own V.length i) 3 (wrU l i)), (6, .sl .sh 3 (l.map wrC)), (7, ci l.length), (8, ci i)], H, V ++ [i])) (fun i => i ≤ l.length) (fun i => l.length - i) 0 (Nat.zero_le _) (Sh.tokT (by simp [go_sem]) rfl rfl) ?_
    intro i hi
    dsimp only
    refine SWp.seq (Wp.s ?_)
    simp -implicitDefEqProofs [go_sem]
    refine SWp.seq (Wp.s ?_)
    simp -implicitDefEqProofs [go_sem]
    refine ⟨fun h => ?_, fun h => ?_⟩
    case refine_2 =>
      obtain rfl : i = l.length := by omega
      exact Sh.forget (by simp [go_sem]) rfl rfl
    have hw := h2 _ (List.getElem_mem h)
    refine SWp.seq (SWp.block (SWp.seq (Wp.s ?_)))
    simp -implicitDefEqProofs [go_sem, h]
    refine SWp.seq (Wp.s ?_)
    simp -implicitDefEqProofs [go_sem]
    refine CC.mono (vcloneSec_cc _ _ .sh l[i].data (by omega)) ?_
    rintro _ _ _ ⟨rfl, rfl, rfl⟩
    simp -implicitDefEqProofs [go_sem]
    refine Wp.s ?_
    simp -implicitDefEqProofs [go_sem, wrU_len _ _ hi]
    refine ⟨rfl, by omega, ?_⟩
    have w2 : IntKind.i64.wrap ((i : Int) + 1) = (i : Int) + 1 := IntWalk.i64_in _ ⟨by omega, by omega⟩
    refine Wp.s ?_
    simp -implicitDefEqProofs [go_sem, w2]
    refine ⟨i + 1, by omega, by omega, Sh.cut H.length (V.length + 1) (by simp [go_sem, wrU_s h, wr_put2']) (Nat.le_refl _) (by omega) (TOk.all (by simp [go_sem])) (fun b cs hb => okL_mono (Nat.le_refl _) (by omega) (hokH b cs hb)) (by simp) (by simp)⟩
  · rintro _ -
    dsimp only
    refine SWp.seq (Wp.s ?_)
    simp -implicitDefEqProofs [go_sem]
    refine Wp.s ?_
    simp -implicitDefEqProofs [go_sem]
    exact Fin.fresh rfl (by simp [go_sem, okE_wrs]) hokH (by simp)
def zstC : List CV := [.v (.slice none 0 0), .v (.int .i64 0), .v (.int .i64 0), .v (.int .i64 0), .v (.int .i64 0), .v (.int .i64 0), .v (.slice none 0 0), .v (.int .i64 0), .v (.int .i64 0), .v (.slice none 0 0), .v (.slice none 0 0)]
@[go_sem, simp] theorem zstC_len : zstC.length = 11 := rfl
def stoT (s : Sto) (pv : CV) : List CV := [.sl .sh 1 (s.sizes.map ic), .v (.int .i64 s.jr.start), .v (.int .i64 s.jr.count), .v (.int .i64 s.jr.head), .v (.int .i64 s.jr.tail), .v (.int .i64 s.jr.first), .sl .sh 1 (s.jr.sizes.map ic), .v (.int .i64 s.data), .v (.int .i64 s.applied), pv, .sl .sh 1 (s.img.map imE)]
def OwnR (s : Sto) (H : Hp) (V : List Nat) : CV → Hp → List Nat → Prop := fun r H' V' => ∃ k v, r = .agg (stoT s (.sl (.own k v) 3 (s.pend.map wrC))) ∧ H = H' ∧ V'.take V.length = V ∧ V'[k]? = some v ∧ V.length ≤ k
def imU (l : Img) (i : Nat) : List (List CV) := (l.take i).map imE
theorem imU_len (l : Img) (i : Nat) (h : i ≤ l.length) : (imU l i).length = i := by rw [imU, List.length_map, List.length_take]; omega
@[go_sem] theorem imU_0 (l : Img) : imU l 0 = [] := rfl
theorem imU_s {l : Img} {i : Nat} (h : i < l.length) : imU l (i + 1) = imU l i ++ [imE l[i]] := by
  rw [imU, List.take_succ_eq_append_getElem h, List.map_append]; rfl
@[go_sem] theorem imU_all (l : Img) : imU l l.length = l.map imE := by rw [imU, List.take_length]
@[go_sem] theorem okE_imU (i j : Nat) (l : Img) (k : Nat) : okE i j (imU l k) = True := by rw [imU, okE_ims]
set_option maxRecDepth 8000 in
theorem vown_cc (H : Hp) (V : List Nat) (s : Sto) (hs : StS s) : CC Tryz.prog 63 [.agg (stoC s)] H V (OwnR s H V) := by
  refine CC.of_swp Tryz.func63 rfl (by kernel_rfl) (by rw [Tryz.ntmps63]; exact len_le _ _ rfl) fun hok hokH => ?_
  clear hok
  refine SWp.seq (Wp.s ?_)
  simp -implicitDefEqProofs [go_sem, args0]
  refine SWp.seq (Wp.s ?_)
  simp -implicitDefEqProofs [go_sem]
  refine SWp.join (α := Unit) (fun _ => ([(1, .ptr H.length 0), (2, .ptr (H.length + 1) 0), (3, .sl (.own V.length s.img.length) 1 (s.img.map imE))], H ++ [some (stoC s), some zstC], V ++ [s.img.length])) (fun _ => True) ?_ ?_
  · refine SWp.seq (Wp.s ?_)
    simp -implicitDefEqProofs [go_sem, stoC]
    refine SWp.block ?_
    refine SWp.loop (α := Nat) (fun i => ([(1, .ptr H.length 0), (2, .ptr (H.length + 1) 0), (3, .sl (.own V.length i) 1 (imU s.img i)), (7, .sl .sh 1 (s.img.map imE)), (8, ci s.img.length), (9, ci i)], H ++ [some (stoC s), some zstC], V ++ [i])) (fun i => i ≤ s.img.length) (fun i => s.img.length - i) 0 (Nat.zero_le _) ?_ ?_
    · exact Sh.tokT (by simp [go_sem]) (by simp [stoC, zstC]) rfl
    intro i hi
    dsimp only
    refine SWp.seq (Wp.s ?_)
    simp -implicitDefEqProofs [go_sem]
    refine SWp.seq (Wp.s ?_)
    simp -implicitDefEqProofs [go_sem]
    refine ⟨fun h => ?_, fun h => ?_⟩
    case refine_2 =>
      obtain rfl : i = s.img.length := by omega
      exact Sh.forget (by simp [go_sem]) rfl rfl
    have hv := hs.iv _ (List.getElem_mem h)
    have hil := hs.il
    refine SWp.seq (SWp.block (SWp.seq (Wp.s ?_)))
    simp -implicitDefEqProofs [go_sem, h]
    refine Wp.s ?_
    simp -implicitDefEqProofs [go_sem]
    refine CC.mono (vcloneSec_cc _ _ .sh s.img[i] (by omega)) ?_
    rintro _ _ _ ⟨rfl, rfl, rfl⟩
    simp -implicitDefEqProofs [go_sem, imU_len _ _ hi]
    refine ⟨by omega, ?_⟩
    have w2 : IntKind.i64.wrap ((i : Int) + 1) = (i : Int) + 1 := IntWalk.i64_in _ ⟨by omega, by omega⟩
    refine Wp.s ?_
    simp -implicitDefEqProofs [go_sem, w2]
    exact ⟨i + 1, by omega, by omega, Sh.forget (by simp [go_sem, imU_s h, imE]) rfl (by simp)⟩
  rintro _ -
  dsimp only
  refine SWp.seq (SWp.drawnT [] [8, 10, 12] (.s 0 .pl <| .s 1 .pl <| .s 3 .pl <| .s 4 .pl <| .s 5 .pl <| .s 2 .pl <| .s 7 .pl <| .s 6 .pl <| .s 8 .st <| .s 9 .pl <| .s 10 .st <| .s 11 .pl <| .s 12 .st <| .n) (by kernel_rfl) (by kernel_rfl) ?_)
  simp -implicitDefEqProofs [go_sem, stoC]
  refine CC.mono (vcloneInt_cc _ _ .sh s.sizes hs.sl) ?_
  rintro _ _ _ ⟨rfl, rfl, rfl⟩
  simp -implicitDefEqProofs [go_sem]
  refine CC.mono (ownWrites_cc _ _ .sh s.pend hs.pl hs.pd) ?_
  rintro _ _ _ ⟨v, rfl, rfl, rfl⟩
  simp -implicitDefEqProofs [go_sem]
  refine SWp.seq (Wp.s ?_)
  simp -implicitDefEqProofs [go_sem]
  refine CC.mono (vcloneInt_cc _ _ .sh s.jr.sizes hs.jl) ?_
  rintro _ _ _ ⟨rfl, rfl, rfl⟩
  simp -implicitDefEqProofs [go_sem]
  refine SWp.seq (Wp.s ?_)
  simp -implicitDefEqProofs [go_sem]
  refine Wp.s ?_
  simp -implicitDefEqProofs [go_sem]
  refine Fin.cut H.length (V.length + 2) (H'' := H) (V'' := V ++ [s.img.length, v]) (r' := .agg (stoT s (.sl (.own (V.length + 1) v) 3 (s.pend.map wrC)))) ⟨V.length + 1, v, rfl, rfl, by simp, by simp, by omega⟩ (Nat.le_refl _) (by omega) (by simp) (by simp) ?_ ?_ fun b cs hb => okL_mono (Nat.le_refl _) (by omega) (hokH b cs hb)
  · exact .agg (.cons (.refl _) (.cons (.refl _) (.cons (.refl _) (.cons (.refl _) (.cons (.refl _) (.cons (.refl _) (.cons (.refl _) (.cons (.refl _) (.cons (.refl _) (.cons (.refl _) (.cons (.sh _ _ _) .nil)))))))))))
  · simp [stoT, go_sem, okL, okV, okTk, okE_ints, okE_wrs, okE_ims]
end Go.Proofs.YtbnkggbpocaaiaaGreatDoor
namespace Go.Proofs.YtbnkggbpocaaiaaGreatDoor
open Go.Proofs
theorem vPutWrites_cc (H : Hp) (V : List Nat) (tk tk' : Tk) (l : List UInt8) (xs : List Wr) (hx : xs.length ≤ 900000000) (hl : l.length + (encWrs xs).length ≤ 900000000) :
    CC Tryz.prog 61 [.sl tk 1 (bs l), .sl tk' 3 (xs.map wrC)] H V (Pu (.sl .sh 1 (bs (l ++ encWrs xs))) H V) := by
  refine CC.of_swp Tryz.func61 rfl (by kernel_rfl) (by rw [Tryz.ntmps61]; exact len_le _ _ rfl) fun hok hokH => Wp.s ?_
  simp -implicitDefEqProofs [go_sem, args0]
  refine CC.mono (clone_cc _ _ _ _ (by simp only [bs_len]; omega)) ?_
  rintro _ _ _ ⟨v, rfl, rfl, rfl⟩
  try simp -implicitDefEqProofs [go_sem]
  refine CC.mono (putWrites_cc _ _ _ _ _ _ _ (by simp) hx hl) ?_
  rintro _ _ _ ⟨v', rfl, rfl, rfl⟩
  simp -implicitDefEqProofs [go_sem]
  exact Fin.pu (.sh _ _ _) (by simp [go_sem]) hokH (by simp) (by simp)
structure StOk (s : Sto) : Prop where
  sz : sizesE s.sizes = 0
  A : ChkA s
  e1 : (apR (imOf s.sizes) s.pend).2.2 = 0
  im : imgSz s.img = s.sizes
  e2 : (apR s.img s.pend).2.2 = 0
  e3 : (apR s.img s.pend).1 = s.img
theorem chkV_ok {s : Sto} (h : chkV s = 0) : StOk s := by
  unfold chkV at h
  split at h
  · rename_i q; exact absurd h q
  rename_i q0
  split at h
  · cases h
  rename_i q1
  split at h
  · cases h
  rename_i q2
  split at h
  · cases h
  rename_i q3
  split at h
  · rename_i q; exact absurd h q
  rename_i q4
  split at h
  · cases h
  rename_i q5
  split at h
  · cases h
  rename_i q6
  exact ⟨by simpa using q0, ⟨by simpa using q1, q2, q3⟩, by simpa using q4, by simpa using q5, Classical.byContradiction fun e => q6 (.inl e), Classical.byContradiction fun e => q6 (.inr e)⟩
theorem apR_one {l : Img} {w : Wr} (h : sizesE (imgSz l) = 0) (hf : fitsS (imgSz l) w = 0) : apR l [w] = (ap1 l w, 0, 0) := by
  rw [apR, if_neg (by simp [h]), apI, if_neg (by simp [hf]), apI]
def wtV (x : Sto × Int × List Opn × Nat) : CV := .tup [.agg (stoC x.1), ci x.2.1, opsV x.2.2.1, er x.2.2.2]
theorem okV_wtV (i j : Nat) (x : Sto × Int × List Opn × Nat) : okV i j (wtV x) := by
  rw [wtV]; simp [go_sem, okL, okV, okL_stoC, okE_ops]
theorem zsto_le : LeL zstC (stoC zsto) := .cons (.nil 1 (by decide)) (.cons (.refl _) (.cons (.refl _) (.cons (.refl _) (.cons (.refl _) (.cons (.refl _) (.cons (.nil 1 (by decide)) (.cons (.refl _) (.cons (.refl _) (.cons (.nil 3 (by decide)) (.cons (.nil 1 (by decide)) .nil))))))))))
theorem nxJ_ok {j : Jrn} (h : chkJ j = true) : nxJ j = nextJ j := by rw [nxJ, if_pos h]
theorem encW_le {w : Wr} (h : w.data.length ≤ 1000000) : (encWrs [w]).length ≤ 900000000 := by
  have h1 := enc_len ([w].length : Int)
  have h2 := enc_len w.volume
  have h3 := enc_len w.start
  have h4 := enc_len (w.data.length : Int)
  have h5 := encSecs_len w.data
  rw [encWrs, List.length_append, List.flatMap_cons, List.flatMap_nil, List.append_nil, encWr, List.length_append, List.length_append]
  omega
set_option maxRecDepth 8000 in
set_option maxHeartbeats 1600000 in
theorem vWrite_cc (H : Hp) (V : List Nat) (s : Sto) (w : Wr) (hs : StS s) (hw : w.data.length ≤ 1000000) : CC Tryz.prog 19 [.agg (stoC s), .agg (wrC w)] H V (Pu (wtV (writeV s w)) H V) := by
  refine CC.of_swp Tryz.func19 rfl (by kernel_rfl) (by rw [Tryz.ntmps19]; exact len_le _ _ rfl) fun hok hokH => ?_
  clear hok
  have bad : ∀ (e : Nat) (H' : Hp) (V' : List Nat), writeV s w = (zsto, 0, [], e) → H'.take H.length = H → V'.take V.length = V → Fin H.length V.length (Pu (wtV (writeV s w)) H V) (.tup [.agg zstC, ci 0, .v (.slice none 0 0), er e]) H' V' := fun e H' V' h1 h2 h3 => by
    rw [h1]
    exact Fin.pu (.tup (.cons (.agg zsto_le) (.cons (.refl _) (.cons (.nil 3 (by decide)) (.cons (.refl _) .nil))))) (okV_wtV _ _ _) hokH h2 h3
  refine SWp.seq (Wp.s ?_)
  simp -implicitDefEqProofs [go_sem, args0]
  refine SWp.seq (SWp.seq (Wp.s ?_))
  simp -implicitDefEqProofs [go_sem]
  refine CC.mono (vCheck_cc _ _ s hs) ?_
  rintro _ _ _ ⟨rfl, rfl, rfl⟩
  simp -implicitDefEqProofs [go_sem]
  refine SWp.seq (Wp.s ?_)
  by_cases h0 : chkV s = 0
  case neg =>
    simp -implicitDefEqProofs [go_sem, h0]
    refine Wp.s ?_
    simp -implicitDefEqProofs [go_sem]
    exact bad _ _ _ (by rw [writeV, if_pos h0]) (by simp) (by simp)
  have hok := chkV_ok h0
  simp -implicitDefEqProofs [go_sem, h0]
  refine Wp.s ?_
  simp -implicitDefEqProofs [go_sem]
  refine SWp.seq (SWp.seq (Wp.s ?_))
  simp -implicitDefEqProofs [go_sem, stoC]
  refine CC.mono (Fits_cc _ _ .sh s.img w (by have := hs.il; omega) (fun v hv => by have := hs.iv v hv; omega) (by omega)) ?_
  rintro _ _ _ ⟨rfl, rfl, rfl⟩
  have hfi : fitsI s.img w = fitsS s.sizes w := by rw [fitsI, hok.im, if_neg (by simp [hok.sz])]
  rw [hfi]
  simp -implicitDefEqProofs [go_sem]
  refine SWp.seq (Wp.s ?_)
  by_cases h1 : fitsS s.sizes w = 0
  case neg =>
    simp -implicitDefEqProofs [go_sem, h1]
    refine Wp.s ?_
    simp -implicitDefEqProofs [go_sem]
    exact bad _ _ _ (by rw [writeV, if_neg (by simp [h0]), if_pos h1]) (by simp) (by simp)
  simp -implicitDefEqProofs [go_sem, h1]
  refine Wp.s ?_
  simp -implicitDefEqProofs [go_sem]
  have hJ := hok.A.j
  refine SWp.seq (Wp.s ?_)
  simp -implicitDefEqProofs [go_sem, stoC]
  refine CC.mono (JNext_cc _ _ s.jr hs.jl) ?_
  rintro _ _ _ ⟨rfl, rfl, rfl⟩
  rw [nxJ_ok hJ]
  simp -implicitDefEqProofs [go_sem]
  refine SWp.seq (SWp.drawnT [] [11] (.s 0 .pl <| .s 1 .pl <| .s 2 .pl <| .s 3 .pl <| .c 4 <| .c 5 <| .s 6 .pl <| .s 7 .pl <| .s 8 .pl <| .s 9 .pl <| .s 10 .pl <| .s 11 .st <| .s 12 .pl <| .s 13 .pl <| .n) (by kernel_rfl) (by kernel_rfl) ?_)
  simp -implicitDefEqProofs [go_sem, stoC]
  have hel : (encWrs [w]).length ≤ 900000000 := encW_le hw
  refine ⟨_, fun H V => CC.le (ys := [.sl .sh 1 (bs []), .sl .ti 3 ([w].map wrC)]) (.cons (.nil 1 (by decide)) (.cons (.refl _) .nil)) (vPutWrites_cc H V .sh .ti [] [w] (by simp) (by simpa using hel)), ?_⟩
  rw [List.nil_append]
  simp -implicitDefEqProofs [go_sem]
  refine ⟨_, fun H V => Append_cc H V s.jr 1 (encWrs [w]) hs.jl hel, ?_⟩
  simp -implicitDefEqProofs [go_sem, jtV]
  have hwv : writeV s w = if (appJ s.jr 1 (encWrs [w])).2.2 ≠ 0 then (zsto, 0, [], (appJ s.jr 1 (encWrs [w])).2.2) else (⟨s.sizes, (appJ s.jr 1 (encWrs [w])).1, s.data, s.applied, s.pend ++ [w], ap1 s.img w⟩, nextJ s.jr, (appJ s.jr 1 (encWrs [w])).2.1, 0) := by
    rw [writeV, if_neg (by simp [h0]), if_neg (by simp [h1])]
  generalize appJ s.jr 1 (encWrs [w]) = x at hwv ⊢
  obtain ⟨j, A, e⟩ := x
  dsimp only at hwv ⊢
  refine SWp.seq (SWp.seq (Wp.s ?_))
  by_cases he : e = 0
  case neg =>
    have he' : ¬ (e : Int) = 0 := by omega
    simp -implicitDefEqProofs [go_sem, he, he']
    refine Wp.s ?_
    simp -implicitDefEqProofs [go_sem]
    exact bad _ _ _ (by rw [hwv, if_pos he]) (by simp) (by simp)
  subst he
  rw [if_neg (by simp)] at hwv
  simp -implicitDefEqProofs [go_sem]
  refine Wp.s ?_
  simp -implicitDefEqProofs [go_sem]
  refine SWp.seq (Wp.s ?_)
  simp -implicitDefEqProofs [go_sem, stoC]
  refine CC.le (ys := [.sl .sh 1 (s.img.map imE), .sl .sh 3 ([w].map wrC)]) (.cons (.refl _) (.cons (.sh _ _ _) .nil)) ?_
  have hw1 : ∀ x ∈ [w], x.data.length ≤ 1000000000 := fun x hx => by
    rw [List.mem_singleton] at hx; subst hx; omega
  refine CC.mono (replay_cc _ _ .sh s.img [w] (by have := hs.il; omega) (by simp) hw1) ?_
  rintro _ _ _ ⟨rfl, rfl, rfl⟩
  rw [apR_one (by rw [hok.im]; exact hok.sz) (by rw [hok.im]; exact h1)]
  simp -implicitDefEqProofs [go_sem]
  refine SWp.seq (SWp.seq (Wp.s ?_))
  simp -implicitDefEqProofs [go_sem]
  refine Wp.s ?_
  simp -implicitDefEqProofs [go_sem]
  refine SWp.seq (Wp.s ?_)
  simp -implicitDefEqProofs [go_sem, stoC]
  refine CC.mono (vown_cc _ _ s hs) ?_
  rintro _ _ V1 ⟨k, v, rfl, rfl, hV1, hV2, hV3⟩
  simp -implicitDefEqProofs [go_sem, stoT]
  refine SWp.seq (SWp.drawnT [H.length + 1] [9, 11, 13] (.s 0 .pl <| .s 1 .pl <| .s 2 .pl <| .s 3 .pl <| .s 4 .ld <| .s 5 .pl <| .s 8 .pl <| .s 6 .pl <| .s 7 .pl <| .s 9 .st <| .s 10 .pl <| .s 11 .st <| .s 12 .pl <| .s 13 .st <| .n) (by kernel_rfl) (by kernel_rfl) ?_)
  simp -implicitDefEqProofs [go_sem]
  refine CC.le (ys := [.sl .sh 3 ([w].map wrC)]) (.cons (.sh _ _ _) .nil) ?_
  refine CC.mono (ownWrites_cc _ _ .sh [w] (by simp) (fun x hx => by rw [List.mem_singleton] at hx; subst hx; exact hw)) ?_
  rintro _ _ _ ⟨v2, rfl, rfl, rfl⟩
  simp -implicitDefEqProofs [go_sem]
  have hkV : k < V1.length := (List.getElem?_eq_some_iff.1 hV2).1
  have hpl := hs.pl
  have hkp : ∀ (a b c d e e' : Option (List CV)), Kp [H.length + 1] (H ++ [a, b, c, d, e]) (H ++ [a, b, c, d, e']) := fun a b c d e e' => Kp.keep fun x hx => by
    obtain rfl : x = H.length + 1 := by simpa using hx
    rw [hget, hget]; rfl
  refine ⟨by rw [List.getElem?_append_left hkV]; exact hV2, by omega, hkp _ _ _ _ _ _, hkp _ _ _ _ _ _, hkp _ _ _ _ _ _, ?_⟩
  refine SWp.seq (Wp.s ?_)
  simp -implicitDefEqProofs [go_sem]
  refine ⟨rfl, ?_⟩
  have hV1l : V.length ≤ V1.length := by omega
  refine Wp.s ?_
  simp -implicitDefEqProofs [go_sem]
  rw [hwv]
  have hsn : List.map wrC s.pend ++ [wrC w] = (s.pend ++ [w]).map wrC := by rw [List.map_append]; rfl
  rw [hsn]
  refine Fin.pu ?_ (okV_wtV _ _ _) hokH (by simp) (by first | (rw [List.take_set_of_le hV3, List.take_append_of_le_length hV1l]; exact hV1) | (rw [List.take_append_of_le_length (by simpa using hV1l), List.take_set_of_le hV3]; exact hV1))
  refine .tup (.cons (.agg ?_) (.cons (.refl _) (.cons (.refl _) (.cons (.refl _) .nil))))
  show LeL [.sl .sh 1 (s.sizes.map ic), .v (.int .i64 j.start), .v (.int .i64 j.count), .v (.int .i64 j.head), .v (.int .i64 j.tail), .v (.int .i64 j.first), .sl .sh 1 (j.sizes.map ic), .v (.int .i64 s.data), .v (.int .i64 s.applied), .sl (.own k (v + 1)) 3 ((s.pend ++ [w]).map wrC), .sl .sh 1 ((ap1 s.img w).map imE)] _
  exact .cons (.refl _) (.cons (.refl _) (.cons (.refl _) (.cons (.refl _) (.cons (.refl _) (.cons (.refl _) (.cons (.refl _) (.cons (.refl _) (.cons (.refl _) (.cons (.sh _ _ _) (.cons (.refl _) .nil))))))))))
end Go.Proofs.YtbnkggbpocaaiaaGreatDoor
namespace Go.Proofs.YtbnkggbpocaaiaaGreatDoor
open Go.Proofs
theorem place_cc (H : Hp) (V : List Nat) (s : Sto) (v : Nat) (h : SzOk s.sizes) (hv : v ≤ s.sizes.length) (h0 : 0 ≤ s.data) (h1 : s.data ≤ 100000) : CC Tryz.prog 83 [.agg (stoC s), ci v] H V (Pu (ci (s.data + sumI (s.sizes.take v))) H V) := by
  refine CC.of_swp Tryz.func83 rfl (by kernel_rfl) (by rw [Tryz.ntmps83]; exact len_le _ _ rfl) fun hok hokH => ?_
  clear hok
  have hs := h.sum v
  have hl := h.1
  refine SWp.seq (Wp.s ?_)
  simp -implicitDefEqProofs [go_sem, args0]
  refine SWp.seq (SWp.drawnT [] [] (.s 0 .pl <| .s 1 .pl <| .s 2 .pl <| .s 3 .pl <| .s 4 .pl <| .s 5 .pl <| .s 6 .pl <| .s 7 .pl <| .s 8 .pl <| .n) (by kernel_rfl) (by kernel_rfl) ?_)
  simp -implicitDefEqProofs [go_sem, stoC]
  refine ⟨by omega, ?_⟩
  rw [← List.map_take]
  refine CC.mono (vsum_cc _ _ .sh (s.sizes.take v) (h.take v)) ?_
  rintro _ _ _ ⟨rfl, rfl, rfl⟩
  have w1 : IntKind.i64.wrap (s.data + sumI (s.sizes.take v)) = s.data + sumI (s.sizes.take v) := IntWalk.i64_in _ ⟨by omega, by omega⟩
  simp -implicitDefEqProofs [go_sem, w1]
  refine Wp.s ?_
  simp -implicitDefEqProofs [go_sem]
  exact Fin.pu (.refl _) (by simp [go_sem]) hokH (by simp) (by simp)
def hdU (j : Jrn) (i : Nat) : Int := (j.head + sumI (j.sizes.take i)) % (j.count - 16)
set_option maxRecDepth 8000 in
set_option maxHeartbeats 1600000 in
theorem Release_cc (H : Hp) (V : List Nat) (d : Dk) (j : Jrn) (q : Int) (hd : DkS d) (hl : j.sizes.length ≤ 1000000000) : CC Tryz.prog 84 [.agg (dkC d), .agg (jrC j), ci q] H V (Pu (jtV (relJ d j q)) H V) := by
  refine CC.of_swp Tryz.func84 rfl (by kernel_rfl) (by rw [Tryz.ntmps84]; exact len_le _ _ rfl) fun hok hokH => ?_
  clear hok
  have bad : ∀ (e : Nat) {H' : Hp} {V' : List Nat}, relJ d j q = (zjr, [], e) → H'.take H.length = H → V'.take V.length = V → Fin H.length V.length (Pu (jtV (relJ d j q)) H V) (.tup [.agg zjC, .v (.slice none 0 0), er e]) H' V' := fun e H' V' h1 h2 h3 => by
    rw [h1]
    exact fin_jt zj_le (.nil 3 (by decide)) rfl hokH h2 h3
  refine SWp.seq (Wp.s ?_)
  simp -implicitDefEqProofs [go_sem, args0]
  refine SWp.seq (SWp.seq (Wp.s ?_))
  simp -implicitDefEqProofs [go_sem]
  refine CC.mono (sCheck_cc _ _ d hd) ?_
  rintro _ _ _ ⟨rfl, rfl, rfl⟩
  simp -implicitDefEqProofs [go_sem]
  refine SWp.seq (Wp.s ?_)
  by_cases hc : checkD d = 0
  case neg =>
    simp -implicitDefEqProofs [go_sem, hc]
    refine Wp.s ?_
    simp -implicitDefEqProofs [go_sem]
    exact bad _ (by rw [relJ, if_pos hc]) (by simp) (by simp)
  simp -implicitDefEqProofs [go_sem, hc]
  refine Wp.s ?_
  simp -implicitDefEqProofs [go_sem]
  refine SWp.seq (Wp.s ?_)
  simp -implicitDefEqProofs [go_sem]
  refine CC.mono (examine_cc _ _ j hl) ?_
  rintro _ _ _ ⟨u, rfl, rfl, rfl, hu⟩
  simp -implicitDefEqProofs [go_sem]
  refine SWp.seq (SWp.seq (Wp.s ?_))
  by_cases h : chkJ j = true
  case neg =>
    simp -implicitDefEqProofs [go_sem, h]
    refine Wp.s ?_
    simp -implicitDefEqProofs [go_sem]
    exact bad 3 (by rw [relJ, if_neg (by simp [hc]), if_pos (by simpa using h)]) (by simp) (by simp)
  obtain rfl := hu h
  have hn := chkJ_next h
  have hsu := chkJ_sum h
  have hva := chkJ_val h
  have hv := (validJ_iff _ _).1 hva
  have hfi := chkJ_first h
  simp -implicitDefEqProofs [go_sem, h]
  refine Wp.s ?_
  simp -implicitDefEqProofs [go_sem]
  refine SWp.seq (SWp.seq (Wp.s ?_))
  have w1 : IntKind.i64.wrap (j.first - 1) = j.first - 1 := IntWalk.i64_in _ ⟨by omega, by omega⟩
  by_cases c1 : q < j.first - 1
  · simp -implicitDefEqProofs [go_sem, w1, c1]
    refine Wp.s ?_
    simp -implicitDefEqProofs [go_sem]
    exact bad 2 (by rw [relJ, if_neg (by simp [hc]), if_neg (by simp [h]), if_pos (.inl c1)]) (by simp) (by simp)
  simp -implicitDefEqProofs [go_sem, w1, c1]
  refine CC.mono (next_cc _ _ j _ hn.1 hn.2) ?_
  rintro _ _ _ ⟨rfl, rfl, rfl⟩
  by_cases c2 : nextJ j ≤ q
  · simp -implicitDefEqProofs [go_sem, c2]
    refine Wp.s ?_
    simp -implicitDefEqProofs [go_sem]
    exact bad 2 (by rw [relJ, if_neg (by simp [hc]), if_neg (by simp [h]), if_pos (.inr c2)]) (by simp) (by simp)
  have hnx : nextJ j = j.first + j.sizes.length := rfl
  simp -implicitDefEqProofs [go_sem, c2]
  refine Wp.s ?_
  simp -implicitDefEqProofs [go_sem]
  refine SWp.seq (Wp.s ?_)
  simp -implicitDefEqProofs [go_sem]
  refine CC.mono (own_cc _ _ j _ hl) ?_
  rintro _ _ _ ⟨v, rfl, rfl, rfl⟩
  obtain ⟨n, hnn⟩ := Int.eq_ofNat_of_zero_le (show 0 ≤ q - j.first + 1 by omega)
  have hnl : n ≤ j.sizes.length := by omega
  have w2 : IntKind.i64.wrap (q - j.first) = q - j.first := IntWalk.i64_in _ ⟨by omega, by omega⟩
  have w3 : IntKind.i64.wrap (q - j.first + 1) = (n : Int) := by rw [IntWalk.i64_in _ ⟨by omega, by omega⟩]; omega
  simp -implicitDefEqProofs [go_sem]
  refine SWp.seq (Wp.s ?_)
  simp -implicitDefEqProofs [go_sem, w2, w3]
  have hrel : relJ d j q = if q = j.first - 1 then (j, [], 0) else
      if (storeS d j.start (superJ (hdU j n) (q + 1))).2 ≠ 0 then (zjr, [], (storeS d j.start (superJ (hdU j n) (q + 1))).2)
      else (⟨j.start, j.count, hdU j n, j.tail, q + 1, j.sizes.drop n⟩, (storeS d j.start (superJ (hdU j n) (q + 1))).1, 0) := by
    rw [relJ, if_neg (by simp [hc]), if_neg (by simp [h]), if_neg (by omega)]
    have : (q + 1 - j.first).toNat = n := by omega
    rw [this]; rfl
  refine SWp.seq (SWp.seq (Wp.s ?_))
  by_cases c3 : n = 0
  · subst c3
    simp -implicitDefEqProofs [go_sem]
    refine Wp.s ?_
    simp -implicitDefEqProofs [go_sem]
    rw [hrel, if_pos (by omega)]
    exact fin_jt (.agg (.cons (.refl _) (.cons (.refl _) (.cons (.refl _) (.cons (.refl _) (.cons (.refl _) (.cons (.sh _ _ _) .nil))))))) (.nil 3 (by decide)) rfl hokH (by simp) (by simp)
  rw [if_neg (by omega)] at hrel
  simp -implicitDefEqProofs [go_sem, c3]
  refine Wp.s ?_
  simp -implicitDefEqProofs [go_sem]
  have hjh : 0 ≤ j.head ∧ j.head < j.count - 16 := by
    have := (preJ_iff j).1 ((chkJ_iff j).1 h).2.1
    omega
  refine SWp.join (α := Unit) (fun _ => ([(3, .ptr H.length 0), (6, .ptr (H.length + 2) 0), (10, .ptr (H.length + 3) 0), (12, .ptr (H.length + 4) 0), (13, ci n)], H ++ [some (dkC d), some (jrC j), some zjC, some (stJ j (sumI j.sizes)), some [iv j.start, iv j.count, iv (hdU j n), iv j.tail, iv j.first, .sl (.own V.length v) 1 (j.sizes.map ic)]], V ++ [v])) (fun _ => True) ?_ ?_
  · refine SWp.seq (Wp.s ?_)
    simp -implicitDefEqProofs [go_sem]
    refine ⟨by omega, ?_⟩
    refine SWp.block ?_
    refine SWp.loop (α := Nat) (fun i => ([(3, .ptr H.length 0), (6, .ptr (H.length + 2) 0), (10, .ptr (H.length + 3) 0), (12, .ptr (H.length + 4) 0), (13, ci n), (59, .sl .sh 1 ((j.sizes.take n).map ic)), (60, ci n), (61, ci i)], H ++ [some (dkC d), some (jrC j), some zjC, some (stJ j (sumI j.sizes)), some [iv j.start, iv j.count, iv (hdU j i), iv j.tail, iv j.first, .sl (.own V.length v) 1 (j.sizes.map ic)]], V ++ [v])) (fun i => i ≤ n) (fun i => n - i) 0 (Nat.zero_le _) (Sh.forget ?_ ?_ rfl) ?_
    · simp [go_sem, List.map_take, Nat.min_eq_left hnl]
    · rw [show hdU j 0 = j.head by rw [hdU, List.take_zero]; show (j.head + 0) % _ = _; rw [Int.add_zero, Int.emod_eq_of_lt hjh.1 hjh.2]]
    intro i hi
    dsimp only
    refine SWp.seq (Wp.s ?_)
    simp -implicitDefEqProofs [go_sem]
    refine SWp.seq (Wp.s ?_)
    simp -implicitDefEqProofs [go_sem]
    refine ⟨fun h => ?_, fun h => ?_⟩
    case refine_2 =>
      obtain rfl : i = n := by omega
      exact Sh.forget (by simp [go_sem]) rfl rfl
    have hij : i < j.sizes.length := by omega
    have hsz := (okSz_iff _).1 (List.all_eq_true.1 ((chkJ_iff j).1 ‹chkJ j = true›).2.2.1 _ (List.getElem_mem hij))
    have hL : 0 < j.count - 16 := by omega
    have hb1 := Int.emod_nonneg (j.head + sumI (j.sizes.take i)) (show j.count - 16 ≠ 0 by omega)
    have hb2 := Int.emod_lt_of_pos (j.head + sumI (j.sizes.take i)) hL
    have hnx : (hdU j i + j.sizes[i]) % (j.count - 16) = hdU j (i + 1) := by
      rw [hdU, hdU, sumI_take _ _ hij, Int.emod_add_emod, Int.add_assoc]
    have w4 : IntKind.i64.wrap (hdU j i + j.sizes[i]) = hdU j i + j.sizes[i] := IntWalk.i64_in _ ⟨by unfold hdU; omega, by unfold hdU; omega⟩
    have t4 := Int.tmod_eq_emod_of_nonneg (b := j.count - 16) (show 0 ≤ hdU j i + j.sizes[i] by unfold hdU; omega)
    have hz : ¬ j.count - 16 = 0 := by omega
    have w5 : IntKind.i64.wrap ((i : Int) + 1) = (i : Int) + 1 := IntWalk.i64_in _ ⟨by omega, by omega⟩
    refine SWp.seq (SWp.block (SWp.seq (Wp.s ?_)))
    simp -implicitDefEqProofs [go_sem, h, hij]
    refine ⟨by first | omega | (simp; omega), ?_⟩
    refine SWp.drawnT [] [9] (.s 0 .pl <| .s 1 .pl <| .s 2 .pl <| .s 3 .pl <| .s 4 .pl <| .s 5 .pl <| .s 6 .pl <| .s 7 .pl <| .s 8 .pl <| .s 9 .st <| .n) (by kernel_rfl) (by kernel_rfl) ?_
    simp -implicitDefEqProofs [go_sem, w4]
    refine CC.mono (length_cc _ _ _ _ hva) ?_
    rintro _ _ _ ⟨rfl, rfl, rfl⟩
    simp -implicitDefEqProofs [go_sem, w4, t4, hz, hnx]
    refine Wp.s ?_
    simp -implicitDefEqProofs [go_sem, w5]
    exact ⟨i + 1, by omega, by omega, Sh.forget (by simp [go_sem]) rfl rfl⟩
  rintro _ -
  dsimp only
  refine SWp.seq (SWp.drawnT [] [9, 11] (.s 0 .pl <| .s 1 .pl <| .s 2 .pl <| .s 3 .pl <| .s 4 .pl <| .s 5 .pl <| .s 6 .pl <| .s 7 .pl <| .s 8 .pl <| .s 9 .st <| .s 10 .pl <| .s 11 .st <| .n) (by kernel_rfl) (by kernel_rfl) ?_)
  have w6 : IntKind.i64.wrap (j.first + (n : Int)) = q + 1 := by rw [IntWalk.i64_in _ ⟨by omega, by omega⟩]; omega
  simp -implicitDefEqProofs [go_sem, w6]
  refine ⟨hnl, ?_⟩
  refine SWp.seq (SWp.drawnT [] [] (.s 0 .pl <| .s 1 .pl <| .s 2 .pl <| .s 3 .pl <| .s 4 .pl <| .s 5 .pl <| .s 6 .pl <| .s 7 .pl <| .s 8 .pl <| .s 9 .pl <| .s 10 .pl <| .s 11 .pl <| .s 12 .pl <| .s 13 .pl <| .s 14 .pl <| .s 15 .pl <| .n) (by kernel_rfl) (by kernel_rfl) ?_)
  simp -implicitDefEqProofs [go_sem]
  refine CC.mono (payload_cc _ _ _ _) ?_
  rintro _ _ _ ⟨rfl, rfl, rfl⟩
  simp -implicitDefEqProofs [go_sem]
  refine CC.mono (sStore_cc _ _ d j.start .sh (superJ (hdU j n) (q + 1)) hd) ?_
  rintro _ _ _ ⟨rfl, rfl, rfl⟩
  generalize storeS d j.start (superJ (hdU j n) (q + 1)) = x at hrel ⊢
  obtain ⟨A, e⟩ := x
  dsimp only at hrel ⊢
  simp -implicitDefEqProofs [go_sem, stV]
  refine SWp.seq (SWp.seq (Wp.s ?_))
  by_cases he : e = 0
  case neg =>
    have he' : ¬ (e : Int) = 0 := by omega
    simp -implicitDefEqProofs [go_sem, he, he']
    refine Wp.s ?_
    simp -implicitDefEqProofs [go_sem]
    exact bad e (by rw [hrel, if_pos he]) (by simp) (by simp)
  subst he
  rw [if_neg (by simp)] at hrel
  simp -implicitDefEqProofs [go_sem]
  refine Wp.s ?_
  simp -implicitDefEqProofs [go_sem]
  refine SWp.seq (Wp.s ?_)
  simp -implicitDefEqProofs [go_sem]
  refine Wp.s ?_
  simp -implicitDefEqProofs [go_sem]
  rw [hrel]
  refine fin_jt (.agg (.cons (.refl _) (.cons (.refl _) (.cons (.refl _) (.cons (.refl _) (.cons (.refl _) (.cons ?_ .nil))))))) (.refl _) rfl hokH (by simp) (by simp)
  rw [← List.map_drop]
  exact .sh _ _ _
end Go.Proofs.YtbnkggbpocaaiaaGreatDoor
namespace Go.Proofs.YtbnkggbpocaaiaaGreatDoor
open Go.Proofs
theorem apI_fits : ∀ (ws : List Wr) (l : Img) (i : Nat), (apI l ws i).2.2 = 0 → ∀ w ∈ ws, fitsS (imgSz l) w = 0
  | [], l, i, h, w, hw => by cases hw
  | x :: ws, l, i, h, w, hw => by
    rw [apI] at h
    split at h
    · rename_i q; exact absurd h q
    · rename_i q
      have q' : fitsS (imgSz l) x = 0 := by simpa using q
      have hz : imgSz (ap1 l x) = imgSz l := by
        have := ap1_sz (k := l) (w := x) q'
        have e : ∀ x : Img, imgSz x = (x.map List.length).map (fun n : Nat => (n : Int)) := fun x => by rw [imgSz, List.map_map]; rfl
        rw [e, e, this]
      rcases List.mem_cons.1 hw with rfl | hw
      · exact q'
      · have := apI_fits ws _ _ h w hw
        rwa [hz] at this
theorem apR_fits {l : Img} {ws : List Wr} (h : (apR l ws).2.2 = 0) {w : Wr} (hw : w ∈ ws) : fitsS (imgSz l) w = 0 := by
  unfold apR at h
  split at h
  · rename_i q; exact absurd h q
  · exact apI_fits ws l 0 h w hw
theorem fitsS_in {s : List Int} (hs : sizesE s = 0) {w : Wr} (h : fitsS s w = 0) : ∃ n : Nat, w.volume = n ∧ n < s.length ∧ 0 ≤ w.start ∧ w.start ≤ 4096 ∧ w.data.length ≤ 4096 := by
  obtain ⟨s1, s2, s3⟩ := sizesE_0 hs
  unfold fitsS at h
  split at h
  · cases h
  · rename_i h1
    split at h
    · cases h
    · rename_i h2
      split at h
      · cases h
      · rename_i h3
        obtain ⟨n, hn⟩ := Int.eq_ofNat_of_zero_le (show 0 ≤ w.volume by omega)
        have hns : n < s.length := by omega
        rw [hn, Int.toNat_natCast, List.getD_eq_getElem?_getD, List.getElem?_eq_getElem hns, Option.getD_some] at h3
        have := s3 _ (List.getElem_mem hns)
        exact ⟨n, hn, hns, by omega, by omega, by omega⟩
theorem storeS_len (d : Dk) (a : Int) (p : List UInt8) : (storeS d a p).1.length ≤ 2 := by
  unfold storeS
  repeat' split
  all_goals simp
theorem relJ_len (d : Dk) (j : Jrn) (q : Int) : (relJ d j q).2.1.length ≤ 2 := by
  have := storeS_len d j.start (superJ ((j.head + sumI (j.sizes.take (q + 1 - j.first).toNat)) % (j.count - 16)) (q + 1))
  unfold relJ
  dsimp only
  repeat' split
  all_goals first | exact Nat.zero_le _ | exact this
def flV (x : Sto × List Opn × Nat) : CV := .tup [.agg (stoC x.1), opsV x.2.1, er x.2.2]
theorem okV_flV (i j : Nat) (x : Sto × List Opn × Nat) : okV i j (flV x) := by
  rw [flV]; simp [go_sem, okL, okV, okL_stoC, okE_ops]
def opU (s : Sto) (i : Nat) : List (List CV) := ((s.pend.take i).map (opOf s)).map opC
theorem opU_len (s : Sto) (i : Nat) (h : i ≤ s.pend.length) : (opU s i).length = i := by rw [opU, List.length_map, List.length_map, List.length_take]; omega
@[go_sem] theorem opU_0 (s : Sto) : opU s 0 = [] := rfl
theorem opU_s {s : Sto} {i : Nat} (h : i < s.pend.length) : opU s (i + 1) = opU s i ++ [opC (opOf s s.pend[i])] := by
  rw [opU, List.take_succ_eq_append_getElem h, List.map_append, List.map_append]; rfl
@[go_sem] theorem okE_opU (i j : Nat) (s : Sto) (k : Nat) : okE i j (opU s k) = True := by rw [opU, okE_ops]
set_option maxRecDepth 8000 in
set_option maxHeartbeats 1600000 in
theorem vFlush_cc (H : Hp) (V : List Nat) (d : Dk) (s : Sto) (hd : DkS d) (hs : StS s) : CC Tryz.prog 26 [.agg (dkC d), .agg (stoC s)] H V (Pu (flV (flushV d s)) H V) := by
  refine CC.of_swp Tryz.func26 rfl (by kernel_rfl) (by rw [Tryz.ntmps26]; exact len_le _ _ rfl) fun hok hokH => ?_
  clear hok
  have bad : ∀ (e : Nat) (H' : Hp) (V' : List Nat), flushV d s = (zsto, [], e) → H'.take H.length = H → V'.take V.length = V → Fin H.length V.length (Pu (flV (flushV d s)) H V) (.tup [.agg zstC, .v (.slice none 0 0), er e]) H' V' := fun e H' V' h1 h2 h3 => by
    rw [h1]
    exact Fin.pu (.tup (.cons (.agg zsto_le) (.cons (.nil 3 (by decide)) (.cons (.refl _) .nil)))) (okV_flV _ _ _) hokH h2 h3
  refine SWp.seq (Wp.s ?_)
  simp -implicitDefEqProofs [go_sem, args0]
  refine SWp.seq (SWp.seq (Wp.s ?_))
  simp -implicitDefEqProofs [go_sem]
  refine CC.mono (sCheck_cc _ _ d hd) ?_
  rintro _ _ _ ⟨rfl, rfl, rfl⟩
  simp -implicitDefEqProofs [go_sem]
  refine SWp.seq (Wp.s ?_)
  by_cases hc : checkD d = 0
  case neg =>
    simp -implicitDefEqProofs [go_sem, hc]
    refine Wp.s ?_
    simp -implicitDefEqProofs [go_sem]
    exact bad _ _ _ (by rw [flushV, if_pos hc]) (by simp) (by simp)
  simp -implicitDefEqProofs [go_sem, hc]
  refine Wp.s ?_
  simp -implicitDefEqProofs [go_sem]
  refine SWp.seq (SWp.seq (Wp.s ?_))
  simp -implicitDefEqProofs [go_sem]
  refine CC.mono (vCheck_cc _ _ s hs) ?_
  rintro _ _ _ ⟨rfl, rfl, rfl⟩
  simp -implicitDefEqProofs [go_sem]
  refine SWp.seq (Wp.s ?_)
  by_cases h0 : chkV s = 0
  case neg =>
    simp -implicitDefEqProofs [go_sem, h0]
    refine Wp.s ?_
    simp -implicitDefEqProofs [go_sem]
    exact bad _ _ _ (by rw [flushV, if_neg (by simp [hc]), if_pos h0]) (by simp) (by simp)
  have hok := chkV_ok h0
  have hz := SzOk.of hok.sz
  have hsm := hz.sum'
  have hl8 := (sizesE_0 hok.sz).2.1
  have hJ := hok.A.j
  have hva := chkJ_val hJ
  have hv := (validJ_iff _ _).1 hva
  have hA := hok.A.a
  have hB := hok.A.b
  have hd1 : s.data = s.jr.count := Classical.byContradiction fun e => hA (.inr (.inl e))
  have hn := chkJ_next hJ
  simp -implicitDefEqProofs [go_sem, h0]
  refine Wp.s ?_
  simp -implicitDefEqProofs [go_sem]
  refine SWp.seq (SWp.seq (SWp.drawnT [] [] (.s 0 .pl <| .s 1 .pl <| .s 2 .pl <| .s 3 .pl <| .s 4 .pl <| .s 5 .pl <| .s 6 .pl <| .s 7 .pl <| .s 8 .pl <| .n) (by kernel_rfl) (by kernel_rfl) ?_))
  simp -implicitDefEqProofs [go_sem, stoC]
  refine CC.mono (place_cc _ _ s s.sizes.length hz (Nat.le_refl _) (by omega) (by omega)) ?_
  rintro _ _ _ ⟨rfl, rfl, rfl⟩
  rw [List.take_length]
  have e1 : flushV d s = if (d.stable.length : Int) < s.data + sumI s.sizes then (zsto, [], 2)
      else if s.pend.length = 0 then (s, [], 0)
      else if (relJ d s.jr (nextJ s.jr - 1)).2.2 ≠ 0 then (zsto, [], (relJ d s.jr (nextJ s.jr - 1)).2.2)
      else (⟨s.sizes, (relJ d s.jr (nextJ s.jr - 1)).1, s.data, nextJ s.jr - 1, [], s.img⟩, s.pend.map (opOf s) ++ opS :: (relJ d s.jr (nextJ s.jr - 1)).2.1, 0) := by
    rw [flushV, if_neg (by simp [hc]), if_neg (by simp [h0])]
  by_cases h1 : (d.stable.length : Int) < s.data + sumI s.sizes
  · simp -implicitDefEqProofs [go_sem, h1]
    refine Wp.s ?_
    simp -implicitDefEqProofs [go_sem]
    exact bad _ _ _ (by rw [e1, if_pos h1]) (by simp) (by simp)
  rw [if_neg h1] at e1
  simp -implicitDefEqProofs [go_sem, h1]
  refine Wp.s ?_
  simp -implicitDefEqProofs [go_sem]
  refine SWp.seq (Wp.s ?_)
  simp -implicitDefEqProofs [go_sem, stoC]
  refine CC.mono (vown_cc _ _ s hs) ?_
  rintro _ _ V1 ⟨k, v, rfl, rfl, hV1, hV2, hV3⟩
  have hkV : k < V1.length := (List.getElem?_eq_some_iff.1 hV2).1
  have hV1l : V.length ≤ V1.length := by omega
  have hpl := hs.pl
  simp -implicitDefEqProofs [go_sem, stoT]
  refine SWp.seq (SWp.seq (Wp.s ?_))
  by_cases h2 : s.pend.length = 0
  · simp -implicitDefEqProofs [go_sem, h2]
    refine Wp.s ?_
    simp -implicitDefEqProofs [go_sem]
    rw [e1, if_pos h2]
    refine Fin.pu (.tup (.cons (.agg ?_) (.cons (.nil 3 (by decide)) (.cons (.refl _) .nil)))) (okV_flV _ _ _) hokH (by simp) hV1
    exact .cons (.refl _) (.cons (.refl _) (.cons (.refl _) (.cons (.refl _) (.cons (.refl _) (.cons (.refl _) (.cons (.refl _) (.cons (.refl _) (.cons (.refl _) (.cons (.sh _ _ _) (.cons (.refl _) .nil))))))))))
  rw [if_neg h2] at e1
  have w1 : IntKind.i64.wrap (nextJ s.jr - 1) = nextJ s.jr - 1 := IntWalk.i64_in _ ⟨by unfold nextJ; omega, by unfold nextJ; omega⟩
  simp -implicitDefEqProofs [go_sem, h2]
  refine Wp.s ?_
  simp -implicitDefEqProofs [go_sem]
  refine SWp.seq (Wp.s ?_)
  simp -implicitDefEqProofs [go_sem, stoC]
  refine CC.mono (JNext_cc _ _ s.jr hs.jl) ?_
  rintro _ _ _ ⟨rfl, rfl, rfl⟩
  rw [nxJ_ok hJ]
  simp -implicitDefEqProofs [go_sem, w1]
  refine SWp.seq (Wp.s ?_)
  simp -implicitDefEqProofs [go_sem, stoC]
  refine CC.mono (Release_cc _ _ d s.jr (nextJ s.jr - 1) hd hs.jl) ?_
  rintro _ _ _ ⟨rfl, rfl, rfl⟩
  generalize hrl : relJ d s.jr (nextJ s.jr - 1) = x at e1 ⊢
  obtain ⟨j, A, e⟩ := x
  dsimp only at e1 ⊢
  have hAl : A.length ≤ 2 := by have := relJ_len d s.jr (nextJ s.jr - 1); rw [hrl] at this; exact this
  simp -implicitDefEqProofs [go_sem, jtV]
  refine SWp.seq (SWp.seq (Wp.s ?_))
  by_cases he : e = 0
  case neg =>
    have he' : ¬ (e : Int) = 0 := by omega
    simp -implicitDefEqProofs [go_sem, he, he']
    refine Wp.s ?_
    simp -implicitDefEqProofs [go_sem]
    exact bad _ _ _ (by rw [e1, if_pos he]) (by simp) (by simp [hV1])
  subst he
  rw [if_neg (by simp)] at e1
  simp -implicitDefEqProofs [go_sem]
  refine Wp.s ?_
  simp -implicitDefEqProofs [go_sem]
  refine SWp.seq (Wp.s ?_)
  simp -implicitDefEqProofs [go_sem]
  refine SWp.join (α := Unit) (fun _ => ([(3, .ptr (H.length + 1) 0), (4, .ptr (H.length + 2) 0), (9, .ptr (H.length + 3) 0), (10, ci (nextJ s.jr - 1)), (11, .ptr (H.length + 4) 0), (12, opsV A), (14, .sl (.own V1.length s.pend.length) 3 ((s.pend.map (opOf s)).map opC))], H ++ [some (dkC d), some (stoC s), some zstC, some (stoT s (.sl (.own k v) 3 (s.pend.map wrC))), some (jrC j)], V1 ++ [s.pend.length])) (fun _ => True) ?_ ?_
  · refine SWp.seq (Wp.s ?_)
    simp -implicitDefEqProofs [go_sem]
    refine SWp.block ?_
    refine SWp.loop (α := Nat) (fun i => ([(3, .ptr (H.length + 1) 0), (4, .ptr (H.length + 2) 0), (9, .ptr (H.length + 3) 0), (10, ci (nextJ s.jr - 1)), (11, .ptr (H.length + 4) 0), (12, opsV A), (14, .sl (.own V1.length i) 3 (opU s i)), (64, .sl (.own k v) 3 (s.pend.map wrC)), (65, ci s.pend.length), (66, ci i)], H ++ [some (dkC d), some (stoC s), some zstC, some (stoT s (.sl (.own k v) 3 (s.pend.map wrC))), some (jrC j)], V1 ++ [i])) (fun i => i ≤ s.pend.length) (fun i => s.pend.length - i) 0 (Nat.zero_le _) (Sh.tokT (by simp [go_sem]) rfl rfl) ?_
    intro i hi
    dsimp only
    refine SWp.seq (Wp.s ?_)
    simp -implicitDefEqProofs [go_sem]
    refine SWp.seq (Wp.s ?_)
    simp -implicitDefEqProofs [go_sem]
    refine ⟨fun h => ?_, fun h => ?_⟩
    case refine_2 =>
      obtain rfl : i = s.pend.length := by omega
      exact Sh.forget (by simp [go_sem, opU]) rfl rfl
    have hf := apR_fits hok.e1 (List.getElem_mem h)
    rw [imgSz_of hok.sz] at hf
    obtain ⟨n, f1, f2, f3, f4, f5⟩ := fitsS_in hok.sz hf
    have hsu := hz.sum n
    have w2 : IntKind.i64.wrap (s.data + sumI (s.sizes.take n) + s.pend[i].start) = s.data + sumI (s.sizes.take n) + s.pend[i].start := IntWalk.i64_in _ ⟨by omega, by omega⟩
    have w5 : IntKind.i64.wrap ((i : Int) + 1) = (i : Int) + 1 := IntWalk.i64_in _ ⟨by omega, by omega⟩
    refine SWp.seq (SWp.block (SWp.seq (Wp.s ?_)))
    simp -implicitDefEqProofs [go_sem, h]
    refine SWp.drawnT [] [] (.s 0 .pl <| .s 1 .pl <| .s 2 .pl <| .s 3 .pl <| .s 5 .pl <| .s 6 .pl <| .s 8 .pl <| .s 9 .pl <| .s 4 .pl <| .s 7 .pl <| .s 10 .pl <| .s 11 .pl <| .s 12 .pl <| .s 13 .pl <| .n) (by kernel_rfl) (by kernel_rfl) ?_
    simp -implicitDefEqProofs [go_sem, f1]
    refine CC.mono (place_cc _ _ s n hz (by omega) (by omega) (by omega)) ?_
    rintro _ _ _ ⟨rfl, rfl, rfl⟩
    simp -implicitDefEqProofs [go_sem, w2, opU_len s i hi]
    refine ⟨by omega, ?_⟩
    refine Wp.s ?_
    simp -implicitDefEqProofs [go_sem, w5]
    have hop : opC (opOf s s.pend[i]) = [ci 0, ci (s.data + sumI (s.sizes.take n) + s.pend[i].start), secsV s.pend[i].data] := by rw [opOf, f1]; rfl
    have hkk : k < V1.length + 1 := by omega
    refine ⟨i + 1, by omega, by omega, Sh.trim (L := [some (dkC d), some (stoC s), some zstC, some (stoT s (.sl (.own k v) 3 (s.pend.map wrC))), some (jrC j)]) ?_ ?_ hokH ?_ (by simp; omega) (by simp) (by simp)⟩
    · simp [go_sem, opU_s h, hop]
    · simp [go_sem, okE_wrs, okE_ops, okE_opU, hkk]
    · simp [go_sem, stoT, zstC, okL, okV, okTk, okE_ints, okE_wrs, okE_ims, okL_stoC, okL_jrC, hkk]
  rintro _ -
  dsimp only
  refine SWp.seq (Wp.s ?_)
  simp -implicitDefEqProofs [go_sem, stoT]
  refine SWp.seq (SWp.drawnT [] [7] (.s 0 .pl <| .s 1 .pl <| .s 4 .pl <| .s 2 .pl <| .s 3 .pl <| .s 5 .pl <| .s 6 .pl <| .s 7 .st <| .s 8 .pl <| .s 9 .pl <| .n) (by kernel_rfl) (by kernel_rfl) ?_)
  simp -implicitDefEqProofs [go_sem]
  refine CC.mono (vsync_cc _ _) ?_
  rintro _ _ _ ⟨rfl, rfl, rfl⟩
  simp -implicitDefEqProofs [go_sem]
  refine CC.le (ys := [.sl .sh 3 ((s.pend.map (opOf s)).map opC), .sl .sh 1 ([[opS], A].map opE)]) (.cons (by rw [List.map_map]; exact .sh _ _ _) (.cons (.sle _ _ (.cons (.cons (.sh _ _ _) .nil) (.cons (.cons (.refl _) .nil) .nil))) .nil)) ?_
  refine CC.mono (operations_cc _ _ .sh (s.pend.map (opOf s)) [[opS], A] (by simp) (by simp [catO]; omega)) ?_
  rintro _ _ _ ⟨rfl, rfl, rfl⟩
  simp -implicitDefEqProofs [go_sem]
  refine ⟨rfl, ?_⟩
  refine Wp.s ?_
  simp -implicitDefEqProofs [go_sem]
  rw [e1]
  have hcat : catO [List.map (opOf s) s.pend, [opS], A] = s.pend.map (opOf s) ++ opS :: A := by simp [catO]
  rw [hcat]
  refine Fin.pu (.tup (.cons (.agg ?_) (.cons (.refl _) (.cons (.refl _) .nil)))) (okV_flV _ _ _) hokH (by simp) (by simp [List.take_append_of_le_length hV1l, hV1])
  show LeL [.sl .sh 1 (s.sizes.map ic), .v (.int .i64 j.start), .v (.int .i64 j.count), .v (.int .i64 j.head), .v (.int .i64 j.tail), .v (.int .i64 j.first), .sl .sh 1 (j.sizes.map ic), .v (.int .i64 s.data), .v (.int .i64 (nextJ s.jr - 1)), .v (.slice none 0 0), .sl .sh 1 (s.img.map imE)] _
  exact .cons (.refl _) (.cons (.refl _) (.cons (.refl _) (.cons (.refl _) (.cons (.refl _) (.cons (.refl _) (.cons (.refl _) (.cons (.refl _) (.cons (.refl _) (.cons (.nil 3 (by decide)) (.cons (.refl _) .nil))))))))))
end Go.Proofs.YtbnkggbpocaaiaaGreatDoor
namespace Go.Proofs.YtbnkggbpocaaiaaGreatDoor
open Go.Proofs
theorem sizeV_ok {l : List Int} {n : Int} (h : (sizeV l n).2 = 0) : sizesE l = 0 ∧ 20 ≤ n ∧ n ≤ 4096 - sumI l ∧ sizeV l n = (n + sumI l, 0) := by
  unfold sizeV at h ⊢
  split at h
  · rename_i q; exact absurd h q
  · rename_i q
    split at h
    · cases h
    · rename_i q2
      rw [if_neg q, if_neg q2]
      exact ⟨by simpa using q, by omega, by omega, rfl⟩
set_option maxRecDepth 8000 in
set_option maxHeartbeats 1600000 in
theorem vFormat_cc (H : Hp) (V : List Nat) (l : List Int) (n : Int) (hl : l.length ≤ 9223372036854775807) : CC Tryz.prog 14 [.sl .sh 1 (l.map ic), ci n] H V (Pu (flV (fmtV l n)) H V) := by
  refine CC.of_swp Tryz.func14 rfl (by kernel_rfl) (by rw [Tryz.ntmps14]; exact len_le _ _ rfl) fun hok hokH => ?_
  clear hok
  have bad : ∀ (e : Nat) (H' : Hp) (V' : List Nat), fmtV l n = (zsto, [], e) → H'.take H.length = H → V'.take V.length = V → Fin H.length V.length (Pu (flV (fmtV l n)) H V) (.tup [.agg zstC, .v (.slice none 0 0), er e]) H' V' := fun e H' V' h1 h2 h3 => by
    rw [h1]
    exact Fin.pu (.tup (.cons (.agg zsto_le) (.cons (.nil 3 (by decide)) (.cons (.refl _) .nil)))) (okV_flV _ _ _) hokH h2 h3
  refine SWp.seq (Wp.s ?_)
  simp -implicitDefEqProofs [go_sem, args0]
  refine SWp.seq (SWp.seq (Wp.s ?_))
  simp -implicitDefEqProofs [go_sem]
  refine CC.mono (vSize_cc _ _ .sh l n hl) ?_
  rintro _ _ _ ⟨rfl, rfl, rfl⟩
  simp -implicitDefEqProofs [go_sem]
  refine SWp.seq (Wp.s ?_)
  by_cases h0 : (sizeV l n).2 = 0
  case neg =>
    have h0' : ¬ (((sizeV l n).2 : Nat) : Int) = 0 := by omega
    simp -implicitDefEqProofs [go_sem, h0, h0']
    refine Wp.s ?_
    simp -implicitDefEqProofs [go_sem]
    exact bad _ _ _ (by rw [fmtV, if_pos h0]) (by simp) (by simp)
  obtain ⟨hE, hn1, hn2, hsv⟩ := sizeV_ok h0
  have hz := SzOk.of hE
  have hsm := hz.sum'
  have hl8 := (sizesE_0 hE).2.1
  have hva : validJ 0 n = true := (validJ_iff _ _).2 ⟨by omega, by omega, by omega, by omega⟩
  simp -implicitDefEqProofs [go_sem, h0]
  refine Wp.s ?_
  simp -implicitDefEqProofs [go_sem]
  refine SWp.seq (Wp.s ?_)
  simp -implicitDefEqProofs [go_sem]
  refine CC.mono (New_cc _ _ .sh l hl) ?_
  rintro _ _ _ ⟨rfl, rfl, rfl⟩
  simp -implicitDefEqProofs [go_sem, hE]
  refine SWp.seq (SWp.seq (Wp.s ?_))
  simp -implicitDefEqProofs [go_sem]
  refine Wp.s ?_
  simp -implicitDefEqProofs [go_sem]
  refine SWp.seq (Wp.s ?_)
  simp -implicitDefEqProofs [go_sem]
  refine CC.mono (Format_cc _ _ 0 n) ?_
  rintro _ _ _ ⟨rfl, rfl, rfl⟩
  have hfj := formatJ_ok hva
  have hfm : fmtV l n = (⟨l, (formatJ 0 n).1, n, 0, [], imOf l⟩, opW n (List.replicate (sumI l).toNat sec0) :: opS :: (formatJ 0 n).2.1, 0) := by rw [fmtV, if_neg (by simp [h0])]
  have hfe : (formatJ 0 n).2.2 = 0 := by rw [hfj]
  have hfl : (formatJ 0 n).2.1.length = 6 := by rw [hfj]; rfl
  generalize formatJ 0 n = x at hfm hfe hfl ⊢
  obtain ⟨j, A, e⟩ := x
  dsimp only at hfm hfe hfl ⊢
  subst hfe
  simp -implicitDefEqProofs [go_sem, jtV]
  refine SWp.seq (SWp.seq (Wp.s ?_))
  simp -implicitDefEqProofs [go_sem]
  refine Wp.s ?_
  simp -implicitDefEqProofs [go_sem]
  refine SWp.seq (Wp.s ?_)
  simp -implicitDefEqProofs [go_sem]
  refine CC.mono (vsum_cc _ _ .sh l hz) ?_
  rintro _ _ _ ⟨rfl, rfl, rfl⟩
  simp -implicitDefEqProofs [go_sem, -List.reduceReplicate]
  refine ⟨by omega, by omega, ?_⟩
  have hz2 := zeros_secs (sumI l).toNat
  simp only [List.map_cons, List.map_nil] at hz2
  rw [hz2]
  refine SWp.seq (SWp.drawnT [H.length + 1, H.length + 3] [11, 12] (.s 0 .pl <| .s 2 .ld <| .s 3 .pl <| .s 4 .pl <| .s 6 .ld <| .s 9 .pl <| .s 10 .pl <| .s 1 .pl <| .s 5 .pl <| .s 7 .pl <| .s 8 .pl <| .s 11 .st <| .s 12 .st <| .s 13 .pl <| .s 14 .pl <| .n) (by kernel_rfl) (by kernel_rfl) ?_)
  simp -implicitDefEqProofs [go_sem]
  refine CC.mono (vcloneInt_cc _ _ .sh l (by omega)) ?_
  rintro _ _ _ ⟨rfl, rfl, rfl⟩
  simp -implicitDefEqProofs [go_sem]
  refine CC.mono (vsync_cc _ _) ?_
  rintro _ _ _ ⟨rfl, rfl, rfl⟩
  simp -implicitDefEqProofs [go_sem]
  obtain ⟨Z, hZ⟩ : ∃ Z, Z = List.replicate (sumI l).toNat sec0 := ⟨_, rfl⟩
  refine CC.let_go (ys := [.sl .sh 3 ([opW n (List.replicate (sumI l).toNat sec0), opS].map opC), .sl .ti 1 ([A].map opE)]) (H.length + 2) (secsF (List.replicate (sumI l).toNat sec0)) (hget _ _ 2) (.cons (.sl _ _ (.cons (.cons (.refl _) (.cons (.refl _) (.cons (Fy.zeros _ _) .nil))) (.cons (FyL.rfl' _ _ _) .nil))) (.cons (.refl _) .nil)) ?_
  refine CC.mono (operations_cc _ _ .ti [opW n (List.replicate (sumI l).toNat sec0), opS] [A] (by simp) (by simp [catO]; omega)) ?_
  rintro _ _ _ ⟨rfl, rfl, rfl⟩
  simp -implicitDefEqProofs [go_sem]
  have hkp : ∀ (a b c c' d a' : Option (List CV)), Kp [H.length + 1, H.length + 3] (H ++ [a, b, c, d]) (H ++ [a', b, c', d]) := fun a b c c' d a' => Kp.keep fun x hx => by
    rcases List.mem_cons.1 hx with rfl | hx
    · rw [hget, hget]; rfl
    · obtain rfl : x = H.length + 3 := by simpa using hx
      rw [hget, hget]; rfl
  refine ⟨hkp _ _ _ _ _ _, rfl, hkp _ _ _ _ _ _, ?_⟩
  refine Wp.s ?_
  simp -implicitDefEqProofs [go_sem]
  have hcat : catO [[opW n (List.replicate (sumI l).toNat sec0), opS], A] = opW n (List.replicate (sumI l).toNat sec0) :: opS :: A := by simp [catO]
  rw [hcat, hfm]
  refine Fin.pu (.tup (.cons (.agg ?_) (.cons (.refl _) (.cons (.refl _) .nil)))) (okV_flV _ _ _) hokH (by simp) (by simp)
  show LeL [.sl .sh 1 (l.map ic), .v (.int .i64 j.start), .v (.int .i64 j.count), .v (.int .i64 j.head), .v (.int .i64 j.tail), .v (.int .i64 j.first), .sl .sh 1 (j.sizes.map ic), .v (.int .i64 n), .v (.int .i64 0), .v (.slice none 0 0), .sl .sh 1 ((imOf l).map imE)] _
  exact .cons (.refl _) (.cons (.refl _) (.cons (.refl _) (.cons (.refl _) (.cons (.refl _) (.cons (.refl _) (.cons (.refl _) (.cons (.refl _) (.cons (.refl _) (.cons (.nil 3 (by decide)) (.cons (.refl _) .nil))))))))))
theorem ints_cc (H : Hp) (V : List Nat) (tk : Tk) (xs : List Int) (hx : xs.length ≤ 1000000000) : CC Tryz.prog 51 [.sl tk 1 (xs.map ic)] H V (Pu (.sl .sh 1 (xs.map ic)) H V) := by
  refine CC.of_swp Tryz.func51 rfl (by kernel_rfl) (by rw [Tryz.ntmps51]; exact len_le _ _ rfl) fun hok hokH => ?_
  clear hok
  refine SWp.seq (Wp.s ?_)
  simp -implicitDefEqProofs [go_sem, args0]
  refine SWp.seq (Wp.s ?_)
  simp -implicitDefEqProofs [go_sem]
  refine SWp.seq (Wp.s ?_)
  simp -implicitDefEqProofs [go_sem]
  refine ⟨by omega, ?_⟩
  refine Wp.s ?_
  simp -implicitDefEqProofs [go_sem]
  exact Fin.pu (.sh ..) (by simp [go_sem, okE_ints]) hokH (by simp) (by simp)
end Go.Proofs.YtbnkggbpocaaiaaGreatDoor
namespace Go.Proofs.YtbnkggbpocaaiaaGreatDoor
open Go.Proofs
end Go.Proofs.YtbnkggbpocaaiaaGreatDoor
namespace Go.Proofs.YtbnkggbpocaaiaaGreatDoor
open Go.Proofs
theorem SameVol_cc (H : Hp) (V : List Nat) (t1 t2 : Tk) (x y : List Sec) (hl : x.length ≤ 1000000000) : CC Tryz.prog 85 [.sl t1 8 (x.map secC), .sl t2 8 (y.map secC)] H V (Pu (.v (.bool (decide (x = y)))) H V) := by
  refine CC.of_swp Tryz.func85 rfl (by kernel_rfl) (by rw [Tryz.ntmps85]; exact len_le _ _ rfl) fun hok hokH => ?_
  clear hok
  refine SWp.seq (Wp.s ?_)
  simp -implicitDefEqProofs [go_sem, args0]
  refine SWp.seq (SWp.seq (Wp.s ?_))
  by_cases hlen : x.length = y.length
  case neg =>
    have hlen' : ¬ (x.length : Int) = (y.length : Int) := by omega
    simp -implicitDefEqProofs [go_sem, hlen']
    refine Wp.s ?_
    simp -implicitDefEqProofs [go_sem, hlen, hlen']
    exact Fin.bool (by simp [show x ≠ y from fun e => hlen (by rw [e])]) hokH (by simp) (by simp)
  simp -implicitDefEqProofs [go_sem, hlen]
  refine Wp.s ?_
  simp -implicitDefEqProofs [go_sem, hlen]
  refine SWp.join (α := Unit) (fun _ => ([], H, V)) (fun _ => x = y) ?_ ?_
  · refine SWp.seq (Wp.s ?_)
    simp -implicitDefEqProofs [go_sem]
    refine SWp.block ?_
    refine SWp.loop (α := Nat) (fun i => ([(0, .sl t1 8 (x.map secC)), (1, .sl t2 8 (y.map secC)), (5, ci i)], H, V)) (fun i => i ≤ x.length ∧ x.take i = y.take i) (fun i => x.length - i) 0 ⟨Nat.zero_le _, rfl⟩ (Sh.forget (by simp [go_sem]) rfl rfl) ?_
    rintro i ⟨hi, hp⟩
    dsimp only
    refine SWp.seq (SWp.seq (Wp.s ?_))
    simp -implicitDefEqProofs [go_sem]
    refine Wp.s ?_
    simp -implicitDefEqProofs [go_sem]
    refine ⟨fun h => ?_, fun h => ⟨eq_of_take hlen h hp, Sh.forget (by simp [go_sem]) rfl rfl⟩⟩
    have h2 : i < y.length := by omega
    refine SWp.seq (SWp.block (SWp.seq (SWp.drawnT [] [] (.s 0 .pl <| .s 1 .pl <| .s 2 .pl <| .s 3 .pl <| .s 4 .pl <| .s 5 .pl <| .s 6 .pl <| .s 7 .pl <| .s 8 .pl <| .n) (by kernel_rfl) (by kernel_rfl) ?_)))
    simp -implicitDefEqProofs [go_sem, h, h2]
    refine ⟨_, flatSec, fits_secW _, fits_secW _, fun he => ?_, fun he => ?_⟩
    · refine Wp.s ?_
      simp -implicitDefEqProofs [go_sem]
      exact Fin.bool (by simp [ne_at h h2 (fun e => he (by rw [e]))]) hokH (by simp) (by simp)
    · refine Wp.s ?_
      simp -implicitDefEqProofs [go_sem]
      refine Wp.s ?_
      simp -implicitDefEqProofs [go_sem]
      refine ⟨i + 1, ⟨by omega, take_eq_succ h h2 hp (secC_inj he)⟩, by omega, Sh.forget ?_ rfl rfl⟩
      simp [go_sem, wrap_succ (show i ≤ 1000000000 by omega)]
  · rintro _ he
    dsimp only
    refine Wp.s ?_
    simp -implicitDefEqProofs [go_sem]
    exact Fin.bool (by simp [he]) hokH (by simp) (by simp)
theorem SameSec13_cc (H : Hp) (V : List Nat) (t1 t2 : Tk) (x y : List Sec) (hl : x.length ≤ 1000000000) : CC Tryz.prog 34 [.sl t1 8 (x.map secC), .sl t2 8 (y.map secC)] H V (Pu (.v (.bool (decide (x = y)))) H V) := by
  refine CC.of_swp Tryz.func34 rfl (by kernel_rfl) (by rw [Tryz.ntmps34]; exact len_le _ _ rfl) fun hok hokH => ?_
  clear hok
  refine SWp.seq (Wp.s ?_)
  simp -implicitDefEqProofs [go_sem, args0]
  refine SWp.seq (SWp.seq (Wp.s ?_))
  by_cases hlen : x.length = y.length
  case neg =>
    have hlen' : ¬ (x.length : Int) = (y.length : Int) := by omega
    simp -implicitDefEqProofs [go_sem, hlen']
    refine Wp.s ?_
    simp -implicitDefEqProofs [go_sem, hlen, hlen']
    exact Fin.bool (by simp [show x ≠ y from fun e => hlen (by rw [e])]) hokH (by simp) (by simp)
  simp -implicitDefEqProofs [go_sem, hlen]
  refine Wp.s ?_
  simp -implicitDefEqProofs [go_sem, hlen]
  refine SWp.join (α := Unit) (fun _ => ([], H, V)) (fun _ => x = y) ?_ ?_
  · refine SWp.seq (Wp.s ?_)
    simp -implicitDefEqProofs [go_sem]
    refine SWp.block ?_
    refine SWp.loop (α := Nat) (fun i => ([(0, .sl t1 8 (x.map secC)), (1, .sl t2 8 (y.map secC)), (5, ci i)], H, V)) (fun i => i ≤ x.length ∧ x.take i = y.take i) (fun i => x.length - i) 0 ⟨Nat.zero_le _, rfl⟩ (Sh.forget (by simp [go_sem]) rfl rfl) ?_
    rintro i ⟨hi, hp⟩
    dsimp only
    refine SWp.seq (SWp.seq (Wp.s ?_))
    simp -implicitDefEqProofs [go_sem]
    refine Wp.s ?_
    simp -implicitDefEqProofs [go_sem]
    refine ⟨fun h => ?_, fun h => ⟨eq_of_take hlen h hp, Sh.forget (by simp [go_sem]) rfl rfl⟩⟩
    have h2 : i < y.length := by omega
    refine SWp.seq (SWp.block (SWp.seq (SWp.drawnT [] [] (.s 0 .pl <| .s 1 .pl <| .s 2 .pl <| .s 3 .pl <| .s 4 .pl <| .s 5 .pl <| .s 6 .pl <| .s 7 .pl <| .s 8 .pl <| .n) (by kernel_rfl) (by kernel_rfl) ?_)))
    simp -implicitDefEqProofs [go_sem, h, h2]
    refine ⟨_, flatSec, fits_secW _, fits_secW _, fun he => ?_, fun he => ?_⟩
    · refine Wp.s ?_
      simp -implicitDefEqProofs [go_sem]
      exact Fin.bool (by simp [ne_at h h2 (fun e => he (by rw [e]))]) hokH (by simp) (by simp)
    · refine Wp.s ?_
      simp -implicitDefEqProofs [go_sem]
      refine Wp.s ?_
      simp -implicitDefEqProofs [go_sem]
      refine ⟨i + 1, ⟨by omega, take_eq_succ h h2 hp (secC_inj he)⟩, by omega, Sh.forget ?_ rfl rfl⟩
      simp [go_sem, wrap_succ (show i ≤ 1000000000 by omega)]
  · rintro _ he
    dsimp only
    refine Wp.s ?_
    simp -implicitDefEqProofs [go_sem]
    exact Fin.bool (by simp [he]) hokH (by simp) (by simp)
theorem SameInts9_cc (H : Hp) (V : List Nat) (t1 t2 : Tk) (x y : List Int) (hl : x.length ≤ 1000000000) : CC Tryz.prog 52 [.sl t1 1 (x.map ic), .sl t2 1 (y.map ic)] H V (Pu (.v (.bool (decide (x = y)))) H V) := by
  refine CC.of_swp Tryz.func52 rfl (by kernel_rfl) (by rw [Tryz.ntmps52]; exact len_le _ _ rfl) fun hok hokH => ?_
  clear hok
  refine SWp.seq (Wp.s ?_)
  simp -implicitDefEqProofs [go_sem, args0]
  refine SWp.seq (SWp.seq (Wp.s ?_))
  by_cases hlen : x.length = y.length
  case neg =>
    have hlen' : ¬ (x.length : Int) = (y.length : Int) := by omega
    simp -implicitDefEqProofs [go_sem, hlen']
    refine Wp.s ?_
    simp -implicitDefEqProofs [go_sem, hlen, hlen']
    exact Fin.bool (by simp [show x ≠ y from fun e => hlen (by rw [e])]) hokH (by simp) (by simp)
  simp -implicitDefEqProofs [go_sem, hlen]
  refine Wp.s ?_
  simp -implicitDefEqProofs [go_sem, hlen]
  refine SWp.join (α := Unit) (fun _ => ([], H, V)) (fun _ => x = y) ?_ ?_
  · refine SWp.seq (Wp.s ?_)
    simp -implicitDefEqProofs [go_sem]
    refine SWp.block ?_
    refine SWp.loop (α := Nat) (fun i => ([(0, .sl t1 1 (x.map ic)), (1, .sl t2 1 (y.map ic)), (5, ci i)], H, V)) (fun i => i ≤ x.length ∧ x.take i = y.take i) (fun i => x.length - i) 0 ⟨Nat.zero_le _, rfl⟩ (Sh.forget (by simp [go_sem]) rfl rfl) ?_
    rintro i ⟨hi, hp⟩
    dsimp only
    refine SWp.seq (SWp.seq (Wp.s ?_))
    simp -implicitDefEqProofs [go_sem]
    refine Wp.s ?_
    simp -implicitDefEqProofs [go_sem]
    refine ⟨fun h => ?_, fun h => ⟨eq_of_take hlen h hp, Sh.forget (by simp [go_sem]) rfl rfl⟩⟩
    have h2 : i < y.length := by omega
    refine SWp.seq (SWp.block (SWp.seq (SWp.drawnT [] [] (.s 0 .pl <| .s 1 .pl <| .s 2 .pl <| .s 3 .pl <| .s 4 .pl <| .s 5 .pl <| .s 6 .pl <| .s 7 .pl <| .s 8 .pl <| .n) (by kernel_rfl) (by kernel_rfl) ?_)))
    by_cases he : x[i] = y[i]
    · simp -implicitDefEqProofs [go_sem, h, h2, he]
      refine Wp.s ?_
      simp -implicitDefEqProofs [go_sem]
      refine Wp.s ?_
      simp -implicitDefEqProofs [go_sem]
      refine ⟨i + 1, ⟨by omega, take_eq_succ h h2 hp he⟩, by omega, Sh.forget ?_ rfl rfl⟩
      simp [go_sem, wrap_succ (show i ≤ 1000000000 by omega)]
    · simp -implicitDefEqProofs [go_sem, h, h2, he]
      refine Wp.s ?_
      simp -implicitDefEqProofs [go_sem]
      exact Fin.bool (by simp [ne_at h h2 he]) hokH (by simp) (by simp)
  · rintro _ he
    dsimp only
    refine Wp.s ?_
    simp -implicitDefEqProofs [go_sem]
    exact Fin.bool (by simp [he]) hokH (by simp) (by simp)
theorem SameImg_cc (H : Hp) (V : List Nat) (t1 t2 : Tk) (x y : Img) (hl : x.length ≤ 1000000000) (hs : ∀ v ∈ x, v.length ≤ 1000000000) : CC Tryz.prog 27 [.sl t1 1 (x.map imE), .sl t2 1 (y.map imE)] H V (Pu (.v (.bool (decide (x = y)))) H V) := by
  refine CC.of_swp Tryz.func27 rfl (by kernel_rfl) (by rw [Tryz.ntmps27]; exact len_le _ _ rfl) fun hok hokH => ?_
  clear hok
  refine SWp.seq (Wp.s ?_)
  simp -implicitDefEqProofs [go_sem, args0]
  refine SWp.seq (SWp.seq (Wp.s ?_))
  by_cases hlen : x.length = y.length
  case neg =>
    have hlen' : ¬ (x.length : Int) = (y.length : Int) := by omega
    simp -implicitDefEqProofs [go_sem, hlen']
    refine Wp.s ?_
    simp -implicitDefEqProofs [go_sem, hlen, hlen']
    exact Fin.bool (by simp [show x ≠ y from fun e => hlen (by rw [e])]) hokH (by simp) (by simp)
  simp -implicitDefEqProofs [go_sem, hlen]
  refine Wp.s ?_
  simp -implicitDefEqProofs [go_sem, hlen]
  refine SWp.join (α := Unit) (fun _ => ([], H, V)) (fun _ => x = y) ?_ ?_
  · refine SWp.seq (Wp.s ?_)
    simp -implicitDefEqProofs [go_sem]
    refine SWp.block ?_
    refine SWp.loop (α := Nat) (fun i => ([(0, .sl t1 1 (x.map imE)), (1, .sl t2 1 (y.map imE)), (5, ci i)], H, V)) (fun i => i ≤ x.length ∧ x.take i = y.take i) (fun i => x.length - i) 0 ⟨Nat.zero_le _, rfl⟩ (Sh.forget (by simp [go_sem]) rfl rfl) ?_
    rintro i ⟨hi, hp⟩
    dsimp only
    refine SWp.seq (SWp.seq (Wp.s ?_))
    simp -implicitDefEqProofs [go_sem]
    refine Wp.s ?_
    simp -implicitDefEqProofs [go_sem]
    refine ⟨fun h => ?_, fun h => ⟨eq_of_take hlen h hp, Sh.forget (by simp [go_sem]) rfl rfl⟩⟩
    have h2 : i < y.length := by omega
    refine SWp.seq (SWp.block (SWp.seq (SWp.drawnT [] [] (.s 0 .pl <| .s 1 .pl <| .s 2 .pl <| .s 3 .pl <| .s 4 .pl <| .s 5 .pl <| .s 6 .pl <| .s 7 .pl <| .s 8 .pl <| .s 9 .pl <| .n) (by kernel_rfl) (by kernel_rfl) ?_)))
    simp -implicitDefEqProofs [go_sem, h, h2]
    refine CC.mono (SameVol_cc _ _ .sh .sh x[i] y[i] (hs _ (List.getElem_mem h))) ?_
    rintro _ _ _ ⟨rfl, rfl, rfl⟩
    by_cases he : x[i] = y[i]
    · simp -implicitDefEqProofs [go_sem, he]
      refine Wp.s ?_
      simp -implicitDefEqProofs [go_sem]
      refine Wp.s ?_
      simp -implicitDefEqProofs [go_sem]
      refine ⟨i + 1, ⟨by omega, take_eq_succ h h2 hp he⟩, by omega, Sh.forget ?_ rfl rfl⟩
      simp [go_sem, wrap_succ (show i ≤ 1000000000 by omega)]
    · simp -implicitDefEqProofs [go_sem, he]
      refine Wp.s ?_
      simp -implicitDefEqProofs [go_sem]
      exact Fin.bool (by simp [ne_at h h2 he]) hokH (by simp) (by simp)
  · rintro _ he
    dsimp only
    refine Wp.s ?_
    simp -implicitDefEqProofs [go_sem]
    exact Fin.bool (by simp [he]) hokH (by simp) (by simp)
set_option maxRecDepth 8000 in
theorem vSame_cc (H : Hp) (V : List Nat) (s : Sto) (hs : StS s) : CC Tryz.prog 16 [.agg (stoC s), .agg (stoC s)] H V (Pu (cb true) H V) := by
  refine CC.of_swp Tryz.func16 rfl (by kernel_rfl) (by rw [Tryz.ntmps16]; exact len_le _ _ rfl) fun hok hokH => ?_
  clear hok
  refine SWp.seq (Wp.s ?_)
  simp -implicitDefEqProofs [go_sem, args0]
  refine SWp.seq (Wp.s ?_)
  simp -implicitDefEqProofs [go_sem, stoC]
  refine CC.mono (SameInts9_cc _ _ .sh .sh s.sizes s.sizes hs.sl) ?_
  rintro _ _ _ ⟨rfl, rfl, rfl⟩
  simp -implicitDefEqProofs [go_sem]
  refine CC.mono (Same_cc _ _ s.jr hs.jl) ?_
  rintro _ _ _ ⟨rfl, rfl, rfl⟩
  simp -implicitDefEqProofs [go_sem]
  refine CC.mono (SameWrs_cc _ _ .sh .sh s.pend s.pend (by have := hs.pl; omega) hs.pd) ?_
  rintro _ _ _ ⟨rfl, rfl, rfl⟩
  simp -implicitDefEqProofs [go_sem]
  refine CC.mono (SameImg_cc _ _ .sh .sh s.img s.img (by have := hs.il; omega) (fun v hv => by have := hs.iv v hv; omega)) ?_
  rintro _ _ _ ⟨rfl, rfl, rfl⟩
  simp -implicitDefEqProofs [go_sem]
  refine Wp.s ?_
  simp -implicitDefEqProofs [go_sem]
  exact Fin.bool rfl hokH (by simp) (by simp)
end Go.Proofs.YtbnkggbpocaaiaaGreatDoor
namespace Go.Proofs.YtbnkggbpocaaiaaGreatDoor
open Go.Proofs
def xS : Sec := ⟨[5, 6, 0, 0, 0, 0, 0, 0], rfl⟩
def aWb : Wr := ⟨1, 3, [xS]⟩
def aWg : Wr := ⟨1, 1, [xS]⟩
def vS0 : Sto := (fmtV [4, 2] 30).1
def vO0 : List Opn := (fmtV [4, 2] 30).2.1
def vD0 : Dk := (newR 36).1
def vD1 : Dk := (runR vD0 vO0).1
def vS1 : Sto := (writeV vS0 aWg).1
def vO1 : List Opn := (writeV vS0 aWg).2.2.1
def vD2 : Dk := (runR vD1 vO1).1
theorem vf0 : sizeV [4, 2] 30 = (36, 0) := by kernel_rfl
theorem vf1 : (fmtV [4, 2] 30).2.2 = 0 := by kernel_rfl
theorem vf2 : (newR 36).2 = 0 := by kernel_rfl
theorem vf3 : (runR vD0 vO0).2.2 = 0 := by kernel_rfl
theorem vf4 : (writeV vS0 aWb).2.2.2 = 2 := by kernel_rfl
theorem vf5 : (writeV vS0 aWg).2.2.2 = 0 := by kernel_rfl
theorem vf5n : (writeV vS0 aWg).2.1 = 1 := by kernel_rfl
theorem vf5s : vS1.jr.sizes = [5] := by kernel_rfl
theorem vf6 : (runR vD1 vO1).2.2 = 0 := by kernel_rfl
theorem vf7 : (flushV vD2 vS1).2.2 = 0 := by kernel_rfl
theorem vf7o : (flushV vD2 vS1).2.1 = opW 35 [xS] :: (flushV vD2 vS1).2.1.tail := by kernel_rfl
end Go.Proofs.YtbnkggbpocaaiaaGreatDoor
namespace Go.Proofs.YtbnkggbpocaaiaaGreatDoor
open Go.Proofs
def stSb (s : Sto) : Bool := Nat.ble s.sizes.length 1000 && Nat.ble s.jr.sizes.length 1000 && Nat.ble s.pend.length 1000 && s.pend.all (fun w => Nat.ble w.data.length 1000) && Nat.ble s.img.length 1000 && s.img.all (fun v => Nat.ble v.length 1000)
theorem stSb_S {s : Sto} (h : stSb s = true) : StS s := by
  simp only [stSb, Bool.and_eq_true, Nat.ble_eq, List.all_eq_true] at h
  obtain ⟨⟨⟨⟨⟨h1, h2⟩, h3⟩, h4⟩, h5⟩, h6⟩ := h
  exact ⟨by omega, by omega, by omega, fun w hw => by have := h4 w hw; omega, by omega, fun v hv => by have := h6 v hv; omega⟩
theorem vS0_S : StS vS0 := stSb_S (by kernel_rfl)
theorem vS1_S : StS vS1 := stSb_S (by kernel_rfl)
theorem vD0_l : vD0.stable.length ≤ 1000 := Nat.le_of_ble_eq_true (by kernel_rfl)
theorem vD0_c : vD0.cache.length + tot vO0 ≤ 1000 := Nat.le_of_ble_eq_true (by kernel_rfl)
theorem vO0_l : vO0.length ≤ 1000 := Nat.le_of_ble_eq_true (by kernel_rfl)
theorem vD1_l : vD1.stable.length ≤ 1000 := Nat.le_of_ble_eq_true (by kernel_rfl)
theorem vD1_c : vD1.cache.length + tot vO1 ≤ 1000 := Nat.le_of_ble_eq_true (by kernel_rfl)
theorem vO1_l : vO1.length ≤ 1000 := Nat.le_of_ble_eq_true (by kernel_rfl)
theorem vD2_l : vD2.stable.length ≤ 1000 := Nat.le_of_ble_eq_true (by kernel_rfl)
theorem vD2_c : vD2.cache.length ≤ 1000 := Nat.le_of_ble_eq_true (by kernel_rfl)
theorem stoC_6 (s : Sto) (h : 6 < (stoC s).length) : (stoC s)[6] = .sl .sh 1 (s.jr.sizes.map ic) := rfl
theorem xS_cells : [CV.v (.int .u8 5), .v (.int .u8 6), .v (.int .u8 0), .v (.int .u8 0), .v (.int .u8 0), .v (.int .u8 0), .v (.int .u8 0), .v (.int .u8 0)] = secC xS := rfl
theorem zsto_S : StS zsto := stSb_S (by kernel_rfl)
set_option maxRecDepth 8000 in
set_option maxHeartbeats 1600000 in
theorem vawake_cc (H : Hp) (V : List Nat)  : CC Tryz.prog 11 [] H V (Pu (cb true) H V) := by
  refine CC.of_swp Tryz.func11 rfl (by kernel_rfl) (by rw [Tryz.ntmps11]; exact len_le _ _ rfl) fun hok hokH => ?_
  clear hok
  refine SWp.seq (Wp.s ?_)
  simp -implicitDefEqProofs [go_sem, args0]
  refine SWp.seq (Wp.s ?_)
  simp -implicitDefEqProofs [go_sem]
  refine CC.le (ys := [.sl .sh 1 (([4, 2] : List Int).map ic), ci 30]) (.cons (.sh _ _ _) (.cons (.refl _) .nil)) ?_
  refine CC.mono (vSize_cc _ _ .sh [4, 2] 30 (by decide)) ?_
  rintro _ _ _ ⟨rfl, rfl, rfl⟩
  rw [vf0]
  simp -implicitDefEqProofs [go_sem]
  refine SWp.seq (Wp.s ?_)
  simp -implicitDefEqProofs [go_sem]
  refine CC.le (ys := [.sl .sh 1 (([4, 2] : List Int).map ic), ci 30]) (.cons (.sh _ _ _) (.cons (.refl _) .nil)) ?_
  refine CC.mono (vFormat_cc _ _ [4, 2] 30 (by decide)) ?_
  rintro _ _ _ ⟨rfl, rfl, rfl⟩
  rw [show fmtV [4, 2] 30 = (vS0, vO0, 0) from Prod.ext rfl (Prod.ext rfl vf1)]
  simp -implicitDefEqProofs [go_sem, flV]
  refine SWp.seq (Wp.s ?_)
  simp -implicitDefEqProofs [go_sem]
  refine CC.mono (sNew_cc _ _ 36) ?_
  rintro _ _ _ ⟨rfl, rfl, rfl⟩
  rw [show newR 36 = (vD0, 0) from Prod.ext rfl vf2]
  simp -implicitDefEqProofs [go_sem]
  refine SWp.seq (Wp.s ?_)
  simp -implicitDefEqProofs [go_sem]
  refine CC.mono (sRun_cc _ _ vD0 vO0 (by have := vD0_l; omega) (by have := vD0_c; omega) (by have := vO0_l; omega)) ?_
  rintro _ _ _ ⟨rfl, rfl, rfl⟩
  rw [show runR vD0 vO0 = (vD1, (runR vD0 vO0).2.1, 0) from Prod.ext rfl (Prod.ext rfl vf3)]
  simp -implicitDefEqProofs [go_sem, runV]
  refine SWp.seq (SWp.seq (Wp.s ?_))
  have w0 : IntKind.i64.wrap 0 = 0 := rfl
  simp -implicitDefEqProofs [go_sem, w0]
  refine Wp.s ?_
  simp -implicitDefEqProofs [go_sem]
  refine SWp.seq (Wp.s ?_)
  simp -implicitDefEqProofs [go_sem, xS_cells]
  refine SWp.seq (Wp.s ?_)
  simp -implicitDefEqProofs [go_sem]
  refine CC.le (ys := [.agg (stoC vS0), .agg (wrC aWb)]) (.cons (.refl _) (.cons (.agg (.cons (.refl _) (.cons (.refl _) (.cons (.sh _ _ _) .nil)))) .nil)) ?_
  refine CC.mono (vWrite_cc _ _ vS0 aWb vS0_S (by decide)) ?_
  rintro _ _ _ ⟨rfl, rfl, rfl⟩
  simp -implicitDefEqProofs [go_sem, wtV, vf4]
  refine SWp.seq (Wp.s ?_)
  simp -implicitDefEqProofs [go_sem]
  refine CC.le (ys := [.agg (stoC vS0), .agg (wrC aWg)]) (.cons (.refl _) (.cons (.agg (.cons (.refl _) (.cons (.refl _) (.cons (.sh _ _ _) .nil)))) .nil)) ?_
  refine CC.mono (vWrite_cc _ _ vS0 aWg vS0_S (by decide)) ?_
  rintro _ _ _ ⟨rfl, rfl, rfl⟩
  rw [show writeV vS0 aWg = (vS1, 1, vO1, 0) from Prod.ext rfl (Prod.ext vf5n (Prod.ext rfl vf5))]
  simp -implicitDefEqProofs [go_sem, wtV]
  refine SWp.seq (Wp.s ?_)
  simp -implicitDefEqProofs [go_sem]
  refine CC.mono (sRun_cc _ _ vD1 vO1 (by have := vD1_l; omega) (by have := vD1_c; omega) (by have := vO1_l; omega)) ?_
  rintro _ _ _ ⟨rfl, rfl, rfl⟩
  rw [show runR vD1 vO1 = (vD2, (runR vD1 vO1).2.1, 0) from Prod.ext rfl (Prod.ext rfl vf6)]
  simp -implicitDefEqProofs [go_sem, runV]
  refine SWp.seq (SWp.seq (Wp.s ?_))
  simp -implicitDefEqProofs [go_sem, stoC_6, vf5s]
  refine Wp.s ?_
  simp -implicitDefEqProofs [go_sem]
  refine SWp.seq (Wp.s ?_)
  simp -implicitDefEqProofs [go_sem]
  refine CC.mono (vFlush_cc _ _ vD2 vS1 ⟨by have := vD2_l; omega, by have := vD2_c; omega⟩ vS1_S) ?_
  rintro _ _ _ ⟨rfl, rfl, rfl⟩
  rw [show flushV vD2 vS1 = ((flushV vD2 vS1).1, opW 35 [xS] :: (flushV vD2 vS1).2.1.tail, 0) from Prod.ext rfl (Prod.ext vf7o vf7)]
  simp -implicitDefEqProofs [go_sem, flV]
  generalize (flushV vD2 vS1).2.1.tail = B
  have hlt : (0 : Int) < (B.length : Int) + 1 := by omega
  refine SWp.seq (SWp.drawnT [] [] (.s 0 .pl <| .s 1 .pl <| .s 2 .pl <| .s 3 .pl <| .s 4 .pl <| .s 5 .pl <| .s 6 .pl <| .s 7 .pl <| .s 8 .pl <| .s 9 .pl <| .s 10 .pl <| .s 11 .pl <| .s 12 .pl <| .s 13 .pl <| .s 14 .pl <| .s 15 .pl <| .s 16 .pl <| .s 17 .pl <| .s 18 .pl <| .s 19 .pl <| .s 20 .pl <| .s 21 .pl <| .s 22 .pl <| .s 23 .pl <| .n) (by kernel_rfl) (by kernel_rfl) ?_)
  simp -implicitDefEqProofs [go_sem, opW, hlt]
  refine CC.le (ys := [.sl .sh 8 ([xS].map secC), .sl .ti 8 ([xS].map secC)]) (.cons (.refl _) (.cons (.refl _) .nil)) ?_
  refine CC.mono (SameSec13_cc _ _ .sh .ti [xS] [xS] (by decide)) ?_
  rintro _ _ _ ⟨rfl, rfl, rfl⟩
  simp -implicitDefEqProofs [go_sem]
  refine Wp.s ?_
  simp -implicitDefEqProofs [go_sem]
  exact Fin.bool rfl hokH (by simp) (by simp)
end Go.Proofs.YtbnkggbpocaaiaaGreatDoor
namespace Go.Proofs.YtbnkggbpocaaiaaGreatDoor
open Go.Proofs
def szU (l : Img) (i : Nat) : List (List CV) := ((imgSz l).take i).map ic
theorem szU_len (l : Img) (i : Nat) (h : i ≤ l.length) : (szU l i).length = i := by rw [szU, List.length_map, List.length_take, imgSz_len]; omega
@[go_sem] theorem szU_0 (l : Img) : szU l 0 = [] := rfl
theorem szU_s {l : Img} {i : Nat} (h : i < l.length) : szU l (i + 1) = szU l i ++ [ic (l[i].length : Int)] := by
  rw [szU, List.take_succ_eq_append_getElem (by rw [imgSz_len]; exact h), List.map_append]; simp [szU, imgSz]
theorem rSizesOf_cc (H : Hp) (V : List Nat) (tk : Tk) (l : Img) (hl : l.length ≤ 1000000000) : CC Tryz.prog 133 [.sl tk 1 (l.map imE)] H V (Pu (.sl .sh 1 ((imgSz l).map ic)) H V) := by
  refine CC.of_swp Tryz.func133 rfl (by kernel_rfl) (by rw [Tryz.ntmps133]; exact len_le _ _ rfl) fun hok hokH => ?_
  clear hok
  refine SWp.seq (Wp.s ?_)
  simp -implicitDefEqProofs [go_sem, args0]
  refine SWp.seq (Wp.s ?_)
  simp -implicitDefEqProofs [go_sem]
  refine SWp.join (α := Unit) (fun _ => ([(3, .sl (.own V.length l.length) 1 ((imgSz l).map ic))], H, V ++ [l.length])) (fun _ => True) ?_ ?_
  · refine SWp.seq (Wp.s ?_)
    simp -implicitDefEqProofs [go_sem]
    refine SWp.block ?_
    refine SWp.loop (α := Nat) (fun i => ([(0, .sl tk 1 (l.map imE)), (3, .sl (.own V.length i) 1 (szU l i)), (4, ci i)], H, V ++ [i])) (fun i => i ≤ l.length) (fun i => l.length - i) 0 (Nat.zero_le _) (Sh.tokT (by simp [go_sem]) rfl rfl) ?_
    intro i hi
    dsimp only
    refine SWp.seq (SWp.seq (Wp.s ?_))
    simp -implicitDefEqProofs [go_sem]
    refine Wp.s ?_
    simp -implicitDefEqProofs [go_sem]
    refine ⟨fun h => ?_, fun h => ?_⟩
    case refine_2 =>
      obtain rfl : i = l.length := by omega
      exact Sh.forget (by simp [go_sem, szU, List.take_of_length_le]) rfl rfl
    refine SWp.seq (SWp.block (Wp.s ?_))
    simp -implicitDefEqProofs [go_sem, h, szU_len l i hi]
    refine ⟨by omega, ?_⟩
    have w5 : IntKind.i64.wrap ((i : Int) + 1) = (i : Int) + 1 := IntWalk.i64_in _ ⟨by omega, by omega⟩
    refine Wp.s ?_
    simp -implicitDefEqProofs [go_sem, w5]
    exact ⟨i + 1, by omega, by omega, Sh.forget (by simp [go_sem, szU_s h, ic]) rfl (by simp)⟩
  rintro _ -
  dsimp only
  refine SWp.seq (Wp.s ?_)
  simp -implicitDefEqProofs [go_sem]
  refine Wp.s ?_
  simp -implicitDefEqProofs [go_sem]
  exact Fin.pu (.sh _ _ _) (by simp [go_sem, okE_ints]) hokH (by simp) (by simp)
theorem rImChk_cc (H : Hp) (V : List Nat) (tk : Tk) (l : Img) (hl : l.length ≤ 1000000000) : CC Tryz.prog 77 [.sl tk 1 (l.map imE)] H V (Pu (er (sizesE (imgSz l))) H V) := by
  refine CC.of_swp Tryz.func77 rfl (by kernel_rfl) (by rw [Tryz.ntmps77]; exact len_le _ _ rfl) fun hok hokH => ?_
  clear hok
  refine SWp.seq (Wp.s ?_)
  simp -implicitDefEqProofs [go_sem, args0]
  refine SWp.seq (Wp.s ?_)
  simp -implicitDefEqProofs [go_sem]
  refine CC.mono (rSizesOf_cc _ _ tk l hl) ?_
  rintro _ _ _ ⟨rfl, rfl, rfl⟩
  simp -implicitDefEqProofs [go_sem]
  refine CC.mono (refSizes_cc _ _ .sh (imgSz l) (by rw [imgSz_len]; omega)) ?_
  rintro _ _ _ ⟨rfl, rfl, rfl⟩
  simp -implicitDefEqProofs [go_sem]
  refine Wp.s ?_
  simp -implicitDefEqProofs [go_sem]
  exact Fin.er rfl hokH (by simp) (by simp)
theorem rFits_cc (H : Hp) (V : List Nat) (tk : Tk) (l : Img) (w : Wr) (hl : l.length ≤ 1000000000) (hw : w.data.length ≤ 1000000000) : CC Tryz.prog 128 [.sl tk 1 (l.map imE), .agg (wrC w)] H V (Pu (er (fitsI l w)) H V) := by
  refine CC.of_swp Tryz.func128 rfl (by kernel_rfl) (by rw [Tryz.ntmps128]; exact len_le _ _ rfl) fun hok hokH => ?_
  clear hok
  refine SWp.seq (Wp.s ?_)
  simp -implicitDefEqProofs [go_sem, args0]
  refine SWp.seq (SWp.seq (Wp.s ?_))
  simp -implicitDefEqProofs [go_sem]
  refine CC.mono (rImChk_cc _ _ tk l hl) ?_
  rintro _ _ _ ⟨rfl, rfl, rfl⟩
  simp -implicitDefEqProofs [go_sem]
  refine SWp.seq (Wp.s ?_)
  by_cases h0 : sizesE (imgSz l) = 0
  case neg =>
    simp -implicitDefEqProofs [go_sem, h0]
    refine Wp.s ?_
    simp -implicitDefEqProofs [go_sem]
    exact Fin.er (by rw [fitsI, if_pos h0]) hokH (by simp) (by simp)
  simp -implicitDefEqProofs [go_sem, h0]
  refine Wp.s ?_
  simp -implicitDefEqProofs [go_sem]
  refine SWp.seq (SWp.drawnT [] [] (.s 0 .pl <| .s 2 .pl <| .s 1 .pl <| .s 3 .pl <| .s 4 .pl <| .n) (by kernel_rfl) (by kernel_rfl) ?_)
  simp -implicitDefEqProofs [go_sem]
  refine CC.mono (rSizesOf_cc _ _ tk l hl) ?_
  rintro _ _ _ ⟨rfl, rfl, rfl⟩
  simp -implicitDefEqProofs [go_sem]
  refine CC.mono (refFits_cc _ _ .sh (imgSz l) w (by rw [imgSz_len]; omega) (fun n hn => (sizesE_0 h0).2.2 n hn) hw) ?_
  rintro _ _ _ ⟨rfl, rfl, rfl⟩
  simp -implicitDefEqProofs [go_sem]
  refine Wp.s ?_
  simp -implicitDefEqProofs [go_sem]
  exact Fin.er (by rw [fitsI, if_neg (by simp [h0])]) hokH (by simp) (by simp)
end Go.Proofs.YtbnkggbpocaaiaaGreatDoor
namespace Go.Proofs.YtbnkggbpocaaiaaGreatDoor
open Go.Proofs
end Go.Proofs.YtbnkggbpocaaiaaGreatDoor
namespace Go.Proofs.YtbnkggbpocaaiaaGreatDoor
open Go.Proofs
theorem LeE.refl' : ∀ l : List (List CV), LeE l l
  | [] => .nil
  | c :: l => .cons (LeL.refl c) (LeE.refl' l)
theorem LeE.app' : ∀ {a b c d : List (List CV)}, LeE a b → LeE c d → LeE (a ++ c) (b ++ d)
  | _, _, _, _, .nil, h => h
  | _, _, _, _, .cons h t, g => .cons h (LeE.app' t g)
theorem Sh.ge {n nb nv : Nat} {T T' : Tm} {H H' : Hp} {V V' : List Nat} (h : ∀ p ∈ T', Ge (tget T p.1) p.2) (hH : H = H') (hV : V = V') : Sh n nb nv T H V (T', H', V') := by
  subst hH hV
  exact Gst.ge h
set_option maxRecDepth 8000 in
theorem rCopyG_cc (H : Hp) (V : List Nat) (l : Img) (hl : l.length ≤ 1000000) (hn : ∀ v ∈ l, v ≠ [] ∧ v.length ≤ 1000000) (R : CV → Hp → List Nat → Prop) (hR : (∀ (b : Nat) cs, H[b]? = some (some cs) → okL H.length V.length cs) → Fin H.length V.length R (.sl (.own V.length l.length) 1 (bxs H.length l)) (H ++ imH l) (V ++ [l.length])) : CC Tryz.prog 127 [.sl .sh 1 (l.map imE)] H V (R) := by
  refine CC.of_swp Tryz.func127 rfl (by kernel_rfl) (by rw [Tryz.ntmps127]; exact len_le _ _ rfl) fun hok hokH => ?_
  clear hok
  refine SWp.seq (Wp.s ?_)
  simp -implicitDefEqProofs [go_sem, args0]
  refine SWp.seq (Wp.s ?_)
  simp -implicitDefEqProofs [go_sem]
  refine SWp.join (α := Unit) (fun _ => ([(3, .sl (.own V.length l.length) 1 (bxs H.length l))], H ++ imH l, V ++ [l.length])) (fun _ => True) ?_ ?_
  · refine SWp.seq (Wp.s ?_)
    simp -implicitDefEqProofs [go_sem]
    refine SWp.block ?_
    refine SWp.loop (α := Nat) (fun i => ([(0, .sl .sh 1 (l.map imE)), (3, .sl (.own V.length i) 1 (bxs H.length (l.take i))), (4, ci i)], H ++ imH (l.take i), V ++ [i])) (fun i => i ≤ l.length) (fun i => l.length - i) 0 (Nat.zero_le _) (Sh.tokT (by simp [go_sem, bxs]) (by simp [imH]) rfl) ?_
    intro i hi
    dsimp only
    refine SWp.seq (SWp.seq (Wp.s ?_))
    simp -implicitDefEqProofs [go_sem]
    refine Wp.s ?_
    simp -implicitDefEqProofs [go_sem]
    refine ⟨fun h => ?_, fun h => ?_⟩
    case refine_2 =>
      obtain rfl : i = l.length := by omega
      exact Sh.forget (by rw [List.take_of_length_le (by omega)]; simp [go_sem]) (by rw [List.take_of_length_le (by omega)]) rfl
    obtain ⟨n1, n2⟩ := hn l[i] (List.getElem_mem h)
    have hmn : min i l.length = i := Nat.min_eq_left (by omega)
    have w5 : IntKind.i64.wrap ((i : Int) + 1) = (i : Int) + 1 := IntWalk.i64_in _ ⟨by omega, by omega⟩
    refine SWp.seq (SWp.block (SWp.seq (Wp.s ?_)))
    simp -implicitDefEqProofs [go_sem]
    refine SWp.opx (pre := [_, _, _, _, _, _]) (post := [_, _, _]) rfl (by intro c e; cases e) ?_
    simp -implicitDefEqProofs [go_sem, h]
    refine ⟨_, _, _, appboxN (sz := 8) (tk := .sh) (ys := l[i].map secC) slTy46 slTy46 (by decide) rfl rfl (by simpa using n1) (by rw [List.length_map]; omega), ?_⟩
    simp -implicitDefEqProofs [go_sem, hmn]
    rw [show (List.map secC l[i]).flatten = secsF l[i] from rfl]
    refine ⟨by omega, ?_⟩
    refine Wp.s ?_
    simp -implicitDefEqProofs [go_sem, w5]
    refine ⟨i + 1, by omega, by omega, Sh.ge (fun p hp => ?_) ?_ (by simp)⟩
    · rw [List.take_succ_eq_append_getElem h, bxs_snoc, List.length_take, hmn] at hp
      simp only [List.mem_cons, List.not_mem_nil, or_false] at hp
      rcases hp with rfl | rfl | rfl
      · simp [go_sem]
      · simp [go_sem]; exact Ge.slk (LeE.app' (LeE.refl' _) (.cons (.cons (.bsa _ _ _) .nil) .nil))
      · simp [go_sem]
    · rw [List.take_succ_eq_append_getElem h, imH, imH, List.map_append]; rfl
  rintro _ -
  dsimp only
  refine Wp.s ?_
  simp -implicitDefEqProofs [go_sem]
  exact hR hokH
theorem rCopy_cc (H : Hp) (V : List Nat) (l : Img) (hl : l.length ≤ 1000000) (hn : ∀ v ∈ l, v ≠ [] ∧ v.length ≤ 1000000) : CC Tryz.prog 127 [.sl .sh 1 (l.map imE)] H V (fun r H' V' => r = .sl (.own V.length l.length) 1 (bxs H.length l) ∧ H' = H ++ imH l ∧ V' = V ++ [l.length]) := by
  refine rCopyG_cc H V l hl hn _ fun hokH => ?_
  refine Fin.cut (H.length + l.length) (V.length + 1) ⟨rfl, rfl, rfl⟩ (by omega) (by omega) (List.take_of_length_le (by simp)) (List.take_of_length_le (by simp)) (.refl _) ?_ ?_
  · rw [okV]
    exact ⟨Nat.lt_succ_self _, okE_bxs _ _ _ _ (Nat.le_refl _)⟩
  intro b cs hb
  rw [List.getElem?_append] at hb
  split at hb
  · exact okL_mono (by omega) (Nat.le_succ _) (hokH b cs hb)
  · obtain ⟨v, -, hv⟩ := List.mem_map.1 (List.mem_of_getElem? hb)
    obtain rfl := Option.some.inj hv
    rw [okL_secsF]; trivial
end Go.Proofs.YtbnkggbpocaaiaaGreatDoor
namespace Go.Proofs.YtbnkggbpocaaiaaGreatDoor
open Go.Proofs
theorem putV_0 (v : List Sec) (p : Nat) : putV v p [] = v := by simp [putV]
theorem putV_snoc {v : List Sec} {p : Nat} {d : List Sec} {t : Nat} (ht : t < d.length) (h : p + d.length ≤ v.length) : (putV v p (d.take t)).set (p + t) d[t] = putV v p (d.take (t + 1)) := by
  apply List.ext_getElem
  · rw [List.length_set, putV_len (by rw [List.length_take]; omega), putV_len (by rw [List.length_take]; omega)]
  intro i h1 h2
  rw [List.length_set, putV_len (by rw [List.length_take]; omega)] at h1
  rw [List.getElem_set]
  simp only [putV, List.getElem_append, List.length_append, List.length_take, List.getElem_take, List.getElem_drop]
  by_cases e : p + t = i
  · subst e
    rw [if_pos rfl, dif_pos (by omega), dif_neg (by omega)]
    congr 1; omega
  · rw [if_neg e]
    by_cases q1 : i < p
    · rw [dif_pos (by omega), dif_pos (by omega), dif_pos (by omega), dif_pos (by omega)]
    · by_cases q2 : i < p + t
      · rw [dif_pos (by omega), dif_neg (by omega), dif_pos (by omega), dif_neg (by omega)]
      · rw [dif_neg (by omega), dif_neg (by omega)]
        congr 1; omega
set_option maxRecDepth 8000 in
theorem rApply_cc (H : Hp) (V : List Nat) (l : Img) (ws : List Wr) (hl : l.length ≤ 1000000000) (hn : ws.length ≤ 1000000000) (hw : ∀ w ∈ ws, w.data.length ≤ 1000000000) : CC Tryz.prog 71 [.sl .sh 1 (l.map imE), .sl .sh 3 (ws.map wrC)] H V (Pu (apV (apR l ws)) H V) := by
  refine CC.of_swp Tryz.func71 rfl (by kernel_rfl) (by rw [Tryz.ntmps71]; exact len_le _ _ rfl) fun hok hokH => ?_
  clear hok
  have bad : ∀ (i e : Nat) (H' : Hp) (V' : List Nat), apR l ws = ([], i, e) → H'.take H.length = H → V'.take V.length = V → Fin H.length V.length (Pu (apV (apR l ws)) H V) (.tup [.v (.slice none 0 0), ci i, er e]) H' V' := fun i e H' V' h1 h2 h3 => by
    rw [h1]
    exact Fin.pu (.tup (.cons (.nil 1 (by decide)) (.cons (.refl _) (.cons (.refl _) .nil)))) (okV_apV _ _ _) hokH h2 h3
  refine SWp.seq (Wp.s ?_)
  simp -implicitDefEqProofs [go_sem, args0]
  refine SWp.seq (SWp.seq (Wp.s ?_))
  simp -implicitDefEqProofs [go_sem]
  refine CC.mono (rImChk_cc _ _ .sh l hl) ?_
  rintro _ _ _ ⟨rfl, rfl, rfl⟩
  simp -implicitDefEqProofs [go_sem]
  refine SWp.seq (Wp.s ?_)
  by_cases h0 : sizesE (imgSz l) = 0
  case neg =>
    simp -implicitDefEqProofs [go_sem, h0]
    refine Wp.s ?_
    simp -implicitDefEqProofs [go_sem]
    exact bad 0 _ _ _ (by rw [apR, if_pos h0]) (by simp) (by simp)
  have e0 : apR l ws = apI l ws 0 := by rw [apR, if_neg (by simp [h0])]
  simp -implicitDefEqProofs [go_sem, h0]
  refine Wp.s ?_
  simp -implicitDefEqProofs [go_sem]
  obtain ⟨hl8, hvs⟩ := sizes_pos h0
  refine SWp.seq (Wp.s ?_)
  simp -implicitDefEqProofs [go_sem]
  refine CC.mono (rCopy_cc _ _ l (by omega) (fun v hv => ⟨(hvs v hv).1, by have := (hvs v hv).2; omega⟩)) ?_
  rintro _ _ _ ⟨rfl, rfl, rfl⟩
  simp -implicitDefEqProofs [go_sem]
  refine SWp.join (α := Img) (fun k => ([(8, .sl (.own V.length l.length) 1 (bxs H.length l))], H ++ imH k, V ++ [l.length])) (fun k => k.map List.length = l.map List.length ∧ apI l ws 0 = (k, 0, 0)) ?_ ?_
  · refine SWp.seq (Wp.s ?_)
    simp -implicitDefEqProofs [go_sem]
    refine SWp.block ?_
    refine SWp.loop (α := Nat × Img) (fun x => ([(0, .sl .sh 1 (l.map imE)), (1, .sl .sh 3 (ws.map wrC)), (8, .sl (.own V.length l.length) 1 (bxs H.length l)), (9, ci x.1)], H ++ imH x.2, V ++ [l.length])) (fun x => x.1 ≤ ws.length ∧ x.2.map List.length = l.map List.length ∧ apI l ws 0 = apI x.2 (ws.drop x.1) x.1) (fun x => ws.length - x.1) (0, l) ⟨Nat.zero_le _, rfl, rfl⟩ (Sh.forget (by simp [go_sem]) rfl rfl) ?_
    rintro ⟨i, k⟩ ⟨hi, hk, hap⟩
    dsimp only at hi hk hap ⊢
    refine SWp.seq (SWp.seq (Wp.s ?_))
    simp -implicitDefEqProofs [go_sem]
    refine Wp.s ?_
    simp -implicitDefEqProofs [go_sem]
    have hkl : k.length = l.length := by have := congrArg List.length hk; simpa using this
    refine ⟨fun h => ?_, fun h => ?_⟩
    case refine_2 =>
      rw [List.drop_of_length_le h] at hap
      exact ⟨k, ⟨hk, hap⟩, Sh.forget (by simp [go_sem]) rfl rfl⟩
    rw [List.drop_eq_getElem_cons h] at hap
    have hszk : imgSz l = imgSz k := by
      have : ∀ x : Img, imgSz x = (x.map List.length).map fun n : Nat => (n : Int) := fun x => by rw [imgSz, List.map_map]; rfl
      rw [this l, this k, hk]
    have hkn : ∀ v ∈ k, v.length ≤ 4096 := fun v hv => by
      have : v.length ∈ k.map List.length := List.mem_map.2 ⟨v, hv, rfl⟩
      rw [hk] at this
      obtain ⟨u, hu, he⟩ := List.mem_map.1 this
      have := (hvs u hu).2; omega
    have hdw := hw _ (List.getElem_mem h)
    have w5 : IntKind.i64.wrap ((i : Int) + 1) = (i : Int) + 1 := IntWalk.i64_in _ ⟨by omega, by omega⟩
    refine SWp.seq (SWp.block (SWp.seq (SWp.seq (Wp.s ?_))))
    simp -implicitDefEqProofs [go_sem, h]
    refine CC.mono (rFits_cc _ _ .sh l ws[i] hl hdw) ?_
    rintro _ _ _ ⟨rfl, rfl, rfl⟩
    have hfi : fitsI l ws[i] = fitsS (imgSz k) ws[i] := by rw [fitsI, if_neg (by simp [h0]), hszk]
    rw [hfi]
    simp -implicitDefEqProofs [go_sem]
    refine SWp.seq (Wp.s ?_)
    by_cases hf : fitsS (imgSz k) ws[i] = 0
    case neg =>
      simp -implicitDefEqProofs [go_sem, hf]
      refine Wp.s ?_
      simp -implicitDefEqProofs [go_sem]
      exact bad i _ _ _ (by rw [e0, hap, apI, if_pos hf]) (by simp) (by simp)
    rw [apI, if_neg (by simp [hf])] at hap
    simp -implicitDefEqProofs [go_sem, hf]
    refine Wp.s ?_
    simp -implicitDefEqProofs [go_sem]
    obtain ⟨n, hvn, hnk, hd0, p, hpn, hpl⟩ := fitsI_0 hf
    have hkl4 := hkn _ (List.getElem_mem hnk)
    obtain ⟨d, hd⟩ : ∃ d, d = ws[i].data := ⟨_, rfl⟩
    rw [← hd] at hd0 hpl hdw
    have hap1 : ap1 k ws[i] = k.set n (putV k[n] p d) := by
      rw [ap1, hvn, hpn, Int.toNat_natCast, Int.toNat_natCast, List.getD_eq_getElem?_getD, List.getElem?_eq_getElem hnk, Option.getD_some, hd]
    refine SWp.seq (Wp.s ?_)
    simp -implicitDefEqProofs [go_sem]
    refine SWp.block ?_
    refine SWp.loop (α := Nat) (fun t => ([(0, .sl .sh 1 (l.map imE)), (1, .sl .sh 3 (ws.map wrC)), (8, .sl (.own V.length l.length) 1 (bxs H.length l)), (9, ci i), (11, ci t)], H ++ imH (k.set n (putV k[n] p (d.take t))), V ++ [l.length])) (fun t => t ≤ d.length) (fun t => d.length - t) 0 (Nat.zero_le _) (Sh.forget (by simp [go_sem]) (by rw [List.take_zero, putV_0, List.set_getElem_self]) rfl) ?_
    intro t ht
    dsimp only
    refine SWp.seq (SWp.seq (Wp.s ?_))
    simp -implicitDefEqProofs [go_sem, h, ← hd]
    refine Wp.s ?_
    simp -implicitDefEqProofs [go_sem]
    refine ⟨fun h6 => ?_, fun h6 => ?_⟩
    case refine_2 =>
      refine Wp.s ?_
      simp -implicitDefEqProofs [go_sem, w5]
      exact ⟨i + 1, ap1 k ws[i], ⟨by omega, (ap1_sz hf).trans hk, hap⟩, by omega, Sh.forget (by simp [go_sem]) (by rw [hap1, List.take_of_length_le h6]) rfl⟩
    have hdt : (d.take t).length = t := by rw [List.length_take]; omega
    have hpvl : (putV k[n] p (d.take t)).length = k[n].length := putV_len (by omega)
    obtain ⟨k', hk'⟩ : ∃ k', k' = k.set n (putV k[n] p (d.take t)) := ⟨_, rfl⟩
    have hk'l : k'.length = k.length := by rw [hk', List.length_set]
    have hk'n : k'[n]? = some (putV k[n] p (d.take t)) := by rw [hk', List.getElem?_set_self hnk]
    rw [← hk']
    have hbxe := bxs_eq H.length hk
    rw [← hbxe]
    obtain ⟨G, hG⟩ : ∃ G, G = H ++ imH k' := ⟨_, rfl⟩
    have hGn : G[H.length + n]? = some (some (secsF (putV k[n] p (d.take t)))) := by
      rw [hG, imH_get H k' n (by omega)]
      obtain ⟨_, e⟩ := List.getElem?_eq_some_iff.1 hk'n
      rw [e]
    rw [← hG]
    have w6 : IntKind.i64.wrap ((p : Int) + (t : Int)) = ((p + t : Nat) : Int) := by rw [IntWalk.i64_in _ ⟨by omega, by omega⟩]; omega
    have w7 : IntKind.i64.wrap ((t : Int) + 1) = (t : Int) + 1 := IntWalk.i64_in _ ⟨by omega, by omega⟩
    have hpt : p + t < k[n].length := by omega
    have hpt' : (p : Int) + (t : Int) < (k[n].length : Int) := by omega
    refine SWp.seq (SWp.block (SWp.drawnT [] [24] (.s 0 .pl <| .s 1 .pl <| .s 2 .pl <| .s 3 .pl <| .s 4 .pl <| .s 5 .pl <| .s 6 .pl <| .s 7 .pl <| .s 8 .pl <| .s 9 .pl <| .s 10 .pl <| .s 11 .pl <| .s 12 .pl <| .s 13 .pl <| .s 14 .pl <| .s 15 .pl <| .s 16 .pl <| .s 17 .pl <| .s 18 .pl <| .s 19 .pl <| .s 20 .pl <| .s 21 .pl <| .s 22 .pl <| .s 23 .pl <| .s 24 .st <| .n) (by kernel_rfl) (by kernel_rfl) ?_))
    have w8 : ((p : Int) + (t : Int)).toNat = p + t := by omega
    simp -implicitDefEqProofs [go_sem, h, hvn, hpn, hnk, ← hd, w6, w8, h6, hpt, hpt', hbx_of hGn]
    refine ⟨by omega, by omega, ?_⟩
    refine Wp.s ?_
    simp -implicitDefEqProofs [go_sem, w7]
    refine ⟨t + 1, by omega, by omega, Sh.forget (by simp [go_sem]) ?_ rfl⟩
    rw [hG, secsF_set' (by omega), putV_snoc h6 (by omega), imH_set, hk', List.set_set]
  rintro k ⟨hk, hap⟩
  dsimp only
  have hkl : k.length = l.length := by have := congrArg List.length hk; simpa using this
  rw [← bxs_eq H.length hk]
  refine Wp.s ?_
  simp -implicitDefEqProofs [go_sem]
  rw [e0, hap]
  exact fin_bxs hokH (by simp)
end Go.Proofs.YtbnkggbpocaaiaaGreatDoor
namespace Go.Proofs.YtbnkggbpocaaiaaGreatDoor
open Go.Proofs
end Go.Proofs.YtbnkggbpocaaiaaGreatDoor
namespace Go.Proofs.YtbnkggbpocaaiaaGreatDoor
open Go.Proofs
end Go.Proofs.YtbnkggbpocaaiaaGreatDoor
namespace Go.Proofs.YtbnkggbpocaaiaaGreatDoor
open Go.Proofs
end Go.Proofs.YtbnkggbpocaaiaaGreatDoor
namespace Go.Proofs.YtbnkggbpocaaiaaGreatDoor
open Go.Proofs
end Go.Proofs.YtbnkggbpocaaiaaGreatDoor
namespace Go.Proofs.YtbnkggbpocaaiaaGreatDoor
open Go.Proofs
theorem gi64 (s : Sec) : bitop .or .i64 (bitop .or .i64 (bitop .or .i64 (sb s 0 : Int) (shl .i64 (sb s 1 : Int) 8)) (shl .i64 (sb s 2 : Int) 16)) (shl .i64 (sb s 3 : Int) 24) = (gn s : Int) := by
  have h0 := sb_lt s 0
  have h1 := sb_lt s 1
  have h2 := sb_lt s 2
  have h3 := sb_lt s 3
  have u : ∀ x : Nat, x < 4294967296 → IntKind.i64.wrap (x : Int) = (x : Int) := fun x hx => IntWalk.i64_in _ ⟨by omega, by omega⟩
  have e : ∀ (x k : Nat), x < 256 → k ≤ 24 → shl .i64 (x : Int) (k : Int) = ((x * 2 ^ k : Nat) : Int) := fun x k hx hk => by
    unfold shl
    rw [Int.toNat_natCast, Nat.min_eq_left (by show k ≤ 64; omega)]
    have e2 : (x : Int) * 2 ^ k = ((x * 2 ^ k : Nat) : Int) := by simp
    rw [e2]
    refine u _ ?_
    have := Nat.pow_le_pow_right (show 0 < 2 by decide) hk
    have := Nat.mul_le_mul (show x ≤ 255 by omega) this
    omega
  rw [show (8 : Int) = ((8 : Nat) : Int) from rfl, show (16 : Int) = ((16 : Nat) : Int) from rfl, show (24 : Int) = ((24 : Nat) : Int) from rfl, e _ _ h1 (by omega), e _ _ h2 (by omega), e _ _ h3 (by omega)]
  rw [bitop_or _ _ _ (by show _ < 2 ^ 64; omega) (by show _ < 2 ^ 64; omega), or_add' _ _ _ (by omega), u _ (by omega)]
  rw [bitop_or _ _ _ (by show _ < 2 ^ 64; omega) (by show _ < 2 ^ 64; omega), or_add' _ _ _ (by omega), u _ (by omega)]
  rw [bitop_or _ _ _ (by show _ < 2 ^ 64; omega) (by show _ < 2 ^ 64; omega), or_add' _ _ _ (by omega), u _ (by omega)]
  simp only [gn, gi, Nat.zero_mul, Nat.zero_add, Nat.sub_zero, Nat.sub_self, show 3 - 2 = 1 from rfl, show 3 - 1 = 2 from rfl]
  omega
theorem sb64 (s : Sec) (i : Nat) : IntKind.i64.wrap (sb s i : Int) = (sb s i : Int) := by have := sb_lt s i; exact IntWalk.i64_in _ ⟨by omega, by omega⟩
theorem jnumber_cc (H : Hp) (V : List Nat) (s : Sec) : CC Tryz.prog 187 [.agg (secC s)] H V (Pu (ci (gn s)) H V) := by
  refine CC.of_swp Tryz.func187 rfl (by kernel_rfl) (by rw [Tryz.ntmps187]; exact len_le _ _ rfl) fun hok hokH => ?_
  clear hok
  refine SWp.seq (Wp.s ?_)
  simp -implicitDefEqProofs [go_sem, args0]
  refine Wp.s ?_
  simp -implicitDefEqProofs [go_sem, secC_get, sb64, gi64]
  exact Fin.int rfl hokH (by simp) (by simp)
theorem rnumber_cc (H : Hp) (V : List Nat) (s : Sec) : CC Tryz.prog 222 [.agg (secC s)] H V (Pu (ci (gn s)) H V) := by
  refine CC.of_swp Tryz.func222 rfl (by kernel_rfl) (by rw [Tryz.ntmps222]; exact len_le _ _ rfl) fun hok hokH => ?_
  clear hok
  refine SWp.seq (Wp.s ?_)
  simp -implicitDefEqProofs [go_sem, args0]
  refine Wp.s ?_
  simp -implicitDefEqProofs [go_sem, secC_get, sb64, gi64]
  exact Fin.int rfl hokH (by simp) (by simp)
def headP (c : Int) (p : List UInt8) : Int × Int × Nat :=
  match number p with
  | .error _ => (0, 0, 3)
  | .ok (h, r) =>
    match number r with
    | .error _ => (0, 0, 3)
    | .ok (f, r') => if 0 < r'.length ∨ c - 16 ≤ (h : Int) ∨ (f : Int) < 1 ∨ 1073741824 < (f : Int) then (0, 0, 3) else (h, f, 0)
def headJ (s c : Int) (d : Dk) : Int × Int × Nat :=
  if (loadS d s).2.2 ≠ 0 then (0, 0, (loadS d s).2.2) else headP c (loadS d s).1
def hdV (x : Int × Int × Nat) : CV := .tup [iv x.1, iv x.2.1, er x.2.2]
theorem Fin.hd {H H' : Hp} {V V' : List Nat} {x : Int × Int × Nat} {a b : Int} {e : Nat} (h : (a, b, e) = x) (hokH : ∀ (b : Nat) cs, H[b]? = some (some cs) → okL H.length V.length cs) (hH : H'.take H.length = H) (hV : V'.take V.length = V) : Fin H.length V.length (Pu (hdV x) H V) (.tup [iv a, iv b, Go.Proofs.YtbnkggbpocaaiaaGreatDoor.er e]) H' V' := by
  subst h
  exact Fin.pu (.refl _) (by rw [hdV, okV, okL, okL, okL, okL]; exact ⟨by rw [okV]; trivial, by rw [okV]; trivial, okV_er _ _ _, trivial⟩) hokH hH hV
theorem load_cc (H : Hp) (V : List Nat) (s c : Int) (d : Dk) (h : validJ s c = true) (hl : DkS d) (hp : (loadS d s).1.length ≤ 100) : CC Tryz.prog 145 [.agg [iv s, iv c], .agg (dkC d)] H V (Pu (hdV (headJ s c d)) H V) := by
  refine CC.of_swp Tryz.func145 rfl (by kernel_rfl) (by rw [Tryz.ntmps145]; exact len_le _ _ rfl) fun hok hokH => ?_
  clear hok
  refine SWp.seq (Wp.s ?_)
  simp -implicitDefEqProofs [go_sem, args0]
  refine SWp.seq (Wp.s ?_)
  simp -implicitDefEqProofs [go_sem]
  refine CC.mono (sLoad_cc _ _ d s hl) ?_
  rintro _ _ _ ⟨rfl, rfl, rfl⟩
  simp -implicitDefEqProofs [go_sem, ldV]
  refine SWp.seq (SWp.seq (Wp.s ?_))
  by_cases h0 : (loadS d s).2.2 = 0
  case neg =>
    simp -implicitDefEqProofs [go_sem, h0]
    refine Wp.s ?_
    simp -implicitDefEqProofs [go_sem]
    exact Fin.hd (by rw [headJ, if_pos h0]) hokH (by simp) (by simp)
  have hJ : headJ s c d = headP c (loadS d s).1 := by rw [headJ, if_neg (by simp [h0])]
  rw [hJ]
  generalize (loadS d s).1 = p at hp ⊢
  simp -implicitDefEqProofs [go_sem, h0]
  refine Wp.s ?_
  simp -implicitDefEqProofs [go_sem]
  refine SWp.seq (Wp.s ?_)
  simp -implicitDefEqProofs [go_sem]
  refine CC.mono (Int_cc _ _ .sh p (by omega)) ?_
  rintro _ _ _ ⟨rfl, rfl, rfl⟩
  cases hn : number p with
  | error e =>
    have he := ne0_number _ _ hn
    simp -implicitDefEqProofs [go_sem, rdv]
    refine SWp.seq (SWp.seq (Wp.s ?_))
    simp -implicitDefEqProofs [go_sem, he]
    refine Wp.s ?_
    simp -implicitDefEqProofs [go_sem]
    exact Fin.hd (by rw [headP, hn]) hokH (by simp) (by simp)
  | ok x =>
    obtain ⟨hd, r⟩ := x
    have hr := number_len _ _ _ _ hn
    simp -implicitDefEqProofs [go_sem, rdv]
    refine SWp.seq (SWp.seq (Wp.s ?_))
    simp -implicitDefEqProofs [go_sem]
    refine Wp.s ?_
    simp -implicitDefEqProofs [go_sem]
    refine SWp.seq (Wp.s ?_)
    simp -implicitDefEqProofs [go_sem]
    refine CC.mono (Int_cc _ _ .sh r (by omega)) ?_
    rintro _ _ _ ⟨rfl, rfl, rfl⟩
    cases hn2 : number r with
    | error e =>
      have he := ne0_number _ _ hn2
      simp -implicitDefEqProofs [go_sem, rdv]
      refine SWp.seq (SWp.seq (Wp.s ?_))
      simp -implicitDefEqProofs [go_sem, he]
      refine Wp.s ?_
      simp -implicitDefEqProofs [go_sem]
      exact Fin.hd (by rw [headP, hn]; simp only; rw [hn2]) hokH (by simp) (by simp)
    | ok x =>
      obtain ⟨f, r'⟩ := x
      have hP : headP c p = if 0 < r'.length ∨ c - 16 ≤ (hd : Int) ∨ (f : Int) < 1 ∨ 1073741824 < (f : Int) then (0, 0, 3) else ((hd : Int), (f : Int), 0) := by
        rw [headP, hn]; simp only; rw [hn2]
      simp -implicitDefEqProofs [go_sem, rdv]
      refine SWp.seq (SWp.seq (Wp.s ?_))
      by_cases c1 : 0 < r'.length
      · have c1' : 0 < (r'.length : Int) := by omega
        simp -implicitDefEqProofs [go_sem, c1, c1']
        refine Wp.s ?_
        simp -implicitDefEqProofs [go_sem]
        exact Fin.hd (by rw [hP, if_pos (.inl c1)]) hokH (by simp) (by simp)
      have c1' : ¬ 0 < (r'.length : Int) := by omega
      simp -implicitDefEqProofs [go_sem, c1, c1']
      refine CC.mono (length_cc _ _ _ _ h) ?_
      rintro _ _ _ ⟨rfl, rfl, rfl⟩
      by_cases c2 : c - 16 ≤ (hd : Int)
      · simp -implicitDefEqProofs [go_sem, c2]
        refine Wp.s ?_
        simp -implicitDefEqProofs [go_sem]
        exact Fin.hd (by rw [hP, if_pos (.inr (.inl c2))]) hokH (by simp) (by simp)
      by_cases c3 : (f : Int) < 1
      · simp -implicitDefEqProofs [go_sem, c2, c3]
        refine Wp.s ?_
        simp -implicitDefEqProofs [go_sem]
        exact Fin.hd (by rw [hP, if_pos (.inr (.inr (.inl c3)))]) hokH (by simp) (by simp)
      by_cases c4 : 1073741824 < (f : Int)
      · simp -implicitDefEqProofs [go_sem, c2, c3, c4]
        refine Wp.s ?_
        simp -implicitDefEqProofs [go_sem]
        exact Fin.hd (by rw [hP, if_pos (.inr (.inr (.inr c4)))]) hokH (by simp) (by simp)
      simp -implicitDefEqProofs [go_sem, c2, c3, c4]
      refine Wp.s ?_
      simp -implicitDefEqProofs [go_sem]
      refine Wp.s ?_
      simp -implicitDefEqProofs [go_sem]
      exact Fin.hd (by rw [hP, if_neg (by omega)]) hokH (by simp) (by simp)
end Go.Proofs.YtbnkggbpocaaiaaGreatDoor
namespace Go.Proofs.YtbnkggbpocaaiaaGreatDoor
open Go.Proofs
def leV : List UInt8 → Nat
  | [] => 0
  | b :: l => b.toNat + 256 * leV l
theorem leV_lt : ∀ l : List UInt8, leV l < 256 ^ l.length
  | [] => Nat.one_pos
  | b :: l => by
    have := leV_lt l
    have := b.toNat_lt
    rw [leV, List.length_cons, Nat.pow_succ]; omega
theorem leV_snoc : ∀ (l : List UInt8) (b : UInt8), leV (l ++ [b]) = leV l + b.toNat * 256 ^ l.length
  | [], b => by simp [leV]
  | a :: l, b => by
    rw [List.cons_append, leV, leV_snoc l b, leV, List.length_cons, Nat.pow_succ, Nat.mul_add, Nat.add_assoc]
    congr 1
    congr 1
    rw [Nat.mul_comm 256, Nat.mul_assoc]
theorem or_sh8 {n a i : Nat} (hi : i < 6) (hn : n < 256 ^ i) (ha : a < 256) : bitop .or .i64 (n : Int) (shl .i64 (a : Int) (8 * (i : Int))) = ((n + a * 256 ^ i : Nat) : Int) := by
  have hp : 256 ^ i ≤ 256 ^ 5 := Nat.pow_le_pow_right (by decide) (by omega)
  have hm : a * 256 ^ i ≤ 255 * 256 ^ 5 := Nat.mul_le_mul (by omega) hp
  have e1 : shl .i64 (a : Int) (8 * (i : Int)) = ((a * 256 ^ i : Nat) : Int) := by
    unfold shl
    have e : min (8 * (i : Int)).toNat IntKind.i64.bits = 8 * i := by
      show min (8 * (i : Int)).toNat 64 = 8 * i
      omega
    rw [e, show (2 : Int) ^ (8 * i) = ((256 ^ i : Nat) : Int) by rw [Int.pow_mul]; simp, ← Int.natCast_mul]
    exact IntWalk.i64_in _ ⟨by omega, by omega⟩
  rw [e1, bitop_or _ _ _ (by show _ < 2 ^ 64; omega) (by show _ < 2 ^ 64; omega)]
  have e2 : n ||| a * 256 ^ i = n + a * 256 ^ i := by
    have := or_add' n a (8 * i) (by rw [Nat.pow_mul]; exact hn)
    rw [Nat.pow_mul] at this; exact this
  rw [e2]
  exact IntWalk.i64_in _ ⟨by omega, by omega⟩
def rdB (l : List UInt8) (x y : CV) : List CV := [.sl .sh 1 (bs l), x, y]
theorem take_cc (H : Hp) (V : List Nat) (b n : Nat) (l : List UInt8) (x y : CV) (hb : H[b]? = some (some (rdB l x y))) (hn : n ≤ l.length) (hl : l.length ≤ 1000000) : CC Tryz.prog 224 [.ptr b 0, ci n] H V (fun r H' V' => r = .sl .sh 1 (bs (l.take n)) ∧ H' = H.set b (some (rdB (l.drop n) x y)) ∧ V = V') := by
  refine CC.of_swp Tryz.func224 rfl (by kernel_rfl) (by rw [Tryz.ntmps224]; exact len_le _ _ rfl) fun hok hokH => ?_
  clear hok
  have hbl := lt_of_box hb
  have hn' : (n : Int) ≤ (l.length : Int) := by omega
  unfold rdB at hb ⊢
  refine SWp.seq (Wp.s ?_)
  simp -implicitDefEqProofs [go_sem, args0]
  refine SWp.seq (Wp.s ?_)
  simp -implicitDefEqProofs [go_sem, hbx_of hb, hn]
  refine SWp.seq (Wp.s ?_)
  simp -implicitDefEqProofs [go_sem, hbx_of hb, hn]
  refine SWp.seq (Wp.s ?_)
  simp -implicitDefEqProofs [go_sem]
  refine Wp.s ?_
  simp -implicitDefEqProofs [go_sem]
  exact Fin.self ⟨rfl, rfl, rfl⟩
theorem bnumber_cc (H : Hp) (V : List Nat) (b n : Nat) (l : List UInt8) (x y : CV) (hb : H[b]? = some (some (rdB l x y))) (hn : n ≤ l.length) (hl : l.length ≤ 1000000) (hn6 : n ≤ 6) : CC Tryz.prog 223 [.ptr b 0, ci n] H V (fun r H' V' => r = ci (leV (l.take n)) ∧ H' = H.set b (some (rdB (l.drop n) x y)) ∧ V = V') := by
  refine CC.of_swp Tryz.func223 rfl (by kernel_rfl) (by rw [Tryz.ntmps223]; exact len_le _ _ rfl) fun hok hokH => ?_
  clear hok
  have hbl := lt_of_box hb
  refine SWp.seq (Wp.s ?_)
  simp -implicitDefEqProofs [go_sem, args0]
  refine SWp.seq (Wp.s ?_)
  simp -implicitDefEqProofs [go_sem]
  refine SWp.join (α := Unit) (fun _ => ([(5, ci (leV (l.take n)))], H.set b (some (rdB (l.drop n) x y)), V)) (fun _ => True) ?_ ?_
  · refine SWp.seq (Wp.s ?_)
    simp -implicitDefEqProofs [go_sem]
    refine CC.mono (take_cc _ _ b n l x y hb hn hl) ?_
    rintro _ _ _ ⟨rfl, rfl, rfl⟩
    simp -implicitDefEqProofs [go_sem, show min n l.length = n by omega]
    refine SWp.block ?_
    have hkl : (l.take n).length = n := by rw [List.length_take]; omega
    generalize l.take n = q at hkl ⊢
    refine SWp.loop (α := Nat) (fun i => ([(5, ci (leV (q.take i))), (10, .sl .sh 1 (bs q)), (11, ci n), (12, ci i)], H.set b (some (rdB (l.drop n) x y)), V)) (fun i => i ≤ n) (fun i => n - i) 0 (Nat.zero_le _) (Sh.forget (by simp [go_sem, leV]) rfl rfl) ?_
    intro i hi
    dsimp only
    refine Wp.s ?_
    by_cases h : i < n
    · have hq : i < q.length := by omega
      have h1 := leV_lt (q.take i)
      rw [List.length_take, Nat.min_eq_left (by omega)] at h1
      have e := or_sh8 (n := leV (q.take i)) (a := q[i].toNat) (i := i) (by omega) h1 q[i].toNat_lt
      have e2 : leV (q.take i) + q[i].toNat * 256 ^ i = leV (q.take (i + 1)) := by
        rw [List.take_succ_eq_append_getElem hq, leV_snoc, List.length_take, Nat.min_eq_left (by omega)]
      rw [e2] at e
      have w1 : IntKind.i64.wrap (8 * (i : Int)) = 8 * (i : Int) := IntWalk.i64_in _ ⟨by omega, by omega⟩
      have w2 : IntKind.i64.wrap (q[i].toNat : Int) = (q[i].toNat : Int) := by have := q[i].toNat_lt; exact IntWalk.i64_in _ ⟨by omega, by omega⟩
      simp -implicitDefEqProofs [go_sem, h, hq, w1, w2, e]
      refine ⟨by omega, i + 1, by omega, by omega, Sh.forget ?_ rfl rfl⟩
      simp [go_sem, wrap_succ (show i ≤ 1000000000 by omega)]
    · obtain rfl : i = n := by omega
      simp -implicitDefEqProofs [go_sem, h]
      refine Sh.forget ?_ rfl rfl
      rw [List.take_of_length_le (by omega)]
      simp [go_sem]
  · rintro _ -
    refine Wp.s ?_
    simp -implicitDefEqProofs [go_sem]
    exact Fin.self ⟨rfl, rfl, rfl⟩
theorem nz_cc (H : Hp) (V : List Nat) (c : UInt8) : CC Tryz.prog 226 [.v (.int .u8 (c.toNat : Int))] H V (Pu (cb (c != 0)) H V) := by
  refine CC.of_swp Tryz.func226 rfl (by kernel_rfl) (by rw [Tryz.ntmps226]; exact len_le _ _ rfl) fun hok hokH => ?_
  clear hok
  refine SWp.seq (Wp.s ?_)
  simp -implicitDefEqProofs [go_sem, args0]
  refine Wp.s ?_
  simp -implicitDefEqProofs [go_sem]
  refine Fin.bool ?_ hokH (by simp) (by simp)
  rw [Bool.eq_iff_iff]
  simp [← UInt8.toNat_inj]
def nzB (c : UInt8) : Bool := c != 0
theorem indexB_cc (H : Hp) (V : List Nat) (tk : Tk) (l : List UInt8) (hl : l.length ≤ 900000000) :
    CC Tryz.prog 245 [.sl tk 1 (bs l), .fn 226 []] H V (Ix (l.any nzB) H V) := by
  refine CC.of_swp Tryz.func245 rfl (by kernel_rfl) (by rw [Tryz.ntmps245]; exact len_le _ _ rfl) fun hok hokH => ?_
  clear hok
  refine SWp.seq (Wp.s ?_)
  simp -implicitDefEqProofs [go_sem, args0]
  refine SWp.join (α := Unit) (fun _ => ([], H, V)) (fun _ => l.any nzB = false) ?_ ?_
  · refine SWp.seq (Wp.s ?_)
    simp -implicitDefEqProofs [go_sem]
    refine SWp.block ?_
    refine SWp.loop (α := Nat) (fun i => ([(0, .sl tk 1 (bs l)), (1, .fn 226 []), (7, ci l.length), (8, ci i)], H, V)) (fun i => i ≤ l.length ∧ (l.take i).any nzB = false) (fun i => l.length - i) 0 ⟨Nat.zero_le _, rfl⟩
      (Sh.forget (by simp [go_sem]) rfl rfl) ?_
    rintro i ⟨hi, hp⟩
    dsimp only
    refine Wp.s ?_
    simp -implicitDefEqProofs [go_sem]
    refine ⟨fun h => ⟨h, ?_⟩, fun h => ⟨?_, Sh.forget (by simp [go_sem]) rfl rfl⟩⟩
    · refine CC.mono (nz_cc _ _ l[i]) ?_
      rintro _ _ _ ⟨rfl, rfl, rfl⟩
      rcases hq : nzB l[i] with - | -
      · have hq' : (l[i] != 0) = false := hq
        simp -implicitDefEqProofs [go_sem, hq']
        refine ⟨i + 1, ⟨by omega, by simpa using any_take h hp hq⟩, by omega, Sh.forget ?_ rfl rfl⟩
        simp [go_sem, wrap_succ (show i ≤ 1000000000 by omega)]
      · have hq' : (l[i] != 0) = true := hq
        simp -implicitDefEqProofs [go_sem, hq']
        exact Fin.ix (by rw [any_at h hq]; simp) hokH (by simp) (by simp)
    · rw [List.take_of_length_le h] at hp; simpa using hp
  · rintro _ hp
    dsimp only
    refine Wp.s ?_
    simp -implicitDefEqProofs [go_sem]
    exact Fin.ix (by rw [hp]; rfl) hokH (by simp) (by simp)
theorem containsB_cc (H : Hp) (V : List Nat) (tk : Tk) (l : List UInt8) (hl : l.length ≤ 900000000) :
    CC Tryz.prog 225 [.sl tk 1 (bs l), .fn 226 []] H V (Pu (cb (l.any nzB)) H V) := by
  refine CC.of_swp Tryz.func225 rfl (by kernel_rfl) (by rw [Tryz.ntmps225]; exact len_le _ _ rfl) fun hok hokH => Wp.s ?_
  simp -implicitDefEqProofs [go_sem, args0]
  refine CC.mono (indexB_cc _ _ _ _ hl) ?_
  rintro _ _ _ ⟨k, rfl, hk, rfl, rfl⟩
  simp -implicitDefEqProofs [go_sem]
  exact Fin.bool hk hokH (by simp) (by simp)
def panR (k : Nat) : List PanicEntry := [{ v := .iface 289 (.agg #[.int .i64 (k : Int)]), recovered := false }]
theorem demandR_run (b : Bool) (k : Nat) (w : World) : Calls Tryz.prog 221 #[.bool b, .int .i64 (k : Int)] w fun e w' => w' = w ∧ if b then e = .returned (.tuple #[]) else e = .panicked (panR k) := by
  go_enter Tryz.func221, Tryz.ntmps221
  go_wp2
  · simp_all
  · simp [bodyPost, panR]
  · simp [bodyPost, results, Tryz.results221, go_sem]
  · simp_all
theorem demandR_cx (H : Hp) (V : List Nat) (b : Bool) (k : Nat) : CX Tryz.prog 221 [.v (.bool b), er k] H V (fun r H' V' => b = true ∧ r = .tup [] ∧ H' = H ∧ V' = V) (fun ch H' V' => b = false ∧ ch = panR k ∧ H' = H ∧ V' = V) := by
  refine ⟨⟨_, Tryz.func221, rfl, by kernel_rfl⟩, fun m w us hi hu => ?_⟩
  rw [RelL] at hu
  obtain ⟨u, r, rfl, h1, h2⟩ := hu
  rw [RelL] at h2
  obtain ⟨u2, r2, rfl, h2, h3⟩ := h2
  rw [RelL] at h3
  subst h3
  rw [RelV] at h1 h2
  subst h1 h2
  refine (demandR_run b k w).mono fun e w' ⟨e1, e2⟩ => ?_
  subst e1
  cases b
  · exact .inr ⟨_, m, H, V, e2, ⟨rfl, rfl, rfl, rfl⟩, hi, Ext.refl _ _ _⟩
  · exact .inl ⟨_, m, .tup [], H, V, e2, ⟨rfl, rfl, rfl, rfl⟩, hi, (by rw [RelV]; exact ⟨[], rfl, by rw [RelL]⟩), Ext.refl _ _ _⟩
theorem cx_demR {f : FuncId} {args : List CV} {H : Hp} {V : List Nat} {K : CV → Hp → List Nat → Prop} {E : List PanicEntry → Hp → List Nat → Prop} (b : Bool) (k : Nat) (e : f = 221) (ha : args = [.v (.bool b), er k]) (h0 : b = true → K (.tup []) H V) (h1 : b = false → E (panR k) H V) : CX Tryz.prog f args H V K E := by
  subst e ha
  exact CX.mono (demandR_cx H V b k) (fun r H' V' ⟨a, b, c, d⟩ => by subst b c d; exact h0 a) (fun ch H' V' ⟨a, b, c, d⟩ => by subst b c d; exact h1 a)
end Go.Proofs.YtbnkggbpocaaiaaGreatDoor
