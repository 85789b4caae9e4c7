import Derived.Test.YthakkopnoeinmaaA21
set_option linter.unusedSimpArgs false
set_option linter.unusedVariables false
namespace Go.Proofs.Ythakkopnoeinmaa
open Go.Proofs
/-- Is n within x? -/
def inX (x : Ext2) (n : Int) : Bool := decide (x.start ≤ n) && decide (w64 (n - x.start) < x.count)
def inN : List Ext2 → Int → Nat
  | [], _ => 0
  | x :: l, n => (if inX x n then 1 else 0) + inN l n
theorem inN_le : ∀ (l : List Ext2) (n : Int), inN l n ≤ l.length
  | [], _ => Nat.le_refl _
  | x :: l, n => by
    rw [inN, List.length_cons]
    have := inN_le l n
    split <;> omega
theorem inN_drop {l : List Ext2} {i : Nat} {n : Int} (h : i < l.length) : inN (l.drop i) n = (if inX l[i] n then 1 else 0) + inN (l.drop (i + 1)) n := by
  rw [List.drop_eq_getElem_cons h, inN]
def endOf : Int → List Ext2 → Int
  | e, [] => e
  | _, x :: l => endOf (x.start + x.count) l
theorem endOf_ge {top : Int} : ∀ (l : List Ext2) (e : Int), chain top e l → e ≤ endOf e l
  | [], _, _ => Int.le_refl _
  | x :: l, e, ⟨h1, h2, _, h4⟩ => by
    rw [endOf]
    have := endOf_ge l _ h4
    omega
theorem endOf_le {top : Int} : ∀ (l : List Ext2) (e : Int), e ≤ top → chain top e l → endOf e l ≤ top
  | [], _, h, _ => h
  | x :: l, e, _, ⟨_, _, h3, h4⟩ => by
    rw [endOf]
    exact endOf_le l _ h3 h4
theorem gaps_sum {top : Int} (ht : top ≤ 2000000000) {n : Int} (hn0 : -10 ≤ n) (hn1 : n ≤ 2000000000) : ∀ (l : List Ext2) (e : Int), 0 ≤ e → chain top e l → inN l n + inN (gapsL e l) n = if e ≤ n ∧ n < endOf e l then 1 else 0
  | [], e, _, _ => by
    rw [gapsL, endOf, inN, if_neg (by omega)]
  | x :: l, e, he, ⟨h1, h2, h3, h4⟩ => by
    have ih := gaps_sum ht hn0 hn1 l (x.start + x.count) (by omega) h4
    have hge := endOf_ge l _ h4
    rw [gapsL, endOf, inN, inN, w64_id (by omega) (by omega)]
    rw [w64_id (n := x.start + x.count) (by omega) (by omega)]
    have e1 : inX x n = decide (x.start ≤ n ∧ n < x.start + x.count) := by
      unfold inX
      by_cases h : x.start ≤ n
      · rw [w64_id (by omega) (by omega), Bool.eq_iff_iff]; simp <;> omega
      · simp [h]
    have e2 : inX ⟨e, x.start - e⟩ n = decide (e ≤ n ∧ n < x.start) := by
      unfold inX
      dsimp only
      by_cases h : e ≤ n
      · rw [w64_id (by omega) (by omega), Bool.eq_iff_iff]; simp <;> omega
      · simp [h]
    rw [e1, e2]
    simp only [decide_eq_true_eq]
    split at ih <;> split <;> split <;> split <;> omega
theorem in_first {top : Int} (ht : top ≤ 2000000000) {n : Int} (hn0 : -10 ≤ n) (hn1 : n ≤ 2000000000) : ∀ (l : List Ext2) (e : Int), 0 ≤ e → n ≤ e → chain top e l → inN l n = 0
  | [], _, _, _, _ => rfl
  | x :: l, e, he, hne, ⟨h1, h2, h3, h4⟩ => by
    have ih := in_first ht hn0 hn1 l (x.start + x.count) (by omega) (by omega) h4
    rw [inN, ih]
    have : inX x n = false := by
      unfold inX
      simp; omega
    rw [this]; rfl
theorem endOf_last : ∀ (l : List Ext2) (e : Int) (h : l.length - 1 < l.length), endOf e l = l[l.length - 1].start + l[l.length - 1].count
  | [], _, h => by simp at h
  | [x], _, _ => rfl
  | x :: y :: l, e, _ => by
    rw [endOf, endOf_last (y :: l) _ (by simp)]
    rfl
theorem in_cc (H : Hp) (V : List Nat) (tk : Tk) (l : List Ext2) (n : Int) (hl : l.length ≤ 900000000) : CC Try.prog 32 [.sl tk 2 (l.map extC), ci n] H V (Pu (ci (inN l n)) H V) := by
  refine CC.of_swp Try.func32 rfl (by kernel_rfl) (by rw [Try.ntmps32]; exact len_le _ _ rfl) fun hok hokH => ?_
  simp [go_sem, okV_slt] at hok
  refine SWp.seq (Wp.s ?_)
  simp -implicitDefEqProofs [go_sem, args0]
  refine SWp.seq (Wp.s ?_)
  simp -implicitDefEqProofs [go_sem]
  refine SWp.join (α := Unit) (fun _ => ([(5, ci (inN l n))], H, V)) (fun _ => True) ?_ ?_
  · refine SWp.seq (Wp.s ?_)
    simp -implicitDefEqProofs [go_sem]
    refine SWp.block ?_
    refine SWp.loop (α := Nat × Nat) (fun x => ([(1, ci n), (8, .sl tk 2 (l.map extC)), (9, ci l.length), (10, ci x.1), (5, ci x.2)], H, V)) (fun x => x.1 ≤ l.length ∧ x.2 ≤ x.1 ∧ x.2 + inN (l.drop x.1) n = inN l n) (fun x => l.length - x.1) (0, 0) ⟨Nat.zero_le _, Nat.le_refl _, by simp⟩ (Sh.forget (by simp [go_sem]) rfl rfl) ?_
    rintro ⟨i, k⟩ ⟨hi, hk, hs⟩
    dsimp only at hi hk hs ⊢
    refine SWp.seq (Wp.s ?_)
    simp -implicitDefEqProofs [go_sem]
    refine SWp.seq (Wp.s ?_)
    simp -implicitDefEqProofs [go_sem]
    refine ⟨fun h => ?_, fun h => ?_⟩
    case refine_2 =>
      rw [List.drop_eq_nil_of_le (by omega), inN] at hs
      exact Sh.forget (by simp [go_sem, ← hs]) rfl rfl
    have hw := wrap_succ (show i ≤ 1000000000 by omega)
    have hw2 := wrap_succ (show k ≤ 1000000000 by omega)
    rw [inN_drop h] at hs
    have h2 : i < (l.map extC).length := by rw [List.length_map]; exact h
    refine SWp.seq (SWp.block ?_)
    refine SWp.seq (Wp.s ?_)
    simp -implicitDefEqProofs [go_sem, h]
    refine SWp.seq (Wp.s ?_)
    by_cases c1 : l[i].start ≤ n
    · by_cases c2 : w64 (n - l[i].start) < l[i].count
      · have hx : inX l[i] n = true := by simp [inX, c1, c2]
        rw [hx] at hs
        unfold w64 at c2
        simp -implicitDefEqProofs [go_sem, c1, c2, show ¬ n < l[i].start by omega]
        refine SWp.condT (by simp [go_sem]) (Wp.s ?_)
        simp -implicitDefEqProofs [go_sem, hw2]
        refine Wp.s ?_
        simp -implicitDefEqProofs [go_sem, hw]
        exact ⟨i + 1, k + 1, ⟨by omega, by omega, by rw [← hs]; simp; omega⟩, by omega, Sh.back (by simp [go_sem]) rfl rfl (by simp [go_sem, okV_slt, hok]) hokH (by simp) (by simp)⟩
      · have hx : inX l[i] n = false := by simp [inX, c1, c2]
        rw [hx] at hs
        unfold w64 at c2
        simp -implicitDefEqProofs [go_sem, c1, c2, show ¬ n < l[i].start by omega]
        refine SWp.condF (by simp [go_sem]) (Wp.s ?_)
        simp -implicitDefEqProofs [go_sem]
        refine Wp.s ?_
        simp -implicitDefEqProofs [go_sem, hw]
        exact ⟨i + 1, k, ⟨by omega, by omega, by rw [← hs]; simp⟩, by omega, Sh.back (by simp [go_sem]) rfl rfl (by simp [go_sem, okV_slt, hok]) hokH (by simp) (by simp)⟩
    · have hx : inX l[i] n = false := by simp [inX, c1]
      rw [hx] at hs
      simp -implicitDefEqProofs [go_sem, c1, show n < l[i].start by omega]
      refine SWp.condF (by simp [go_sem]) (Wp.s ?_)
      simp -implicitDefEqProofs [go_sem]
      refine Wp.s ?_
      simp -implicitDefEqProofs [go_sem, hw]
      exact ⟨i + 1, k, ⟨by omega, by omega, by rw [← hs]; simp⟩, by omega, Sh.back (by simp [go_sem]) rfl rfl (by simp [go_sem, okV_slt, hok]) hokH (by simp) (by simp)⟩
  · rintro _ -
    dsimp only
    refine Wp.s ?_
    simp -implicitDefEqProofs [go_sem]
    exact Fin.pu (.refl _) (by simp [go_sem]) hokH (by simp) (by simp)
end Go.Proofs.Ythakkopnoeinmaa
namespace Go.Proofs.Ythakkopnoeinmaa
open Go.Proofs
theorem endOf_gt {top e : Int} {l : List Ext2} (h : l ≠ []) (hc : chain top e l) : e < endOf e l := by
  cases l with
  | nil => exact absurd rfl h
  | cons x l =>
    obtain ⟨h1, h2, _, h4⟩ := hc
    rw [endOf]
    have := endOf_ge l _ h4
    omega
set_option maxRecDepth 10000 in
theorem PacketGaps_cc (H : Hp) (V : List Nat) (p : Pk) : CC Try.prog 10 [.agg (pkC p)] H V (Pu (cb true) H V) := by
  refine CC.of_swp Try.func10 rfl (by kernel_rfl) (by rw [Try.ntmps10]; exact len_le _ _ rfl) fun hok hokH => ?_
  clear hok
  refine SWp.seq (Wp.s ?_)
  simp -implicitDefEqProofs [go_sem, args0]
  refine SWp.seq (Wp.s ?_)
  simp -implicitDefEqProofs [go_sem]
  refine CC.mono (few_cc _ _ _) ?_
  rintro _ _ _ ⟨rfl, rfl, rfl⟩
  rcases hf : (decide (p.sel.length ≤ 40) && decide (p.payload.length ≤ 5000)) with - | -
  · simp -implicitDefEqProofs [go_sem]
    refine CC.mono (awake_cc _ _) ?_
    rintro _ _ _ ⟨rfl, rfl, rfl⟩
    simp -implicitDefEqProofs [go_sem]
    exact Fin.bool rfl hokH (by simp) (by simp)
  simp only [Bool.and_eq_true, decide_eq_true_eq] at hf
  simp -implicitDefEqProofs [go_sem]
  refine SWp.seq (Wp.s ?_)
  simp -implicitDefEqProofs [go_sem]
  refine CC.mono (Gaps_cc _ _ _ (by omega)) ?_
  rintro _ _ _ ⟨rfl, rfl, rfl⟩
  simp -implicitDefEqProofs [go_sem]
  refine SWp.seq (Wp.s ?_)
  simp -implicitDefEqProofs [go_sem]
  refine CC.mono (Check_cc _ _ _ (by omega)) ?_
  rintro _ _ _ ⟨rfl, rfl, rfl⟩
  by_cases hc : checkP p = 0
  case neg =>
    have hG : gapsP p = [] := if_neg hc
    simp -implicitDefEqProofs [go_sem, hc, hG]
    refine CC.mono (awake_cc _ _) ?_
    rintro _ _ _ ⟨rfl, rfl, rfl⟩
    simp -implicitDefEqProofs [go_sem]
    exact Fin.bool rfl hokH (by simp) (by simp)
  by_cases hz : p.sel = []
  · have hG : gapsP p = [] := by rw [gapsP, if_pos hc, hz]; rfl
    simp -implicitDefEqProofs [go_sem, hc, hz, hG]
    refine CC.mono (awake_cc _ _) ?_
    rintro _ _ _ ⟨rfl, rfl, rfl⟩
    simp -implicitDefEqProofs [go_sem]
    exact Fin.bool rfl hokH (by simp) (by simp)
  have hlen : 0 < p.sel.length := List.length_pos_iff.2 hz
  have hk := checkP_ok hc
  have ha := hk.ack
  have hch := hk.sel
  have hG : gapsP p = gapsL p.ack p.sel := if_pos hc
  have hGl := gapsP_len p
  have hll : p.sel.length - 1 < p.sel.length := by omega
  have hE := endOf_last p.sel p.ack hll
  have hE1 := endOf_ge p.sel p.ack hch
  have hE2 := endOf_le p.sel p.ack (by omega) hch
  have hin := chain_in (by omega) ha.1 hch _ (List.getElem_mem hll)
  simp -implicitDefEqProofs [go_sem, hc, hz]
  refine SWp.seq (Wp.s ?_)
  simp -implicitDefEqProofs [go_sem]
  have hw1 : IntKind.i64.wrap ((p.sel.length : Int) - 1) = (p.sel.length : Int) - 1 := IntWalk.i64_in _ ⟨by omega, by omega⟩
  have hn1 : ((p.sel.length : Int) - 1).toNat = p.sel.length - 1 := by omega
  refine SWp.seq (Wp.s ?_)
  simp -implicitDefEqProofs [go_sem, hw1, hn1, show (1 : Int) ≤ p.sel.length by omega, hll]
  generalize hlst : p.sel[p.sel.length - 1] = lst at hE hin ⊢
  have hwE : IntKind.i64.wrap (lst.start + lst.count) = lst.start + lst.count := IntWalk.i64_in _ ⟨by omega, by omega⟩
  have hwa : IntKind.i64.wrap (p.ack - 1) = p.ack - 1 := IntWalk.i64_in _ ⟨by omega, by omega⟩
  refine SWp.join (α := Unit) (fun _ => ([(1, .ptr H.length 0), (3, .sl .sh 2 ((gapsP p).map extC)), (4, .fn 32 [])], H ++ [some (pkC p), some (extC lst)], V)) (fun _ => True) ?_ ?_
  · refine SWp.seq (Wp.s ?_)
    simp -implicitDefEqProofs [go_sem, hwa]
    refine SWp.block ?_
    refine SWp.loop (α := Nat) (fun k => ([(1, .ptr H.length 0), (3, .sl .sh 2 ((gapsP p).map extC)), (4, .fn 32 []), (5, .ptr (H.length + 1) 0), (6, ci (p.ack - 1 + k))], H ++ [some (pkC p), some (extC lst)], V)) (fun k => (p.ack - 1 + k) ≤ lst.start + lst.count + 1) (fun k => (lst.start + lst.count + 1 - (p.ack - 1 + k)).toNat) 0 (by omega) (Sh.forget (by simp [go_sem]) rfl rfl) ?_
    rintro k hkk
    dsimp only at hkk ⊢
    generalize hn : p.ack - 1 + (k : Int) = n at hkk ⊢
    have hwn : IntKind.i64.wrap (n + 1) = n + 1 := IntWalk.i64_in _ ⟨by omega, by omega⟩
    have hnext : p.ack - 1 + ((k + 1 : Nat) : Int) = n + 1 := by omega
    refine SWp.seq (Wp.s ?_)
    by_cases c : n ≤ lst.start + lst.count
    case neg =>
      simp -implicitDefEqProofs [go_sem, hwE, c, show lst.start + lst.count < n by omega]
      exact Sh.forget (by simp [go_sem]) rfl rfl
    simp -implicitDefEqProofs [go_sem, hwE, c]
    have hsum := gaps_sum (top := p.ack + 64) (by omega) (n := n) (by omega) (by omega) p.sel p.ack ha.1 hch
    rw [← hG, hE] at hsum
    have hs1 := inN_le p.sel n
    have hs2 := inN_le (gapsP p) n
    have hws : IntKind.i64.wrap ((inN p.sel n : Int) + (inN (gapsP p) n : Int)) = ((inN p.sel n + inN (gapsP p) n : Nat) : Int) := by
      rw [IntWalk.i64_in _ ⟨by omega, by omega⟩]; omega
    refine SWp.seq (SWp.block ?_)
    refine SWp.seq (Wp.s ?_)
    simp -implicitDefEqProofs [go_sem]
    by_cases c1 : n < p.ack
    · rw [if_neg (by omega)] at hsum
      refine SWp.seq (SWp.seq (Wp.s ?_))
      simp -implicitDefEqProofs [go_sem, c1]
      refine SWp.condT (by simp [go_sem]) (Wp.s ?_)
      simp -implicitDefEqProofs [go_sem]
      refine SWp.seq (Wp.s ?_)
      simp -implicitDefEqProofs [go_sem]
      refine CC.mono (in_cc _ _ _ _ _ (by omega)) ?_
      rintro _ _ _ ⟨rfl, rfl, rfl⟩
      simp -implicitDefEqProofs [go_sem]
      refine CC.mono (in_cc _ _ _ _ _ (by omega)) ?_
      rintro _ _ _ ⟨rfl, rfl, rfl⟩
      simp -implicitDefEqProofs [go_sem, hws, hsum]
      refine Wp.s ?_
      simp -implicitDefEqProofs [go_sem]
      refine Wp.s ?_
      simp -implicitDefEqProofs [go_sem, hwn]
      exact ⟨k + 1, by omega, by omega, by rw [hnext]; exact Sh.forget (by simp [go_sem]) rfl rfl⟩
    · by_cases c2 : n = lst.start + lst.count
      · rw [if_neg (by omega)] at hsum
        refine SWp.seq (SWp.seq (Wp.s ?_))
        subst c2
        simp -implicitDefEqProofs [go_sem, c1, hwE]
        refine SWp.condT (by simp [go_sem]) (Wp.s ?_)
        simp -implicitDefEqProofs [go_sem]
        refine SWp.seq (Wp.s ?_)
        simp -implicitDefEqProofs [go_sem]
        refine CC.mono (in_cc _ _ _ _ _ (by omega)) ?_
        rintro _ _ _ ⟨rfl, rfl, rfl⟩
        simp -implicitDefEqProofs [go_sem]
        refine CC.mono (in_cc _ _ _ _ _ (by omega)) ?_
        rintro _ _ _ ⟨rfl, rfl, rfl⟩
        simp -implicitDefEqProofs [go_sem, hws, hsum]
        refine Wp.s ?_
        simp -implicitDefEqProofs [go_sem]
        refine Wp.s ?_
        simp -implicitDefEqProofs [go_sem, hwn]
        exact ⟨k + 1, by omega, by omega, by rw [hnext]; exact Sh.forget (by simp [go_sem]) rfl rfl⟩
      · rw [if_pos (by omega)] at hsum
        refine SWp.seq (SWp.seq (Wp.s ?_))
        simp -implicitDefEqProofs [go_sem, c1, hwE, c2]
        refine SWp.condF (by simp [go_sem]) (Wp.s ?_)
        simp -implicitDefEqProofs [go_sem]
        refine SWp.seq (Wp.s ?_)
        simp -implicitDefEqProofs [go_sem]
        refine CC.mono (in_cc _ _ _ _ _ (by omega)) ?_
        rintro _ _ _ ⟨rfl, rfl, rfl⟩
        simp -implicitDefEqProofs [go_sem]
        refine CC.mono (in_cc _ _ _ _ _ (by omega)) ?_
        rintro _ _ _ ⟨rfl, rfl, rfl⟩
        simp -implicitDefEqProofs [go_sem, hws, hsum]
        refine Wp.s ?_
        simp -implicitDefEqProofs [go_sem]
        refine Wp.s ?_
        simp -implicitDefEqProofs [go_sem, hwn]
        exact ⟨k + 1, by omega, by omega, by rw [hnext]; exact Sh.forget (by simp [go_sem]) rfl rfl⟩
  · rintro _ -
    dsimp only
    have hfst := in_first (top := p.ack + 64) (by omega) (n := p.ack) (by omega) (by omega) p.sel p.ack ha.1 (Int.le_refl _) hch
    have hsum := gaps_sum (top := p.ack + 64) (by omega) (n := p.ack) (by omega) (by omega) p.sel p.ack ha.1 hch
    have hE3 : p.ack < endOf p.ack p.sel := endOf_gt hz hch
    rw [← hG, hfst, if_pos ⟨Int.le_refl _, hE3⟩] at hsum
    have hone : inN (gapsP p) p.ack = 1 := by omega
    refine SWp.seq (Wp.s ?_)
    simp -implicitDefEqProofs [go_sem]
    refine CC.mono (in_cc _ _ _ _ _ (by omega)) ?_
    rintro _ _ _ ⟨rfl, rfl, rfl⟩
    rw [hone]
    simp -implicitDefEqProofs [go_sem]
    refine CC.mono (awake_cc _ _) ?_
    rintro _ _ _ ⟨rfl, rfl, rfl⟩
    simp -implicitDefEqProofs [go_sem]
    refine Wp.s ?_
    simp -implicitDefEqProofs [go_sem]
    exact Fin.bool rfl hokH (by simp) (by simp)
end Go.Proofs.Ythakkopnoeinmaa
