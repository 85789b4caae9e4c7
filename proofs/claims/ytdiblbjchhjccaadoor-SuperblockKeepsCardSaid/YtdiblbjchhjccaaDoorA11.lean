import Derived.Test.YtdiblbjchhjccaaDoorA10
set_option linter.unusedSimpArgs false
set_option linter.unusedVariables false
set_option linter.unusedSectionVars false
namespace Go.Proofs.YtdiblbjchhjccaaDoor
open Go.Proofs
theorem shr32_le4 (n k : Nat) (hk : k < 4) : IntKind.u8.wrap (shr .u32 (n : Int) (8 * (k : Int))) = (((le4 n).getD k 0).toNat : Int) := by
  have e : ∀ m : Nat, IntKind.u8.wrap (m : Int) = ((UInt8.ofNat (m % 256)).toNat : Int) := fun m => by
    rw [IntKind.wrap_u8, UInt8.toNat_ofNat']; omega
  have h : k = 0 ∨ k = 1 ∨ k = 2 ∨ k = 3 := by omega
  unfold shr
  rcases h with rfl | rfl | rfl | rfl
  · rw [show (n : Int).fdiv (2 ^ (min (8 * ((0 : Nat) : Int)).toNat IntKind.u32.bits)) = (n : Int) from Int.fdiv_one _, e]; rfl
  · rw [show (n : Int).fdiv (2 ^ (min (8 * ((1 : Nat) : Int)).toNat IntKind.u32.bits)) = ((n / 256 : Nat) : Int) by rw [Int.fdiv_eq_ediv_of_nonneg _ (by decide)]; show (n : Int) / 256 = _; omega, e]; rfl
  · rw [show (n : Int).fdiv (2 ^ (min (8 * ((2 : Nat) : Int)).toNat IntKind.u32.bits)) = ((n / 65536 : Nat) : Int) by rw [Int.fdiv_eq_ediv_of_nonneg _ (by decide)]; show (n : Int) / 65536 = _; omega, e]; rfl
  · rw [show (n : Int).fdiv (2 ^ (min (8 * ((3 : Nat) : Int)).toNat IntKind.u32.bits)) = ((n / 16777216 : Nat) : Int) by rw [Int.fdiv_eq_ediv_of_nonneg _ (by decide)]; show (n : Int) / 16777216 = _; omega, e]; rfl
/-- The first steps of a sector. -/
def mx (a b : List UInt8) (k : Nat) : List UInt8 := a.take k ++ List.replicate (4 - k) 0 ++ (b.take k ++ List.replicate (4 - k) 0)
theorem len4 {a : List UInt8} (h : a.length = 4) : ∃ x y z w, a = [x, y, z, w] := by
  match a, h with
  | [x, y, z, w], _ => exact ⟨x, y, z, w, rfl⟩
theorem mx_len {a b : List UInt8} (ha : a.length = 4) (hb : b.length = 4) {k : Nat} (hk : k ≤ 4) : (mx a b k).length = 8 := by
  simp [mx, ha, hb]; omega
theorem mx_step {a b : List UInt8} (ha : a.length = 4) (hb : b.length = 4) {k : Nat} (hk : k < 4) : ((mx a b k).set k (a.getD k 0)).set (k + 4) (b.getD k 0) = mx a b (k + 1) := by
  obtain ⟨a0, a1, a2, a3, rfl⟩ := len4 ha
  obtain ⟨b0, b1, b2, b3, rfl⟩ := len4 hb
  have h : k = 0 ∨ k = 1 ∨ k = 2 ∨ k = 3 := by omega
  rcases h with rfl | rfl | rfl | rfl <;> rfl
theorem mx_end {a b : List UInt8} (ha : a.length = 4) (hb : b.length = 4) : mx a b 4 = a ++ b := by
  obtain ⟨a0, a1, a2, a3, rfl⟩ := len4 ha
  obtain ⟨b0, b1, b2, b3, rfl⟩ := len4 hb
  rfl
/-- The first steps of the data. -/
def dst (p : List UInt8) (k : Nat) : List UInt8 := UInt8.ofNat p.length :: (p.take k ++ List.replicate (31 - k) 0)
theorem dst_len {p : List UInt8} {k : Nat} (hk : k ≤ p.length) (hp : p.length ≤ 31) : (dst p k).length = 32 := by simp [dst]; omega
theorem dst_end (p : List UInt8) : dst p p.length = dataOf p := by rw [dst, List.take_length]; rfl
theorem dst_step {p : List UInt8} {k : Nat} (hk : k < p.length) (hp : p.length ≤ 31) : (dst p k).set (k + 1) p[k] = dst p (k + 1) := by
  rw [dst, List.set_cons_succ, dst, List.set_append_right _ _ (by simp; omega)]
  rw [List.take_succ_eq_append_getElem hk, List.append_assoc]
  congr 2
  have e : k - (List.take k p).length = 0 := by simp; omega
  rw [e, show 31 - k = (31 - (k + 1)) + 1 by omega, List.replicate_succ]
  rfl
theorem copyOf_cc (H : Hp) (V : List Nat) (n : Nat) (tk : Tk) (p : List UInt8) (hn : n < 4294967296) (hp : p.length ≤ 31) : CC Tryd.prog 29 [.v (.int .u32 n), .sl tk 1 (bs p)] H V (Pu (secsV (copyS n p)) H V) := by
  refine CC.of_swp Tryd.func29 rfl (by kernel_rfl) (by rw [Tryd.ntmps29]; exact len_le _ _ rfl) fun hok hokH => ?_
  refine SWp.seq (Wp.s ?_)
  simp -implicitDefEqProofs [go_sem, args0]
  refine SWp.seq (Wp.s ?_)
  simp -implicitDefEqProofs [go_sem]
  refine SWp.seq (Wp.s ?_)
  simp -implicitDefEqProofs [go_sem]
  refine SWp.join (α := Unit) (fun _ => ([(0, .v (.int .u32 n)), (5, .bsl H.length 0 32 1)], H ++ [some (fb (dataOf p))], V)) (fun _ => True) ?_ ?_
  · refine SWp.seq (Wp.s ?_)
    simp -implicitDefEqProofs [go_sem]
    refine SWp.block ?_
    refine SWp.loop (α := Nat) (fun k => ([(0, .v (.int .u32 n)), (1, .sl tk 1 (bs p)), (5, .bsl H.length 0 32 1), (6, ci k)], H ++ [some (fb (dst p k))], V)) (fun k => k ≤ p.length) (fun k => p.length - k) 0 (Nat.zero_le _) (Sh.forget (by simp [go_sem]) ?_ rfl) ?_
    · have : byt (p.length : Int) = UInt8.ofNat p.length := by
        apply UInt8.toNat_inj.1
        have := byt_toNat (p.length : Int)
        rw [UInt8.toNat_ofNat']
        omega
      rw [wrap_u8, this]; rfl
    intro k hk
    dsimp only
    refine SWp.seq (Wp.s ?_)
    simp -implicitDefEqProofs [go_sem]
    refine ⟨fun h => ?_, fun h => ?_⟩
    case refine_2 =>
      obtain rfl : k = p.length := by omega
      exact Sh.forget (by simp [go_sem]) (by rw [dst_end]) rfl
    refine SWp.seq (SWp.block (Wp.s ?_))
    have hw := wrap_succ (show k ≤ 1000000000 by omega)
    simp -implicitDefEqProofs [go_sem, h, hw]
    have hl := dst_len hk hp
    refine ⟨by omega, by omega, by omega, Wp.s ?_⟩
    simp -implicitDefEqProofs [go_sem, hw]
    refine ⟨k + 1, by omega, by omega, Sh.forget (by simp [go_sem]) ?_ rfl⟩
    rw [fb_set _ _ _ (by omega), dst_step h hp]
  rintro _ -
  dsimp only
  refine SWp.seq (Wp.s ?_)
  simp -implicitDefEqProofs [go_sem]
  have hD := dataOf_len hp
  have okL' : ∀ (j : Nat), okH (H.length + 1) j [some (fb (dataOf p))] := fun j => by simp [go_sem]
  refine SWp.join (α := CV × List Nat) (fun x => ([(7, x.1)], H ++ [some (fb (dataOf p))], x.2)) (fun x => ApS V.length (copyS n p) x.1 x.2 ∧ V.length ≤ x.2.length ∧ x.2.take V.length = V) ?_ ?_
  · refine SWp.seq (Wp.s ?_)
    simp -implicitDefEqProofs [go_sem]
    refine SWp.block ?_
    refine SWp.loop (α := Nat × CV × List Nat) (fun x => ([(0, .v (.int .u32 n)), (5, .bsl H.length 0 32 1), (7, x.2.1), (8, ci (4 * x.1 : Nat))], H ++ [some (fb (dataOf p))], x.2.2))
      (fun x => x.1 ≤ 8 ∧ ApS V.length ((List.range x.1).map (secOf n p)) x.2.1 x.2.2 ∧ V.length ≤ x.2.2.length ∧ x.2.2.take V.length = V) (fun x => 8 - x.1) (0, .v (.slice none 0 0), V) ⟨by omega, .inl ⟨rfl, rfl⟩, Nat.le_refl _, by simp⟩ (Sh.forget (by simp [go_sem]) rfl rfl) ?_
    rintro ⟨i, cv, V'⟩ ⟨hi, ha, hv1, hv2⟩
    dsimp only at hi ha hv1 hv2 ⊢
    refine SWp.seq (Wp.s ?_)
    simp -implicitDefEqProofs [go_sem]
    refine ⟨fun h => ?_, fun h => ?_⟩
    case refine_2 =>
      obtain rfl : i = 8 := by omega
      exact ⟨cv, V', ⟨ha, hv1, hv2⟩, Sh.forget (by simp [go_sem]) rfl rfl⟩
    have h8 : i < 8 := by omega
    have hpl := partOf_len hp h8
    refine SWp.seq (SWp.block (SWp.seq (Wp.s ?_)))
    simp -implicitDefEqProofs [go_sem]
    refine SWp.join (α := Unit) (fun _ => ([(0, .v (.int .u32 n)), (5, .bsl H.length 0 32 1), (7, cv), (8, ci (4 * i : Nat)), (9, .ptr (H.length + 1) 0)], H ++ [some (fb (dataOf p)), some (secC (secOf n p i))], V')) (fun _ => True) ?_ ?_
    · refine SWp.seq (Wp.s ?_)
      simp -implicitDefEqProofs [go_sem]
      refine SWp.block ?_
      refine SWp.loop (α := Nat) (fun k => ([(0, .v (.int .u32 n)), (5, .bsl H.length 0 32 1), (7, cv), (8, ci (4 * i : Nat)), (9, .ptr (H.length + 1) 0), (10, ci k)], H ++ [some (fb (dataOf p)), some (fb (mx (le4 n) (partOf p i) k))], V')) (fun k => k ≤ 4) (fun k => 4 - k) 0 (by omega) (Sh.forget (by simp [go_sem]) rfl rfl) ?_
      intro k hk
      dsimp only
      refine SWp.seq (Wp.s ?_)
      simp -implicitDefEqProofs [go_sem]
      refine ⟨fun h => ?_, fun h => ?_⟩
      case refine_2 =>
        obtain rfl : k = 4 := by omega
        refine Sh.forget (by simp [go_sem]) ?_ rfl
        rw [mx_end (le4_len n) hpl]
        have : secC (secOf n p i) = fb (le4 n ++ partOf p i) := by
          show fb (secOf n p i).val = _
          rw [secOf_val n hp h8]
        rw [this]
      have h4 : k < 4 := by omega
      have hml := mx_len (le4_len n) hpl hk
      refine SWp.seq (SWp.block (SWp.seq (Wp.s ?_)))
      have w1 : IntKind.i64.wrap (8 * (k : Int)) = 8 * (k : Int) := IntWalk.i64_in _ ⟨by omega, by omega⟩
      have w2 : IntKind.u64.wrap (8 * (k : Int)) = 8 * (k : Int) := by rw [IntKind.wrap_u64]; omega
      simp -implicitDefEqProofs [go_sem, w1, w2, show (k : Int) < 8 by omega, hml, shr32_le4 n k h4]
      refine ⟨by omega, by omega, ?_⟩
      rw [fb_set _ _ _ (by omega)]
      have e1 : ((4 * (i : Int)) + (k : Int)).toNat = 4 * i + k := by omega
      have w3 : IntKind.i64.wrap (4 * (i : Int) + (k : Int)) = 4 * (i : Int) + (k : Int) := IntWalk.i64_in _ ⟨by omega, by omega⟩
      have w4 : IntKind.i64.wrap ((k : Int) + 4) = (k : Int) + 4 := IntWalk.i64_in _ ⟨by omega, by omega⟩
      have e2 : ((k : Int) + 4).toNat = k + 4 := by omega
      have hb : ∀ (h : 4 * i + k < (dataOf p).length), (dataOf p)[4 * i + k] = (partOf p i).getD k 0 := fun h => by
        rw [partOf, List.getD_eq_getElem?_getD, List.getElem?_take_of_lt h4, List.getElem?_drop, List.getElem?_eq_getElem h]; rfl
      refine Wp.s ?_
      simp -implicitDefEqProofs [go_sem, w3, w4, e1, e2, hml, hD, hb, show 4 * (i : Int) + (k : Int) < 32 by omega, show (k : Int) + 4 < 8 by omega]
      refine ⟨by omega, by omega, by omega, by omega, Wp.s ?_⟩
      simp -implicitDefEqProofs [go_sem, wrap_succ (show k ≤ 1000000000 by omega)]
      refine ⟨k + 1, by omega, by omega, Sh.forget (by simp [go_sem]) ?_ rfl⟩
      have hx := mx_step (le4_len n) hpl h4
      simp only [List.getD_eq_getElem?_getD] at hx
      rw [fb_set _ _ _ (by simp; omega), hx]
    · rintro _ -
      dsimp only
      rcases ha with ⟨rfl, he⟩ | ⟨k, v, rfl, hv, hk⟩
      · refine Wp.s ?_
        simp -implicitDefEqProofs [go_sem]
        refine Wp.s ?_
        simp -implicitDefEqProofs [go_sem, IntWalk.i64_in (4 * (i : Int) + 4) ⟨by omega, by omega⟩]
        refine ⟨i + 1, .sl (.own V'.length 0) 8 [secC (secOf n p i)], V' ++ [0], ⟨by omega, .inr ⟨V'.length, 0, ?_, by simp, hv1⟩, by simp; omega, by rw [List.take_append_of_le_length hv1]; exact hv2⟩, by omega, Sh.trim (L := [some (fb (dataOf p))]) (by simp [go_sem, show 4 * (i : Int) + 4 = 4 * ((i : Int) + 1) by omega]) ?_ hokH (okL' _) (by simp; omega) (by simp) (List.take_of_length_le (Nat.le_refl _))⟩
        · rw [List.range_succ, List.map_append, he]; rfl
        · simp [go_sem]
      · refine Wp.s ?_
        simp -implicitDefEqProofs [go_sem, hv]
        refine ⟨by omega, Wp.s ?_⟩
        simp -implicitDefEqProofs [go_sem, IntWalk.i64_in (4 * (i : Int) + 4) ⟨by omega, by omega⟩]
        have hkv := (List.getElem?_eq_some_iff.1 hv).1
        have hap : ApS V.length ((List.range (i + 1)).map (secOf n p)) (.sl (.own k (v + 1)) 8 (((List.range i).map (secOf n p)).map secC ++ [secC (secOf n p i)])) (V'.set k (v + 1)) :=
          .inr ⟨k, v + 1, by rw [List.range_succ, List.map_append, List.map_append]; rfl, by rw [List.getElem?_set_self hkv], hk⟩
        refine ⟨i + 1, .sl (.own k (v + 1)) 8 (((List.range i).map (secOf n p)).map secC ++ [secC (secOf n p i)]), V'.set k (v + 1), ⟨by omega, hap, by simpa using hv1, by rw [List.take_set_of_le hk]; exact hv2⟩, by omega, Sh.trim (L := [some (fb (dataOf p))]) (by simp [go_sem, show 4 * (i : Int) + 4 = 4 * ((i : Int) + 1) by omega]) ?_ hokH (okL' _) (by simpa using hv1) (by simp) (List.take_of_length_le (Nat.le_refl _))⟩
        simp only [TOk_cons, TOk_nil]
        exact ⟨by simp [go_sem], by simp [go_sem], hap.ok, by simp [go_sem], trivial⟩
  · rintro ⟨cv, V'⟩ ⟨h1, h2, h3⟩
    dsimp only
    refine Wp.s ?_
    simp -implicitDefEqProofs [go_sem]
    exact Fin.pu h1.le (okV_secsV _ _ _) hokH (by simp) h3
end Go.Proofs.YtdiblbjchhjccaaDoor
namespace Go.Proofs.YtdiblbjchhjccaaDoor
open Go.Proofs
def zs (l : List UInt8) : Bool := l.all (· == 0)
/-- The zeros at the end are cut off. -/
def TR (l : List UInt8) (H : Hp) (V : List Nat) : CV → Hp → List Nat → Prop := fun r H' V' => ∃ m, m ≤ l.length ∧ r = .sl .sh 1 (bs (l.take m)) ∧ decide (0 < m) = !(zs l) ∧ H = H' ∧ V = V'
theorem trimB_cc (H : Hp) (V : List Nat) (tk : Tk) (l : List UInt8) (hl : l.length ≤ 1000000) : CC Tryd.prog 65 [.sl tk 1 (bs l), .v (.int .u8 0)] H V (TR l H V) := by
  refine CC.of_swp Tryd.func65 rfl (by kernel_rfl) (by rw [Tryd.ntmps65]; exact len_le _ _ rfl) fun hok hokH => ?_
  clear hok
  refine SWp.seq (Wp.s ?_)
  simp -implicitDefEqProofs [go_sem, args0]
  refine SWp.join (α := Nat) (fun m => ([(0, .sl .sh 1 (bs (l.take m)))], H, V)) (fun m => m ≤ l.length ∧ decide (0 < m) = !(zs l)) ?_ ?_
  · refine SWp.block ?_
    refine SWp.loop (α := Nat) (fun m => ([(0, .sl .sh 1 (bs (l.take m))), (1, .v (.int .u8 0))], H, V)) (fun m => m ≤ l.length ∧ zs (l.drop m) = true) (fun m => m) l.length ⟨Nat.le_refl _, by simp [zs]⟩ (Sh.forget (by simp [go_sem]) rfl rfl) ?_
    rintro m ⟨hm, hz⟩
    dsimp only
    have hlen : (l.take m).length = m := by simp; omega
    refine SWp.seq (Wp.s ?_)
    by_cases h0 : m = 0
    · subst h0
      simp -implicitDefEqProofs [go_sem, hlen]
      refine ⟨0, ⟨Nat.zero_le _, ?_⟩, Sh.forget (by simp [go_sem]) rfl rfl⟩
      simp at hz; rw [hz]; rfl
    have w1 : IntKind.i64.wrap ((m : Int) - 1) = ((m - 1 : Nat) : Int) := by rw [IntWalk.i64_in _ ⟨by omega, by omega⟩]; omega
    have hm1 : m - 1 < l.length := by omega
    simp -implicitDefEqProofs [go_sem, hlen, h0, w1, show 0 < m by omega, show m - 1 < m by omega]
    have hg : l.drop (m - 1) = l[m - 1] :: l.drop m := by
      have := List.drop_eq_getElem_cons hm1
      rwa [show m - 1 + 1 = m by omega] at this
    refine ⟨fun h => ?_, fun h => ?_⟩
    · refine SWp.block (Wp.s ?_)
      simp -implicitDefEqProofs [go_sem, hlen, w1]
      refine ⟨m - 1, ⟨by omega, ?_⟩, by omega, Sh.forget ?_ rfl rfl⟩
      · rw [hg, zs, List.all_cons, ← zs, hz, show l[m - 1] = 0 from UInt8.toNat_inj.1 h]; rfl
      · simp [go_sem, List.take_take, Nat.min_eq_left (show m - 1 ≤ m by omega)]
    · refine ⟨m, ⟨hm, ?_⟩, Sh.forget (by simp [go_sem]) rfl rfl⟩
      have : zs l = false := by
        rw [← Bool.not_eq_true]
        intro hq
        have := List.all_eq_true.1 hq l[m - 1] (List.getElem_mem hm1)
        exact h (by simpa using congrArg UInt8.toNat (eq_of_beq this))
      rw [this]; simp; omega
  · rintro m ⟨hm, hd⟩
    dsimp only
    refine Wp.s ?_
    simp -implicitDefEqProofs [go_sem]
    exact Fin.pure ⟨m, hm, rfl, hd, rfl, rfl⟩ (by simp) (by simp) (.refl _) (by rw [okV_sh, okBs_t]; trivial) hokH
theorem TrimRight_cc (H : Hp) (V : List Nat) (tk : Tk) (l : List UInt8) (hl : l.length ≤ 1000000) : CC Tryd.prog 59 [.sl tk 1 (bs l), .v (.string ⟨#[0]⟩)] H V (TR l H V) := by
  refine CC.of_swp Tryd.func59 rfl (by kernel_rfl) (by rw [Tryd.ntmps59]; exact len_le _ _ rfl) fun hok hokH => ?_
  clear hok
  refine SWp.seq (Wp.s ?_)
  simp -implicitDefEqProofs [go_sem, args0]
  refine SWp.seq (Wp.s ?_)
  by_cases h0 : l = []
  · subst h0
    simp -implicitDefEqProofs [go_sem]
    exact Fin.pure ⟨0, Nat.le_refl _, rfl, rfl, rfl, rfl⟩ (by simp) (by simp) (.sh _ _ _) (by rw [okV_sh, okBs_t]; trivial) hokH
  have hlp : 0 < l.length := List.length_pos_iff.2 h0
  simp -implicitDefEqProofs [go_sem, h0, show ¬ (l.length = 0) by omega]
  refine SWp.seq (Wp.s ?_)
  simp -implicitDefEqProofs [go_sem]
  refine ⟨fun h => ?_, fun h => absurd h (by decide)⟩
  refine CC.mono (trimB_cc _ _ _ l hl) ?_
  rintro _ _ _ ⟨m, h1, rfl, h2, rfl, rfl⟩
  simp -implicitDefEqProofs [go_sem]
  exact Fin.pure ⟨m, h1, rfl, h2, rfl, rfl⟩ (by simp) (by simp) (.refl _) (by rw [okV_sh, okBs_t]; trivial) hokH
theorem Equal_cc (H : Hp) (V : List Nat) (t1 t2 : Tk) (a b : List UInt8) : CC Tryd.prog 17 [.sl t1 1 (bs a), .sl t2 1 (bs b)] H V (Pu (cb (decide (a = b))) H V) := by
  refine CC.of_swp Tryd.func17 rfl (by kernel_rfl) (by rw [Tryd.ntmps17]; exact len_le _ _ rfl) fun hok hokH => ?_
  clear hok
  refine SWp.seq (Wp.s ?_)
  simp -implicitDefEqProofs [go_sem, args0]
  refine Wp.s ?_
  simp -implicitDefEqProofs [go_sem]
  exact Fin.bool (by by_cases h : a = b <;> simp [h]) hokH (by simp) (by simp)
theorem cap1_cc (H : Hp) (V : List Nat) : CC Tryd.prog 26 [] H V (Pu (ci 31) H V) := by
  refine CC.of_swp Tryd.func26 rfl (by kernel_rfl) (by rw [Tryd.ntmps26]; exact len_le _ _ rfl) fun hok hokH => ?_
  clear hok
  refine Wp.s ?_
  simp -implicitDefEqProofs [go_sem, args0]
  exact Fin.int rfl hokH (by simp) (by simp)
theorem cap2_cc (H : Hp) (V : List Nat) : CC Tryd.prog 28 [] H V (Pu (ci 31) H V) := by
  refine CC.of_swp Tryd.func28 rfl (by kernel_rfl) (by rw [Tryd.ntmps28]; exact len_le _ _ rfl) fun hok hokH => ?_
  clear hok
  refine Wp.s ?_
  simp -implicitDefEqProofs [go_sem, args0]
  exact Fin.int rfl hokH (by simp) (by simp)
theorem cloneBy_cc (H : Hp) (V : List Nat) (tk : Tk) (xs : List (List CV)) (hx : xs.length ≤ 1000000000) : CC Tryd.prog 32 [.sl tk 1 xs] H V (Fr 1 xs H V) := by
  refine CC.of_swp Tryd.func32 rfl (by kernel_rfl) (by rw [Tryd.ntmps32]; exact len_le _ _ rfl) fun hok hokH => Wp.s ?_
  simp [go_sem, args0]
  simp [okL, okV] at hok
  refine ⟨⟨by omega, ?_⟩, fun h => ?_⟩
  · exact Fin.fr hok.2 hokH (by simp)
  · exact Fin.frtok (by omega) (.inl ⟨rfl, h⟩) hok.2 hokH (by simp) (by simp)
end Go.Proofs.YtdiblbjchhjccaaDoor
namespace Go.Proofs.YtdiblbjchhjccaaDoor
open Go.Proofs
theorem SWp.scope {P : Program} {n nb nv : Nat} {c : Code} {Q : Exit → Tm → Hp → List Nat → Prop} {T : Tm} {H : Hp} {V : List Nat} (h : SWp P n nb nv c (scp Q) T H V) : SWp P n nb nv (.scope c) Q T H V := by
  intro ro D m w a m0 w0 V0 h1 h2 h3 hx hs
  refine wpIn_scope_straight (wpIn_mono (h ro D m w a m0 w0 V0 h1 h2 h3 hx hs) fun e a' w' ⟨T', H', V', m', k1, k2⟩ => ?_)
  cases e with
  | goto l => exact k1.elim
  | _ => exact ⟨T', H', V', m', k1, k2⟩
/-- Bytes that may be appended to. -/
def ApB (j : Nat) (l : List UInt8) (cv : CV) (V : List Nat) : Prop := (cv = .v (.slice none 0 0) ∧ l = []) ∨ ∃ k v, cv = .sl (.own k v) 1 (bs l) ∧ V[k]? = some v ∧ j ≤ k
theorem dataS_succ (l : List Sec) (i : Nat) (h : i < l.length) : dataS (l.take (i + 1)) = dataS (l.take i) ++ l[i].val.drop 4 := by
  rw [List.take_succ_eq_append_getElem h, dataS, List.flatMap_append]; simp [dataS]
theorem secC_drop4 (s : Sec) : chunks 1 4 ((secC s).drop 4) = bs (s.val.drop 4) := by
  have := fb_chunks (s.val.drop 4)
  rw [List.length_drop, s.len] at this
  have e : (secC s).drop 4 = fb (s.val.drop 4) := by rw [fb, List.map_drop]; rfl
  rw [e]; exact this
theorem get_cc (H : Hp) (V : List Nat) (tk : Tk) (l : List Sec) (hl : l.length = 8) : CC Tryd.prog 42 [.sl tk 8 (l.map secC)] H V (Pu (.agg [ci (parseS l).1, .sl .sh 1 (bs (parseS l).2), secsV l]) H V) := by
  refine CC.of_swp Tryd.func42 rfl (by kernel_rfl) (by rw [Tryd.ntmps42]; exact len_le _ _ rfl) fun hok hokH => ?_
  refine SWp.seq (Wp.s ?_)
  simp -implicitDefEqProofs [go_sem, args0]
  refine SWp.scope ?_
  refine SWp.seq (Wp.s ?_)
  simp -implicitDefEqProofs [go_sem]
  refine SWp.seq (Wp.s ?_)
  simp -implicitDefEqProofs [go_sem]
  refine SWp.seq (Wp.s ?_)
  simp -implicitDefEqProofs [go_sem]
  have h0 : l.getD 0 sec0 = l[0] := by rw [List.getD_eq_getElem?_getD, List.getElem?_eq_getElem (by omega)]; rfl
  refine SWp.join (α := CV × List Nat) (fun x => ([(2, .ptr H.length 0), (3, .ptr (H.length + 1) 0)], H ++ [some [ci 0, .v (.slice none 0 0), .v (.slice none 0 0)], some [ci (parseS l).1, x.1, .sl tk 8 (l.map secC)]], x.2))
    (fun x => Le x.1 (.sl .sh 1 (bs (parseS l).2)) ∧ x.1.one = true ∧ V.length ≤ x.2.length ∧ x.2.take V.length = V) ?_ ?_
  · refine SWp.block ?_
    refine SWp.loop (α := Unit) (fun _ => ([(0, .sl tk 8 (l.map secC)), (2, .ptr H.length 0), (3, .ptr (H.length + 1) 0), (4, .v (.slice none 0 0))], H ++ [some [ci 0, .v (.slice none 0 0), .v (.slice none 0 0)], some [ci 0, .v (.slice none 0 0), .sl tk 8 (l.map secC)]], V)) (fun _ => True) (fun _ => 0) () trivial (Sh.forget (by simp [go_sem]) (by simp) rfl) ?_
    rintro _ -
    dsimp only
    refine SWp.block ?_
    have inv : ∀ (T : Tm) (L : Hp) (V' : List Nat), parseS l = (0, []) → V.length ≤ V'.length → V'.take V.length = V → TLe T [(2, .ptr H.length 0), (3, .ptr (H.length + 1) 0)] →
      ∃ a b, (Le a (.sl .sh 1 (bs (parseS l).2)) ∧ a.one = true ∧ V.length ≤ b.length ∧ b.take V.length = V) ∧
        Sh 55 H.length V.length T (H ++ (some [ci 0, .v (.slice none 0 0), .v (.slice none 0 0)] :: some [ci 0, .v (.slice none 0 0), .sl tk 8 (l.map secC)] :: L)) V' ([(2, .ptr H.length 0), (3, .ptr (H.length + 1) 0)], H ++ [some [ci 0, .v (.slice none 0 0), .v (.slice none 0 0)], some [ci (parseS l).1, a, .sl tk 8 (l.map secC)]], b) := fun T L V' hp h1 h2 h3 => by
      refine ⟨.v (.slice none 0 0), V', ⟨by rw [hp]; exact .nil 1 (by decide), rfl, h1, h2⟩, ?_⟩
      rw [hp]
      refine Sh.trim (L := [some [ci 0, .v (.slice none 0 0), .v (.slice none 0 0)], some [ci 0, .v (.slice none 0 0), .sl tk 8 (l.map secC)]]) h3 (by simp [go_sem]) hokH ?_ h1 (by simp) (List.take_of_length_le (Nat.le_refl _))
      rw [okL] at hok
      rw [okH_some, okH_some, okL, okL, okL, okL, okL, okL]
      exact ⟨by simp [go_sem], ⟨by rw [okV]; trivial, by rw [okV]; trivial, okV_mono (by omega) h1 hok.1, trivial⟩, trivial⟩
    refine SWp.join (α := CV × List Nat) (fun x => ([(0, .sl tk 8 (l.map secC)), (2, .ptr H.length 0), (3, .ptr (H.length + 1) 0), (4, x.1)], H ++ [some [ci 0, .v (.slice none 0 0), .v (.slice none 0 0)], some [ci 0, .v (.slice none 0 0), .sl tk 8 (l.map secC)]], x.2))
      (fun x => (∃ k v, x.1 = .sl (.own k v) 1 (bs (dataS l)) ∧ x.2[k]? = some v ∧ V.length ≤ k) ∧ V.length ≤ x.2.length ∧ x.2.take V.length = V ∧ l.all (fun s => gn s == g0 l) = true) ?_ ?_
    · refine SWp.seq (Wp.s ?_)
      simp -implicitDefEqProofs [go_sem]
      refine SWp.block ?_
      refine SWp.loop (α := Nat × CV × List Nat) (fun x => ([(0, .sl tk 8 (l.map secC)), (2, .ptr H.length 0), (3, .ptr (H.length + 1) 0), (4, x.2.1), (10, .sl tk 8 (l.map secC)), (11, ci 8), (12, ci x.1)], H ++ [some [ci 0, .v (.slice none 0 0), .v (.slice none 0 0)], some [ci 0, .v (.slice none 0 0), .sl tk 8 (l.map secC)]], x.2.2))
        (fun x => x.1 ≤ 8 ∧ ApB V.length (dataS (l.take x.1)) x.2.1 x.2.2 ∧ V.length ≤ x.2.2.length ∧ x.2.2.take V.length = V ∧ (l.take x.1).all (fun s => gn s == g0 l) = true) (fun x => 8 - x.1) (0, .v (.slice none 0 0), V) ⟨by omega, .inl ⟨rfl, rfl⟩, Nat.le_refl _, by simp, rfl⟩ (Sh.forget (by simp [go_sem, hl]) (by simp) rfl) ?_
      rintro ⟨i, cv, V'⟩ ⟨hi, ha, hv1, hv2, hg⟩
      dsimp only at hi ha hv1 hv2 hg ⊢
      refine SWp.seq (Wp.s ?_)
      simp -implicitDefEqProofs [go_sem]
      refine SWp.seq (Wp.s ?_)
      simp -implicitDefEqProofs [go_sem]
      refine ⟨fun h => ?_, fun h => ?_⟩
      case refine_2 =>
        obtain rfl : i = 8 := by omega
        rw [List.take_of_length_le (by omega)] at ha hg
        rcases ha with ⟨rfl, he⟩ | ⟨k, v, rfl, hv, hk⟩
        · have := congrArg List.length he
          rw [dataS_len] at this; simp at this; omega
        · exact ⟨_, V', ⟨⟨k, v, rfl, hv, hk⟩, hv1, hv2, by simpa using hg⟩, Sh.forget (by simp [go_sem]) rfl rfl⟩
      have h8 : i < l.length := by omega
      refine SWp.seq (SWp.block (SWp.seq (Wp.s ?_)))
      simp -implicitDefEqProofs [go_sem, h8]
      refine SWp.seq (SWp.seq (SWp.drawnL [0, 2, 3, 4, 1, 5, 6] (by kernel_rfl) (by kernel_rfl) rfl ?_))
      simp -implicitDefEqProofs [go_sem, hl]
      refine CC.mono (generation_cc _ _ _) ?_
      rintro _ _ _ ⟨rfl, rfl, rfl⟩
      simp -implicitDefEqProofs [go_sem]
      refine CC.mono (generation_cc _ _ _) ?_
      rintro _ _ _ ⟨rfl, rfl, rfl⟩
      simp -implicitDefEqProofs [go_sem]
      refine Wp.s ?_
      by_cases hgi : gn l[i] = gn l[0]
      case neg =>
        have hp : parseS l = (0, []) := by
          rw [parseS, if_neg]
          intro hv
          rw [valid, Bool.and_eq_true] at hv
          have := List.all_eq_true.1 hv.1 _ (List.getElem_mem h8)
          rw [g0, h0] at this
          exact hgi (by simpa using this)
        simp -implicitDefEqProofs [go_sem, show ¬ ((gn l[i] : Int) = gn l[0]) by omega]
        exact inv _ [some (secC l[i])] V' hp hv1 hv2 (by simp [go_sem])
      simp -implicitDefEqProofs [go_sem, hgi]
      have hg' : (l.take (i + 1)).all (fun s => gn s == g0 l) = true := by
        rw [List.take_succ_eq_append_getElem h8, List.all_append, hg, g0, h0]
        simp [hgi]
      have hok2 : ∀ j, V.length ≤ j → okH (H.length + 2) j [some [ci 0, .v (.slice none 0 0), .v (.slice none 0 0)], some [ci 0, .v (.slice none 0 0), .sl tk 8 (l.map secC)]] := fun j h1 => by
        rw [okL] at hok
        rw [okH_some, okH_some, okL, okL, okL, okL, okL, okL]
        exact ⟨by simp [go_sem], ⟨by rw [okV]; trivial, by rw [okV]; trivial, okV_mono (by omega) h1 hok.1, trivial⟩, trivial⟩
      refine Wp.s ?_
      rcases ha with ⟨rfl, he⟩ | ⟨k, v, rfl, hv, hk⟩
      · simp -implicitDefEqProofs [go_sem, secC_drop4]
        have hap : ApB V.length (dataS (l.take (i + 1))) (.sl (.own V'.length 0) 1 (bs (l[i].val.drop 4))) (V' ++ [0]) := .inr ⟨V'.length, 0, by rw [dataS_succ _ _ h8, he]; rfl, by simp, hv1⟩
        refine ⟨by rw [l[i].len]; omega, Wp.s ?_⟩
        simp -implicitDefEqProofs [go_sem, wrap_succ (show i ≤ 1000000000 by omega)]
        refine ⟨i + 1, _, V' ++ [0], ⟨by omega, hap, by simp; omega, by rw [List.take_append_of_le_length hv1]; exact hv2, by simpa using hg'⟩, by omega, Sh.trim (L := [some [ci 0, .v (.slice none 0 0), .v (.slice none 0 0)], some [ci 0, .v (.slice none 0 0), .sl tk 8 (l.map secC)]]) (by simp [go_sem]) ?_ hokH (hok2 _ (by simp; omega)) (by simp; omega) (by simp) (List.take_of_length_le (Nat.le_refl _))⟩
        rw [okL] at hok
        simp only [TOk_cons, TOk_nil]
        exact ⟨okV_mono (by omega) (by simp; omega) hok.1, by simp [go_sem], by simp [go_sem], by simp [go_sem], okV_mono (by omega) (by simp; omega) hok.1, by simp [go_sem], by simp [go_sem], trivial⟩
      · simp -implicitDefEqProofs [go_sem, secC_drop4, hv]
        have hkv := (List.getElem?_eq_some_iff.1 hv).1
        have hap : ApB V.length (dataS (l.take (i + 1))) (.sl (.own k (v + 1)) 1 (bs (dataS (l.take i) ++ l[i].val.drop 4))) (V'.set k (v + 1)) := .inr ⟨k, v + 1, by rw [dataS_succ _ _ h8], by rw [List.getElem?_set_self hkv], hk⟩
        refine ⟨by rw [l[i].len, dataS_len, List.length_take]; omega, Wp.s ?_⟩
        simp -implicitDefEqProofs [go_sem, wrap_succ (show i ≤ 1000000000 by omega)]
        refine ⟨i + 1, _, V'.set k (v + 1), ⟨by omega, hap, by simpa using hv1, by rw [List.take_set_of_le hk]; exact hv2, by simpa using hg'⟩, by omega, Sh.trim (L := [some [ci 0, .v (.slice none 0 0), .v (.slice none 0 0)], some [ci 0, .v (.slice none 0 0), .sl tk 8 (l.map secC)]]) (by simp [go_sem]) ?_ hokH (hok2 _ (by simpa using hv1)) (by simpa using hv1) (by simp) (List.take_of_length_le (Nat.le_refl _))⟩
        rw [okL] at hok
        simp only [TOk_cons, TOk_nil]
        exact ⟨okV_mono (by omega) (by simpa using hv1) hok.1, by simp [go_sem], by simp [go_sem], by simp [go_sem, hkv], okV_mono (by omega) (by simpa using hv1) hok.1, by simp [go_sem], by simp [go_sem], trivial⟩
    · rintro ⟨cv, V'⟩ ⟨⟨k, v, rfl, hv, hk⟩, hv1, hv2, hg⟩
      dsimp only
      have hdl : (dataS l).length = 32 := by rw [dataS_len, hl]
      have hd0 : (dataS l).getD 0 0 = (dataS l)[0] := by rw [List.getD_eq_getElem?_getD, List.getElem?_eq_getElem (by omega)]; rfl
      have hg1 : gn l[0] = g0 l := by rw [g0, h0]
      refine SWp.seq (Wp.s ?_)
      simp -implicitDefEqProofs [go_sem, hdl]
      generalize hm : (dataS l)[0].toNat = m at *
      refine SWp.seq (Wp.s ?_)
      by_cases h31 : 31 < m
      · have hp : parseS l = (0, []) := by
          rw [parseS, if_neg]
          intro hv
          rw [valid, Bool.and_eq_true, okData, hd0, hm, Bool.and_eq_true, decide_eq_true_eq] at hv
          omega
        have hmw : IntKind.i64.wrap (m : Int) = m := by
          have := (dataS l)[0].toNat_lt
          exact IntWalk.i64_in _ ⟨by omega, by omega⟩
        simp -implicitDefEqProofs [go_sem, hmw, show (31 : Int) < m by omega]
        exact inv _ [] V' hp hv1 hv2 (by simp [go_sem])
      have hmw : IntKind.i64.wrap (m : Int) = m := IntWalk.i64_in _ ⟨by omega, by omega⟩
      have hm1 := wrap_succ (show m ≤ 1000000000 by omega)
      simp -implicitDefEqProofs [go_sem, hmw, hm1, show ¬ (31 : Int) < m by omega, hdl]
      refine ⟨by omega, by omega, CC.mono (TrimRight_cc _ _ _ _ (by rw [List.length_drop]; omega)) ?_⟩
      rintro _ _ _ ⟨q, hq1, rfl, hq, rfl, rfl⟩
      have hql : (((dataS l).drop (m + 1)).take q).length = q := by rw [List.length_take]; omega
      simp -implicitDefEqProofs [go_sem, hql]
      refine ⟨fun hq0 => ?_, fun hq0 => ?_⟩
      · have hp : parseS l = (0, []) := by
          rw [parseS, if_neg]
          intro hv
          rw [valid, Bool.and_eq_true, okData, hd0, hm, Bool.and_eq_true] at hv
          have hz := hv.2.2
          rw [← zs] at hz
          rw [hz] at hq
          simp at hq; omega
        exact inv _ [] V' hp hv1 hv2 (by simp [go_sem])
      · have hz : zs ((dataS l).drop (m + 1)) = true := by
          rcases hz : zs ((dataS l).drop (m + 1)) with - | -
          · rw [hz] at hq; simp at hq; omega
          · rfl
        have hp : parseS l = (g0 l, ((dataS l).drop 1).take m) := by
          rw [parseS, if_pos, pay, hd0, hm]
          rw [valid, hg, okData, hd0, hm]
          simp only [Bool.true_and, Bool.and_eq_true, decide_eq_true_eq]
          exact ⟨by omega, hz⟩
        refine SWp.seq (SWp.drawnT [] [10, 13] (.s 0 .pl <| .s 1 .pl <| .s 2 .ld <| .s 4 .pl <| .s 5 .pl <| .s 6 .pl <| .s 7 .pl <| .s 3 .pl <| .s 8 .pl <| .s 9 .pl <| .s 10 .st <| .s 11 .pl <| .s 12 .pl <| .s 13 .st <| .n) (by kernel_rfl) (by kernel_rfl) ?_)
        simp -implicitDefEqProofs [go_sem, hl, hm1, hdl]
        refine ⟨by omega, by omega, CC.mono (generation_cc _ _ _) ?_⟩
        rintro _ _ _ ⟨rfl, rfl, rfl⟩
        simp -implicitDefEqProofs [go_sem]
        have et : (bs ((dataS l).take (m + 1))).tail = bs (((dataS l).drop 1).take m) := by
          rw [← List.drop_one, bs_drop, List.drop_take, Nat.add_sub_cancel]
        refine Wp.s ?_
        simp -implicitDefEqProofs [go_sem]
        refine ⟨.sl .sh 1 (bs ((dataS l).take (m + 1))).tail, V', ⟨.of_eq (by rw [et, hp]), rfl, hv1, hv2⟩, Sh.forget (by simp [go_sem]) ?_ rfl⟩
        rw [hp, hg1]
  · rintro ⟨pv, V'⟩ ⟨h1, h2, h3, h4⟩
    dsimp only
    refine SWp.seq (Wp.s ?_)
    simp -implicitDefEqProofs [go_sem, h2]
    refine Wp.s ?_
    simp -implicitDefEqProofs [go_sem]
    refine Fin.pu (.agg (.cons (.refl _) (.cons h1 (.cons (.sh _ _ _) .nil)))) ?_ hokH (by simp) h4
    rw [okV_agg, okL, okL, okL, okL]
    exact ⟨by rw [okV]; trivial, by rw [okV_sh, okBs_t]; trivial, okV_secsV _ _ _, trivial⟩
end Go.Proofs.YtdiblbjchhjccaaDoor
