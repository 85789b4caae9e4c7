import Derived.Test.YtffjhibomipemaaW8
namespace Go.Proofs.Ytffjhibomipemaa
open Go.Proofs
@[go_sem] theorem hbx_c0 (cs : List CV) (H : Hp) (K : List CV → Prop) : hbx (some cs :: H) 0 K = K cs := id rfl
@[go_sem] theorem hbx_c1 (c : Option (List CV)) (H : Hp) (b : Nat) (K : List CV → Prop) : hbx (c :: H) (b + 1) K = hbx H b K := id rfl
theorem same_self (l : List UInt8) : same l l = true := by simp [same]
/-- An index, or -1: whether there is one. -/
def Ix (b : Bool) (H : Hp) (V : List Nat) : CV → Hp → List Nat → Prop := fun r H' V' => ∃ k : Int, r = ci k ∧ decide (0 ≤ k) = b ∧ H = H' ∧ V = V'
theorem Fin.ix {k : Int} {b : Bool} {H H' : Hp} {V V' : List Nat} (h : decide (0 ≤ k) = b) (hokH : ∀ (b : Nat) cs, H[b]? = some (some cs) → okL H.length V.length cs) (hH : H'.take H.length = H) (hV : V'.take V.length = V) : Fin H.length V.length (Ix b H V) (ci k) H' V' :=
  Fin.pure ⟨k, rfl, h, rfl, rfl⟩ hH hV (.refl _) trivial hokH
theorem any_take {α : Type} {p : α → Bool} {l : List α} {i : Nat} (h : i < l.length) (h1 : (l.take i).any p = false) (h2 : p l[i] = false) : (l.take (i + 1)).any p = false := by
  rw [List.take_succ_eq_append_getElem h, List.any_append, h1]; simp [h2]
theorem any_at {α : Type} {p : α → Bool} {l : List α} {i : Nat} (h : i < l.length) (h2 : p l[i] = true) : l.any p = true := List.any_eq_true.2 ⟨_, List.getElem_mem h, h2⟩

theorem indexInt_cc (H : Hp) (V : List Nat) (tk : Tk) (l : List Int) (g : Nat) (p : Int → Bool) (hg : ∀ (H : Hp) (V : List Nat) (a : Int), CC Try.prog g [ci a] H V (Pu (cb (p a)) H V)) (hl : l.length ≤ 900000000) :
    CC Try.prog 81 [.sl tk 1 (l.map ic), .fn g []] H V (Ix (l.any p) H V) := by
  refine CC.of_swp Try.func81 rfl (by kernel_rfl) (by rw [Try.ntmps81]; exact len_le _ _ rfl) fun hok hokH => ?_
  simp [go_sem, okV_slt] at hok
  refine SWp.seq (Wp.s ?_)
  simp -implicitDefEqProofs [go_sem, args0]
  refine SWp.join (α := Unit) (fun _ => ([], H, V)) (fun _ => l.any p = false) ?_ ?_
  · refine SWp.seq (Wp.s ?_)
    simp -implicitDefEqProofs [go_sem]
    refine SWp.block ?_
    refine SWp.loop (α := Nat) (fun i => ([(0, .sl tk 1 (l.map ic)), (1, .fn g []), (7, ci l.length), (8, ci i)], H, V)) (fun i => i ≤ l.length ∧ (l.take i).any p = false) (fun i => l.length - i) 0 ⟨Nat.zero_le _, rfl⟩
      (Sh.forget (by simp [go_sem]) rfl rfl) ?_
    rintro i ⟨hi, hp⟩
    dsimp only
    refine Wp.s ?_
    simp -implicitDefEqProofs [go_sem]
    refine ⟨fun h => ⟨h, ?_⟩, fun h => ⟨?_, Sh.forget (by simp [go_sem]) rfl rfl⟩⟩
    · refine CC.mono (hg _ _ _) ?_
      rintro _ _ _ ⟨rfl, rfl, rfl⟩
      rcases hq : p l[i] with - | -
      · simp -implicitDefEqProofs [go_sem]
        refine ⟨i + 1, ⟨by omega, by simpa using any_take h hp hq⟩, by omega, Sh.forget ?_ rfl rfl⟩
        simp [go_sem, wrap_succ (show i ≤ 1000000000 by omega)]
      · simp -implicitDefEqProofs [go_sem]
        exact Fin.ix (by rw [any_at h hq]; simp) hokH (by simp) (by simp)
    · rw [List.take_of_length_le h] at hp; simpa using hp
  · rintro _ hp
    dsimp only
    refine Wp.s ?_
    simp -implicitDefEqProofs [go_sem]
    exact Fin.ix (by rw [hp]; rfl) hokH (by simp) (by simp)
theorem containsInt_cc (H : Hp) (V : List Nat) (tk : Tk) (l : List Int) (g : Nat) (p : Int → Bool) (hg : ∀ (H : Hp) (V : List Nat) (a : Int), CC Try.prog g [ci a] H V (Pu (cb (p a)) H V)) (hl : l.length ≤ 900000000) :
    CC Try.prog 45 [.sl tk 1 (l.map ic), .fn g []] H V (Pu (cb (l.any p)) H V) := by
  refine CC.of_swp Try.func45 rfl (by kernel_rfl) (by rw [Try.ntmps45]; exact len_le _ _ rfl) fun hok hokH => Wp.s ?_
  simp -implicitDefEqProofs [go_sem, args0]
  refine CC.mono (indexInt_cc _ _ _ _ _ _ hg hl) ?_
  rintro _ _ _ ⟨k, rfl, hk, rfl, rfl⟩
  simp -implicitDefEqProofs [go_sem]
  exact Fin.bool hk hokH (by simp) (by simp)

theorem indexExt_cc (H : Hp) (V : List Nat) (tk : Tk) (l : List Ext2) (g : Nat) (p : Ext2 → Bool) (hg : ∀ (H : Hp) (V : List Nat) (a : Ext2), CC Try.prog g [.agg (extC a)] H V (Pu (cb (p a)) H V)) (hl : l.length ≤ 900000000) :
    CC Try.prog 82 [.sl tk 2 (l.map extC), .fn g []] H V (Ix (l.any p) H V) := by
  refine CC.of_swp Try.func82 rfl (by kernel_rfl) (by rw [Try.ntmps82]; exact len_le _ _ rfl) fun hok hokH => ?_
  simp [go_sem, okV_slt] at hok
  refine SWp.seq (Wp.s ?_)
  simp -implicitDefEqProofs [go_sem, args0]
  refine SWp.join (α := Unit) (fun _ => ([], H, V)) (fun _ => l.any p = false) ?_ ?_
  · refine SWp.seq (Wp.s ?_)
    simp -implicitDefEqProofs [go_sem]
    refine SWp.block ?_
    refine SWp.loop (α := Nat) (fun i => ([(0, .sl tk 2 (l.map extC)), (1, .fn g []), (7, ci l.length), (8, ci i)], H, V)) (fun i => i ≤ l.length ∧ (l.take i).any p = false) (fun i => l.length - i) 0 ⟨Nat.zero_le _, rfl⟩
      (Sh.forget (by simp [go_sem]) rfl rfl) ?_
    rintro i ⟨hi, hp⟩
    dsimp only
    refine Wp.s ?_
    simp -implicitDefEqProofs [go_sem]
    refine ⟨fun h => ⟨h, ?_⟩, fun h => ⟨?_, Sh.forget (by simp [go_sem]) rfl rfl⟩⟩
    · refine CC.mono (hg _ _ _) ?_
      rintro _ _ _ ⟨rfl, rfl, rfl⟩
      rcases hq : p l[i] with - | -
      · simp -implicitDefEqProofs [go_sem]
        refine ⟨i + 1, ⟨by omega, by simpa using any_take h hp hq⟩, by omega, Sh.forget ?_ rfl rfl⟩
        simp [go_sem, wrap_succ (show i ≤ 1000000000 by omega)]
      · simp -implicitDefEqProofs [go_sem]
        exact Fin.ix (by rw [any_at h hq]; simp) hokH (by simp) (by simp)
    · rw [List.take_of_length_le h] at hp; simpa using hp
  · rintro _ hp
    dsimp only
    refine Wp.s ?_
    simp -implicitDefEqProofs [go_sem]
    exact Fin.ix (by rw [hp]; rfl) hokH (by simp) (by simp)
theorem containsExt_cc (H : Hp) (V : List Nat) (tk : Tk) (l : List Ext2) (g : Nat) (p : Ext2 → Bool) (hg : ∀ (H : Hp) (V : List Nat) (a : Ext2), CC Try.prog g [.agg (extC a)] H V (Pu (cb (p a)) H V)) (hl : l.length ≤ 900000000) :
    CC Try.prog 47 [.sl tk 2 (l.map extC), .fn g []] H V (Pu (cb (l.any p)) H V) := by
  refine CC.of_swp Try.func47 rfl (by kernel_rfl) (by rw [Try.ntmps47]; exact len_le _ _ rfl) fun hok hokH => Wp.s ?_
  simp -implicitDefEqProofs [go_sem, args0]
  refine CC.mono (indexExt_cc _ _ _ _ _ _ hg hl) ?_
  rintro _ _ _ ⟨k, rfl, hk, rfl, rfl⟩
  simp -implicitDefEqProofs [go_sem]
  exact Fin.bool hk hokH (by simp) (by simp)

theorem indexWr_cc (H : Hp) (V : List Nat) (tk : Tk) (l : List Wr) (g : Nat) (p : Wr → Bool) (hg : ∀ (H : Hp) (V : List Nat) (a : Wr), CC Try.prog g [.agg (wrC a)] H V (Pu (cb (p a)) H V)) (hl : l.length ≤ 900000000) :
    CC Try.prog 83 [.sl tk 3 (l.map wrC), .fn g []] H V (Ix (l.any p) H V) := by
  refine CC.of_swp Try.func83 rfl (by kernel_rfl) (by rw [Try.ntmps83]; exact len_le _ _ rfl) fun hok hokH => ?_
  simp [go_sem, okV_slt] at hok
  refine SWp.seq (Wp.s ?_)
  simp -implicitDefEqProofs [go_sem, args0]
  refine SWp.join (α := Unit) (fun _ => ([], H, V)) (fun _ => l.any p = false) ?_ ?_
  · refine SWp.seq (Wp.s ?_)
    simp -implicitDefEqProofs [go_sem]
    refine SWp.block ?_
    refine SWp.loop (α := Nat) (fun i => ([(0, .sl tk 3 (l.map wrC)), (1, .fn g []), (7, ci l.length), (8, ci i)], H, V)) (fun i => i ≤ l.length ∧ (l.take i).any p = false) (fun i => l.length - i) 0 ⟨Nat.zero_le _, rfl⟩
      (Sh.forget (by simp [go_sem]) rfl rfl) ?_
    rintro i ⟨hi, hp⟩
    dsimp only
    refine Wp.s ?_
    simp -implicitDefEqProofs [go_sem]
    refine ⟨fun h => ⟨h, ?_⟩, fun h => ⟨?_, Sh.forget (by simp [go_sem]) rfl rfl⟩⟩
    · refine CC.mono (hg _ _ _) ?_
      rintro _ _ _ ⟨rfl, rfl, rfl⟩
      rcases hq : p l[i] with - | -
      · simp -implicitDefEqProofs [go_sem]
        refine ⟨i + 1, ⟨by omega, by simpa using any_take h hp hq⟩, by omega, Sh.forget ?_ rfl rfl⟩
        simp [go_sem, wrap_succ (show i ≤ 1000000000 by omega)]
      · simp -implicitDefEqProofs [go_sem]
        exact Fin.ix (by rw [any_at h hq]; simp) hokH (by simp) (by simp)
    · rw [List.take_of_length_le h] at hp; simpa using hp
  · rintro _ hp
    dsimp only
    refine Wp.s ?_
    simp -implicitDefEqProofs [go_sem]
    exact Fin.ix (by rw [hp]; rfl) hokH (by simp) (by simp)
theorem containsWr_cc (H : Hp) (V : List Nat) (tk : Tk) (l : List Wr) (g : Nat) (p : Wr → Bool) (hg : ∀ (H : Hp) (V : List Nat) (a : Wr), CC Try.prog g [.agg (wrC a)] H V (Pu (cb (p a)) H V)) (hl : l.length ≤ 900000000) :
    CC Try.prog 49 [.sl tk 3 (l.map wrC), .fn g []] H V (Pu (cb (l.any p)) H V) := by
  refine CC.of_swp Try.func49 rfl (by kernel_rfl) (by rw [Try.ntmps49]; exact len_le _ _ rfl) fun hok hokH => Wp.s ?_
  simp -implicitDefEqProofs [go_sem, args0]
  refine CC.mono (indexWr_cc _ _ _ _ _ _ hg hl) ?_
  rintro _ _ _ ⟨k, rfl, hk, rfl, rfl⟩
  simp -implicitDefEqProofs [go_sem]
  exact Fin.bool hk hokH (by simp) (by simp)

theorem few1_cc (H : Hp) (V : List Nat) (x : Wr) : CC Try.prog 53 [.agg (wrC x)] H V (Pu (cb (decide (20 < x.data.length))) H V) := by
  refine CC.of_swp Try.func53 rfl (by kernel_rfl) (by rw [Try.ntmps53]; exact len_le _ _ rfl) fun hok hokH => Wp.s ?_
  simp -implicitDefEqProofs [go_sem, args0]
  exact Fin.bool (decide_eq_decide.2 (by omega)) hokH (by simp) (by simp)
structure Vals where
  ints : List Int
  secs : List Sec
  exts : List Ext2
  wrs : List Wr
def valC (x : Vals) : List CV := [.sl .sh 1 (x.ints.map ic), .sl .sh 8 (x.secs.map secC), .sl .sh 2 (x.exts.map extC), .sl .sh 3 (x.wrs.map wrC)]
@[go_sem, simp] theorem valC_len (x : Vals) : (valC x).length = 4 := by rw [valC]; rfl
@[go_sem, simp] theorem valC_take (x : Vals) : (valC x).take 4 = valC x := rfl
@[go_sem, simp] theorem valC_all (x : Vals) : allOne (valC x) = true := rfl
@[go_sem, simp] theorem valC_0 (x : Vals) (h : 0 < (valC x).length) : (valC x)[0] = .sl .sh 1 (x.ints.map ic) := rfl
@[go_sem, simp] theorem valC_1 (x : Vals) (h : 1 < (valC x).length) : (valC x)[1] = .sl .sh 8 (x.secs.map secC) := rfl
@[go_sem, simp] theorem valC_2 (x : Vals) (h : 2 < (valC x).length) : (valC x)[2] = .sl .sh 2 (x.exts.map extC) := rfl
@[go_sem, simp] theorem valC_3 (x : Vals) (h : 3 < (valC x).length) : (valC x)[3] = .sl .sh 3 (x.wrs.map wrC) := rfl
@[go_sem] theorem okL_valC (jb jv : Nat) (x : Vals) : okL jb jv (valC x) = True := by simp [valC, okL, okV, okTk, okE_wrs, okE_ints, okE_secs, okE_exts]
/-- Few values. -/
def few (x : Vals) : Bool := decide (x.ints.length ≤ 40) && decide (x.secs.length ≤ 40) && decide (x.exts.length ≤ 40) && decide (x.wrs.length ≤ 20) && !(x.wrs.any fun w => decide (20 < w.data.length))
theorem few_cc (H : Hp) (V : List Nat) (x : Vals) : CC Try.prog 20 [.agg (valC x)] H V (Pu (cb (few x)) H V) := by
  refine CC.of_swp Try.func20 rfl (by kernel_rfl) (by rw [Try.ntmps20]; exact len_le _ _ rfl) fun hok hokH => ?_
  refine SWp.seq (Wp.s ?_)
  simp -implicitDefEqProofs [go_sem, args0]
  refine Wp.s ?_
  by_cases h1 : x.ints.length ≤ 40
  · by_cases h2 : x.secs.length ≤ 40
    · by_cases h3 : x.exts.length ≤ 40
      · by_cases h4 : x.wrs.length ≤ 20
        · simp -implicitDefEqProofs [go_sem, show (x.ints.length : Int) ≤ 40 by omega, show (x.secs.length : Int) ≤ 40 by omega, show (x.exts.length : Int) ≤ 40 by omega, show (x.wrs.length : Int) ≤ 20 by omega]
          refine CC.mono (containsWr_cc _ _ _ _ _ _ few1_cc (by omega)) ?_
          rintro _ _ _ ⟨rfl, rfl, rfl⟩
          simp -implicitDefEqProofs [go_sem]
          exact Fin.bool (by simp only [few, h1, h2, h3, h4, decide_true, Bool.true_and]) hokH (by simp) (by simp)
        · simp -implicitDefEqProofs [go_sem, show (x.ints.length : Int) ≤ 40 by omega, show (x.secs.length : Int) ≤ 40 by omega, show (x.exts.length : Int) ≤ 40 by omega, show ¬ (x.wrs.length : Int) ≤ 20 by omega]
          exact Fin.bool (by simp [few, h4]) hokH (by simp) (by simp)
      · simp -implicitDefEqProofs [go_sem, show (x.ints.length : Int) ≤ 40 by omega, show (x.secs.length : Int) ≤ 40 by omega, show ¬ (x.exts.length : Int) ≤ 40 by omega]
        exact Fin.bool (by simp [few, h3]) hokH (by simp) (by simp)
    · simp -implicitDefEqProofs [go_sem, show (x.ints.length : Int) ≤ 40 by omega, show ¬ (x.secs.length : Int) ≤ 40 by omega]
      exact Fin.bool (by simp [few, h2]) hokH (by simp) (by simp)
  · simp -implicitDefEqProofs [go_sem, show ¬ (x.ints.length : Int) ≤ 40 by omega]
    exact Fin.bool (by simp [few, h1]) hokH (by simp) (by simp)
end Go.Proofs.Ytffjhibomipemaa
