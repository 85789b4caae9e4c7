import Derived.Test.YtpadnceoacbaeaaA5
import Derived.Test.YtpadnceoacbaeaaA3
import Derived.ProofKit
import Derived.OpenShut
import Derived.Below
import Derived.Test.YtpadnceoacbaeaaA4
import Derived.Test.YtpadnceoacbaeaaProg
set_option linter.unusedSimpArgs false
set_option linter.unusedVariables false
set_option linter.unusedSectionVars false
namespace Go.Proofs.Ytpadnceoacbaeaa
open Go.Proofs
/-! ### Sorting what is sorted -/
theorem nan_cc (H : Hp) (V : List Nat) (a : Int) : CC Try.prog 97 [ci a] H V (Pu (cb false) H V) := by
  refine CC.of_swp Try.func97 rfl (by kernel_rfl) (by rw [Try.ntmps97]; exact len_le _ _ rfl) fun hok hokH => ?_
  clear hok
  refine SWp.seq (Wp.s ?_)
  simp -implicitDefEqProofs [go_sem, args0]
  refine Wp.s ?_
  simp -implicitDefEqProofs [go_sem]
  exact Fin.bool rfl hokH (by simp) (by simp)
theorem less_cc (H : Hp) (V : List Nat) (a b : Int) : CC Try.prog 84 [ci a, ci b] H V (Pu (cb (decide (a < b))) H V) := by
  refine CC.of_swp Try.func84 rfl (by kernel_rfl) (by rw [Try.ntmps84]; exact len_le _ _ rfl) fun hok hokH => ?_
  clear hok
  refine SWp.seq (Wp.s ?_)
  simp -implicitDefEqProofs [go_sem, args0]
  refine SWp.seq (Wp.s ?_)
  simp -implicitDefEqProofs [go_sem]
  refine CC.mono (nan_cc _ _ a) ?_
  rintro _ _ _ ⟨rfl, rfl, rfl⟩
  simp -implicitDefEqProofs [go_sem]
  refine Wp.s ?_
  simp -implicitDefEqProofs [go_sem]
  exact Fin.bool rfl hokH (by simp) (by simp)
theorem ins_cc (H : Hp) (V : List Nat) (tk : Tk) (l : List Int) (hl : l.length ≤ 1000000) (hs : ∀ i (h : i + 1 < l.length), l[i] ≤ l[i + 1]) : CC Try.prog 78 [.sl tk 1 (l.map ic), ci 0, ci l.length] H V (Pu (.tup []) H V) := by
  refine CC.of_swp Try.func78 rfl (by kernel_rfl) (by rw [Try.ntmps78]; exact len_le _ _ rfl) fun hok hokH => ?_
  clear hok
  have w0 : IntKind.i64.wrap 1 = 1 := by kernel_rfl
  refine SWp.seq (Wp.s ?_)
  simp -implicitDefEqProofs [go_sem, args0]
  refine SWp.block ?_
  refine SWp.loop (α := Nat) (fun i => ([(0, .sl tk 1 (l.map ic)), (1, ci 0), (2, ci l.length), (6, ci i)], H, V)) (fun i => 1 ≤ i) (fun i => l.length - i) 1 (Nat.le_refl _) (Sh.forget (by simp [go_sem, w0]) rfl rfl) ?_
  intro i hi
  dsimp only
  refine SWp.seq (SWp.seq (Wp.s ?_))
  simp -implicitDefEqProofs [go_sem]
  refine Wp.s ?_
  simp -implicitDefEqProofs [go_sem]
  refine ⟨fun h => ?_, fun h => ?_⟩
  case refine_2 => exact Fin.self ⟨rfl, rfl, rfl⟩
  refine SWp.seq (SWp.block (SWp.seq (Wp.s ?_)))
  simp -implicitDefEqProofs [go_sem]
  refine SWp.block ?_
  refine SWp.loop (α := Unit) (fun _ => ([(0, .sl tk 1 (l.map ic)), (1, ci 0), (2, ci l.length), (6, ci i), (7, ci i)], H, V)) (fun _ => True) (fun _ => 0) () trivial (Sh.forget (by simp [go_sem]) rfl rfl) ?_
  rintro _ -
  dsimp only
  obtain ⟨j, rfl⟩ : ∃ j, i = j + 1 := ⟨i - 1, by omega⟩
  have hj : j < l.length := by omega
  have hle := hs j h
  have w1 : IntKind.i64.wrap (j : Int) = j := IntWalk.i64_in _ ⟨by omega, by omega⟩
  have w2 : IntKind.i64.wrap ((j : Int) + 1 + 1) = ((j + 1 + 1 : Nat) : Int) := by
    rw [show (j : Int) + 1 + 1 = ((j + 1 + 1 : Nat) : Int) by omega]
    exact IntWalk.i64_in _ ⟨by omega, by omega⟩
  refine SWp.seq (SWp.seq (SWp.drawnT [] [] (.s 0 .pl <| .s 1 .pl <| .s 2 .pl <| .s 3 .pl <| .s 4 .pl <| .s 5 .pl <| .s 6 .pl <| .s 7 .pl <| .s 8 .pl <| .s 9 .pl <| .s 10 .pl <| .s 11 .pl <| .s 12 .pl <| .s 13 .pl <| .s 14 .pl <| .n) (by kernel_rfl) (by kernel_rfl) ?_))
  simp -implicitDefEqProofs [go_sem, h, hj, w1, show (0 : Int) < (j : Int) + 1 by omega, show (0 : Int) ≤ (j : Int) + 1 by omega]
  refine CC.mono (less_cc _ _ l[j + 1] l[j]) ?_
  rintro _ _ _ ⟨rfl, rfl, rfl⟩
  simp -implicitDefEqProofs [go_sem, show ¬ (l[j + 1] < l[j]) by omega]
  refine Wp.s ?_
  simp -implicitDefEqProofs [go_sem]
  refine Wp.s ?_
  simp -implicitDefEqProofs [go_sem]
  refine ⟨j + 1 + 1, by omega, by omega, Sh.forget ?_ rfl rfl⟩
  simp [go_sem, w2]
theorem len64_cc (H : Hp) (V : List Nat) (n : Nat) (h : n < 256) : CC Try.prog 88 [.v (.int .u64 (n : Int))] H V (fun r H' V' => (∃ k : Int, r = ci k) ∧ H = H' ∧ V = V') := by
  refine CC.of_swp Try.func88 rfl (by kernel_rfl) (by rw [Try.ntmps88]; exact len_le _ _ rfl) fun hok hokH => ?_
  clear hok
  have w1 : IntKind.u8.wrap (n : Int) = n := by rw [IntKind.wrap_u8]; omega
  refine SWp.seq (Wp.s ?_)
  simp -implicitDefEqProofs [go_sem, args0]
  generalize hX : ByteArray.mk _ = X
  have hsz : Nat.ble 256 X.size = true := by rw [← hX]; kernel_rfl
  have hsz' : n < X.size := Nat.lt_of_lt_of_le h (Nat.le_of_ble_eq_true hsz)
  clear hX
  refine SWp.seq (SWp.seq (Wp.s ?_))
  simp -implicitDefEqProofs [go_sem, show ¬ (4294967296 : Int) ≤ n by omega]
  refine Wp.s ?_
  simp -implicitDefEqProofs [go_sem]
  refine SWp.seq (SWp.seq (Wp.s ?_))
  simp -implicitDefEqProofs [go_sem, show ¬ (65536 : Int) ≤ n by omega]
  refine Wp.s ?_
  simp -implicitDefEqProofs [go_sem]
  refine SWp.seq (SWp.seq (Wp.s ?_))
  simp -implicitDefEqProofs [go_sem, show ¬ (256 : Int) ≤ n by omega]
  refine Wp.s ?_
  simp -implicitDefEqProofs [go_sem]
  refine SWp.seq (Wp.s ?_)
  simp -implicitDefEqProofs [go_sem, w1, hsz']
  refine Wp.s ?_
  simp -implicitDefEqProofs [go_sem]
  exact Fin.cut H.length V.length ⟨⟨_, rfl⟩, rfl, rfl⟩ (Nat.le_refl _) (Nat.le_refl _) (by simp) (by simp) (.refl _) (by simp [go_sem]) hokH
theorem len_cc (H : Hp) (V : List Nat) (n : Nat) (h : n < 256) : CC Try.prog 63 [.v (.int .u64 (n : Int))] H V (fun r H' V' => (∃ k : Int, r = ci k) ∧ H = H' ∧ V = V') := by
  refine CC.of_swp Try.func63 rfl (by kernel_rfl) (by rw [Try.ntmps63]; exact len_le _ _ rfl) fun hok hokH => ?_
  clear hok
  refine SWp.seq (Wp.s ?_)
  simp -implicitDefEqProofs [go_sem, args0]
  refine Wp.s ?_
  simp -implicitDefEqProofs [go_sem]
  refine CC.mono (len64_cc _ _ n h) ?_
  rintro _ _ _ ⟨⟨k, rfl⟩, rfl, rfl⟩
  simp -implicitDefEqProofs [go_sem]
  exact Fin.cut H.length V.length ⟨⟨_, rfl⟩, rfl, rfl⟩ (Nat.le_refl _) (Nat.le_refl _) (by simp) (by simp) (.refl _) (by simp [go_sem]) hokH
theorem pdq_cc (H : Hp) (V : List Nat) (tk : Tk) (l : List Int) (k : Int) (hl : l.length ≤ 12) (hs : ∀ i (h : i + 1 < l.length), l[i] ≤ l[i + 1]) : CC Try.prog 62 [.sl tk 1 (l.map ic), ci 0, ci l.length, ci k] H V (Pu (.tup []) H V) := by
  refine CC.of_swp Try.func62 rfl (by kernel_rfl) (by rw [Try.ntmps62]; exact len_le _ _ rfl) fun hok hokH => ?_
  clear hok
  refine SWp.seq (Wp.s ?_)
  simp -implicitDefEqProofs [go_sem, args0]
  refine SWp.seq (Wp.s ?_)
  simp -implicitDefEqProofs [go_sem]
  refine SWp.block ?_
  refine SWp.loop (α := Unit) (fun _ => ([(0, .sl tk 1 (l.map ic)), (1, ci 0), (2, ci l.length)], H, V)) (fun _ => True) (fun _ => 0) () trivial (Sh.forget (by simp [go_sem]) rfl rfl) ?_
  rintro _ -
  dsimp only
  refine SWp.block ?_
  have w1 : IntKind.i64.wrap (l.length : Int) = l.length := IntWalk.i64_in _ ⟨by omega, by omega⟩
  refine SWp.seq (Wp.s ?_)
  simp -implicitDefEqProofs [go_sem, w1]
  refine SWp.seq (SWp.seq (Wp.s ?_))
  simp -implicitDefEqProofs [go_sem, show (l.length : Int) ≤ 12 by omega]
  refine Wp.s ?_
  simp -implicitDefEqProofs [go_sem]
  refine CC.mono (ins_cc _ _ tk l (by omega) hs) ?_
  rintro _ _ _ ⟨rfl, rfl, rfl⟩
  simp -implicitDefEqProofs [go_sem]
  exact Fin.self ⟨rfl, rfl, rfl⟩
theorem sort_cc (H : Hp) (V : List Nat) (tk : Tk) (l : List Int) (hl : l.length ≤ 12) (hs : ∀ i (h : i + 1 < l.length), l[i] ≤ l[i + 1]) : CC Try.prog 40 [.sl tk 1 (l.map ic)] H V (Pu (.tup []) H V) := by
  refine CC.of_swp Try.func40 rfl (by kernel_rfl) (by rw [Try.ntmps40]; exact len_le _ _ rfl) fun hok hokH => ?_
  clear hok
  have w1 : IntKind.u64.wrap (l.length : Int) = l.length := by rw [IntKind.wrap_u64]; omega
  refine SWp.seq (Wp.s ?_)
  simp -implicitDefEqProofs [go_sem, args0]
  refine Wp.s ?_
  simp -implicitDefEqProofs [go_sem, w1]
  refine CC.mono (len_cc _ _ l.length (by omega)) ?_
  rintro _ _ _ ⟨⟨k, rfl⟩, rfl, rfl⟩
  simp -implicitDefEqProofs [go_sem]
  refine CC.mono (pdq_cc _ _ tk l k hl hs) ?_
  rintro _ _ _ ⟨rfl, rfl, rfl⟩
  simp -implicitDefEqProofs [go_sem]
  exact Fin.self ⟨rfl, rfl, rfl⟩
theorem sortNil_cc (H : Hp) (V : List Nat) : CC Try.prog 40 [.v (.slice none 0 0)] H V (Pu (.tup []) H V) :=
  CC.le (.cons (.nil 1 (by decide)) .nil) (sort_cc H V .sh [] (by simp) (fun i h => by simp at h))
end Go.Proofs.Ytpadnceoacbaeaa
namespace Go.Proofs.Ytpadnceoacbaeaa
open Go.Proofs
section
variable (n : Int) (app : List Int) (lost : List Bool)
@[simp] theorem markU_len : ∀ i, (markU n app lost i).length = lost.length
  | 0 => rfl
  | i + 1 => by
    rw [markU]
    split
    · rw [List.length_set, markU_len i]
    · exact markU_len i
theorem markU_get : ∀ (i j : Nat), i ≤ j → (markU n app lost i)[j]? = lost[j]?
  | 0, j, _ => rfl
  | i + 1, j, h => by
    rw [markU]
    split
    · rw [List.getElem?_set_ne (by omega), markU_get i j (by omega)]
    · exact markU_get i j (by omega)
theorem markU_lt : ∀ (i j : Nat), j < i → (markU n app lost i)[j]? = (lost[j]?).map fun b => b || decide (app[j]? = some n)
  | i + 1, j, h => by
    rw [markU]
    by_cases e : j = i
    · subst e
      split
      · rename_i q
        rw [List.getElem?_set, if_pos rfl, markU_len]
        by_cases hl : j < lost.length
        · rw [if_pos hl, List.getElem?_eq_getElem hl]; simp [q]
        · rw [if_neg hl, List.getElem?_eq_none (l := lost) (by omega)]; rfl
      · rename_i q
        rw [markU_get _ _ _ j j (Nat.le_refl _)]
        cases lost[j]? <;> simp [q]
    · split
      · rw [List.getElem?_set_ne (by omega), markU_lt i j (by omega)]
      · exact markU_lt i j (by omega)
theorem markU_keep {i : Nat} (h : lost[i]? = some true) : (markU n app lost i).set i true = markU n app lost i := by
  refine List.ext_getElem? fun j => ?_
  by_cases e : i = j
  · subst e
    rw [List.getElem?_set, if_pos rfl, markU_get _ _ _ _ _ (Nat.le_refl _), h, if_pos]
    rw [markU_len]; exact (List.getElem?_eq_some_iff.1 h).1
  · rw [List.getElem?_set_ne e]
theorem lostU_le : ∀ i, (lostU n app lost i).length ≤ i
  | 0 => Nat.le_refl _
  | i + 1 => by
    have := lostU_le i
    rw [lostU]
    split
    · rw [List.length_append, List.length_singleton]; omega
    · omega
theorem lostU_lt : ∀ i, ∀ x ∈ lostU n app lost i, x < i
  | 0, x, h => by cases h
  | i + 1, x, h => by
    rw [lostU] at h
    split at h
    · rcases List.mem_append.1 h with h | h
      · have := lostU_lt i x h; omega
      · rw [List.mem_singleton] at h; omega
    · have := lostU_lt i x h; omega
def Srt (l : List Int) : Prop := ∀ i (h : i + 1 < l.length), l[i] ≤ l[i + 1]
theorem lostU_srt : ∀ i, Srt (lostU n app lost i)
  | 0 => fun i h => by simp [lostU] at h
  | i + 1 => by
    rw [lostU]
    split
    · intro k h
      rw [List.length_append, List.length_singleton] at h
      by_cases e : k + 1 = (lostU n app lost i).length
      · have hk : k < (lostU n app lost i).length := by omega
        rw [List.getElem_append_left hk, List.getElem_append_right (by omega)]
        have := lostU_lt n app lost i _ (List.getElem_mem hk)
        simp only [List.getElem_singleton]
        omega
      · rw [List.getElem_append_left (by omega), List.getElem_append_left (by omega)]
        exact lostU_srt i k (by omega)
    · exact lostU_srt i
end
theorem leastI_mem : ∀ (l : List (Int × Bool)) (z : Int), l.foldl leastS z = z ∨ ∃ x ∈ l, x.2 = false ∧ l.foldl leastS z = x.1
  | [], z => .inl rfl
  | x :: l, z => by
    rw [List.foldl_cons]
    rcases leastI_mem l (leastS z x) with h | ⟨y, hy, h1, h2⟩
    · rw [h, leastS]
      split
      · rename_i q; exact .inr ⟨x, List.mem_cons_self, q.1, rfl⟩
      · exact .inl rfl
    · exact .inr ⟨y, List.mem_cons_of_mem _ hy, h1, h2⟩
theorem kErr_0 {k : List Cyc} {i : Nat} (h : i < k.length) (hk : kErr k i = 0) : chkC k[i] mostS = 0 := by
  apply Classical.byContradiction
  intro q
  rw [kErr_chk h q] at hk; exact q hk
theorem chkC_lt {c : Cyc} {s : List Int} (h : chkC c s = 0) : c.base < c.number ∧ 0 ≤ c.base := by
  unfold chkC at h
  split at h
  · rename_i q; exact absurd h q
  · split at h
    · cases h
    · omega
theorem kept_mono {k : List Cyc} (hk : fstE (kErr k) k.length = 0) : ∀ (i : Nat) (h : i < k.length), (k[0]'(by omega)).number ≤ k[i].number
  | 0, h => Int.le_refl _
  | i + 1, h => by
    have h1 := kept_mono hk i (by omega)
    have h2 := fstE_0 hk (i + 1) h
    have h3 := kErr_0 h h2
    have h4 := chkC_lt h3
    rw [kErr_s h h3] at h2
    split at h2
    · rename_i e; omega
    · cases h2
theorem chkF_rest {f : Fan} (h : chkF f = 0) : fstE (kErr f.kept) f.kept.length = 0 ∧ (f.app.zip f.lost).any (badT f) = false ∧ headE f = 0 := by
  unfold chkF at h
  split at h
  · cases h
  · split at h
    · cases h
    · split at h
      · cases h
      · split at h
        · rename_i q; exact absurd h q
        · rename_i q
          split at h
          · cases h
          · rename_i q2
            exact ⟨by simpa using q, by simpa using q2, h⟩
theorem dropWhile_len {α : Type} (p : α → Bool) : ∀ l : List α, (l.dropWhile p).length ≤ l.length
  | [] => Nat.le_refl _
  | a :: l => by
    rw [List.dropWhile_cons]
    split
    · have := dropWhile_len p l; rw [List.length_cons]; omega
    · exact Nat.le_refl _
/-- One round is enough. -/
theorem evict_len {f : Fan} {c : Cyc} (h : chkF f = 0) (hl : f.limit < f.kept.length + 1) : ((tidyF ⟨f.limit, f.kept ++ [c], f.app, markU (leastF f) f.app f.lost f.app.length⟩).kept.length : Int) ≤ f.limit := by
  obtain ⟨l1, l2, l3, l4, l5, l6⟩ := chkF_lens h
  obtain ⟨a, b, hp⟩ := chkF_pre h
  obtain ⟨r1, r2, r3⟩ := chkF_rest h
  have hk0 : 0 < f.kept.length := by omega
  obtain ⟨c0, rest, hk⟩ : ∃ c0 rest, f.kept = c0 :: rest := by
    cases hq : f.kept with
    | nil => rw [hq] at hk0; simp at hk0
    | cons c0 rest => exact ⟨c0, rest, rfl⟩
  have hb : leastF f = c0.base := by
    rw [headE, hk] at r3
    dsimp only at r3
    split at r3
    · assumption
    · cases r3
  have e0 : f.kept[0] = c0 := by simp [hk]
  suffices hn : needK (leastF ⟨f.limit, f.kept ++ [c], f.app, markU (leastF f) f.app f.lost f.app.length⟩) c0 = false by
    show ((tidyK (leastF ⟨f.limit, f.kept ++ [c], f.app, markU (leastF f) f.app f.lost f.app.length⟩) (f.kept ++ [c])).length : Int) ≤ f.limit
    generalize leastF ⟨f.limit, f.kept ++ [c], f.app, markU (leastF f) f.app f.lost f.app.length⟩ = n' at hn ⊢
    rw [tidyK, hk, List.cons_append, List.dropWhile_cons, if_pos (by rw [hn]; rfl)]
    have := dropWhile_len (fun x => !needK n' x) (rest ++ [c])
    rw [hk, List.length_cons] at hp hl
    rw [List.length_append, List.length_singleton] at this
    omega
  rcases leastI_mem (f.app.zip (markU (leastF f) f.app f.lost f.app.length)) (-1) with q | ⟨x, hx, x1, x2⟩
  · have : leastF ⟨f.limit, f.kept ++ [c], f.app, markU (leastF f) f.app f.lost f.app.length⟩ = -1 := q
    rw [this, needK]; rfl
  · have e : leastF ⟨f.limit, f.kept ++ [c], f.app, markU (leastF f) f.app f.lost f.app.length⟩ = x.1 := x2
    rw [e]
    obtain ⟨j, hj, rfl⟩ := List.getElem_of_mem hx
    rw [List.length_zip, markU_len] at hj
    have ha : j < f.app.length := by omega
    have hlo : j < f.lost.length := by omega
    rw [List.getElem_zip] at x1 ⊢
    dsimp only at x1 ⊢
    have m := markU_lt (leastF f) f.app f.lost f.app.length j ha
    rw [List.getElem?_eq_getElem (by rw [markU_len]; exact hlo), List.getElem?_eq_getElem hlo, List.getElem?_eq_getElem ha, x1] at m
    have m1 : f.lost[j] = false ∧ f.app[j] ≠ leastF f := by
      simp at m
      exact ⟨m.1.symm ▸ rfl, m.2⟩
    have nb := List.any_eq_false.1 r2 (f.app[j], f.lost[j]) (by
      have : (f.app.zip f.lost)[j]'(by rw [List.length_zip]; omega) = (f.app[j], f.lost[j]) := List.getElem_zip
      rw [← this]; exact List.getElem_mem _)
    have bd : bndF f f.app[j] = true := by
      simp [badT, m1.1] at nb
      exact nb.2
    have : ∃ (i : Nat) (hi : i < f.kept.length), f.kept[i].number = f.app[j] := by
      rw [bndF, hk, ← hk] at bd
      have bd : (f.app[j] = newF f ∨ numF f f.app[j] = true) ∨ c0.base = f.app[j] := by simpa [hk] using bd
      rcases bd with (bd | bd) | bd
      · refine ⟨f.kept.length - 1, by omega, ?_⟩
        rw [bd, newF, List.getLast?_eq_getElem?, List.getElem?_eq_getElem (by omega)]
      · rw [numF, List.any_eq_true] at bd
        obtain ⟨d, hd, e⟩ := bd
        obtain ⟨i, hi, rfl⟩ := List.getElem_of_mem hd
        exact ⟨i, hi, by simpa using e⟩
      · exact absurd (by rw [hb]; exact bd.symm) m1.2
    obtain ⟨i, hi, e2⟩ := this
    have := kept_mono r1 i hi
    rw [e0] at this
    simp [needK]
    omega
end Go.Proofs.Ytpadnceoacbaeaa
namespace Go.Proofs.Ytpadnceoacbaeaa
open Go.Proofs
theorem set_same {G : Hp} {b : Nat} {x : Option (List CV)} (h : G[b]? = some x) : G.set b x = G := by
  obtain ⟨h1, h2⟩ := List.getElem?_eq_some_iff.1 h
  rw [← h2, List.set_getElem_self]
theorem CopR.zeroP {f : Fan} {c : Cyc} {H G X : Hp} (h : G = (H ++ [some (fanC f), some (cycC c), some fanZ]) ++ X) : G[H.length]? = some (some (fanC f)) ∧ G[H.length + 1]? = some (some (cycC c)) ∧ G[H.length + 2]? = some (some fanZ) ∧ G.take H.length = H ∧ H.length + 3 ≤ G.length := by
  subst h
  rw [List.append_assoc]
  refine ⟨by rw [at_len]; rfl, by rw [hget]; rfl, by rw [hget]; rfl, by simp, by simp⟩
theorem pushF_no {f : Fan} {c : Cyc} {k : List Cyc} (hk : k = f.kept ++ [c]) (h0 : chkF f = 0) (h1 : ¬ leastF f < 0) (h2 : chkC c mostS = 0) (h3 : c.base = newF f) (hev : ¬ f.limit < (f.kept.length : Int) + 1) : pushF f c = .ok (⟨f.limit, k, f.app, f.lost⟩, []) := by
  subst hk
  rw [pushF, if_neg (by simp [h0]), if_neg h1, if_neg (by simp [h2]), if_neg (by simp [h3]), evict, if_neg (by simp; omega)]
theorem pushF_ev {f : Fan} {c : Cyc} {k : List Cyc} (hk : k = f.kept ++ [c]) (h0 : chkF f = 0) (h1 : ¬ leastF f < 0) (h2 : chkC c mostS = 0) (h3 : c.base = newF f) (hev : f.limit < (f.kept.length : Int) + 1) : pushF f c = .ok (tidyF ⟨f.limit, k, f.app, markU (leastF f) f.app f.lost f.app.length⟩, lostU (leastF f) f.app f.lost f.app.length) := by
  subst hk
  rw [pushF, if_neg (by simp [h0]), if_neg h1, if_neg (by simp [h2]), if_neg (by simp [h3]), evict, if_pos (by simp; omega)]; rfl
theorem map_snoc_cyc (k : List Cyc) (c : Cyc) : k.map cycC ++ [cycC c] = (k ++ [c]).map cycC := by rw [List.map_append]; rfl
section
variable {n : Int} {app : List Int} {lost : List Bool} {i : Nat}
theorem markU_y (h : i < app.length) (h1 : app[i] = n) : markU n app lost (i + 1) = (markU n app lost i).set i true := by rw [markU, if_pos (by rw [List.getElem?_eq_getElem h, h1])]
theorem markU_n (h : i < app.length) (h1 : ¬ app[i] = n) : markU n app lost (i + 1) = markU n app lost i := by rw [markU, if_neg (by rw [List.getElem?_eq_getElem h]; simpa using h1)]
theorem lostU_y (h : i < app.length) (hl : i < lost.length) (h1 : app[i] = n) (h2 : lost[i] = false) : lostU n app lost (i + 1) = lostU n app lost i ++ [(i : Int)] := by rw [lostU, if_pos ⟨by rw [List.getElem?_eq_getElem h, h1], by rw [List.getElem?_eq_getElem hl, h2]⟩]
theorem lostU_n (h : i < app.length) (h1 : ¬ app[i] = n) : lostU n app lost (i + 1) = lostU n app lost i := by rw [lostU, if_neg (by rw [List.getElem?_eq_getElem h]; simp [h1])]
theorem lostU_t (hl : i < lost.length) (h2 : lost[i] = true) : lostU n app lost (i + 1) = lostU n app lost i := by rw [lostU, if_neg (by rw [List.getElem?_eq_getElem hl, h2]; simp)]
theorem markU_at (hl : i < lost.length) (h : i < (markU n app lost i).length) : (markU n app lost i)[i] = lost[i] := by
  have := markU_get n app lost i i (Nat.le_refl _)
  rw [List.getElem?_eq_getElem h, List.getElem?_eq_getElem hl] at this
  simpa using this
end
theorem Push_cc (H : Hp) (V : List Nat) (f : Fan) (c : Cyc) (hs : Sm f) (hc : CySm c) : CC Try.prog 14 [.agg (fanC f), .agg (cycC c)] H V (Pu (dvP (pushF f c)) H V) := by
  refine CC.of_swp Try.func14 rfl (by kernel_rfl) (by rw [Try.ntmps14]; exact len_le _ _ rfl) fun hok hokH => ?_
  clear hok
  have stop : ∀ {e : Nat} {H' : Hp} {V' : List Nat}, pushF f c = .error e → H'.take H.length = H → V'.take V.length = V → Fin H.length V.length (Pu (dvP (pushF f c)) H V) (.tup [.agg fanZ, nilS, er e]) H' V' := fun h1 h2 h3 => by
    rw [h1]; exact Fin.pu (.tup (.cons Le_zfan (.cons (.nil 1 (by decide)) (.cons (.refl _) .nil)))) (by simp [go_sem, dvP]) hokH h2 h3
  refine SWp.seq (Wp.s ?_)
  simp -implicitDefEqProofs [go_sem, args0]
  refine SWp.seq (SWp.seq (Wp.s ?_))
  simp -implicitDefEqProofs [go_sem]
  refine CC.mono (Check_cc _ _ f hs) ?_
  rintro _ _ _ ⟨rfl, rfl, rfl⟩
  by_cases h0 : chkF f = 0
  case neg =>
    simp -implicitDefEqProofs [go_sem, h0]
    refine Wp.s ?_
    simp -implicitDefEqProofs [go_sem, h0]
    exact stop (by rw [pushF, if_pos h0]) (by simp) (by simp)
  simp -implicitDefEqProofs [go_sem, h0]
  refine Wp.s ?_
  simp -implicitDefEqProofs [go_sem, h0]
  have hl : f.lost.length = f.app.length := (chkF_lens h0).2.2.1
  have hal := hs.al
  have hkl := hs.kl
  refine SWp.seq (SWp.seq (Wp.s ?_))
  simp -implicitDefEqProofs [go_sem]
  refine CC.mono (oldest_cc _ _ .sh .sh .sh f.limit f.kept f.app f.lost hl hal) ?_
  rintro _ _ _ ⟨rfl, rfl, rfl⟩
  rw [← leastF_eq]
  by_cases h1 : leastF f < 0
  · simp -implicitDefEqProofs [go_sem, h1]
    refine Wp.s ?_
    simp -implicitDefEqProofs [go_sem]
    exact stop (by rw [pushF, if_neg (by simp [h0]), if_pos h1]) (by simp) (by simp)
  simp -implicitDefEqProofs [go_sem, h1]
  refine Wp.s ?_
  simp -implicitDefEqProofs [go_sem]
  refine SWp.join (α := Unit) (fun _ => ([(2, .ptr H.length 0), (3, .ptr (H.length + 1) 0), (4, .ptr (H.length + 2) 0)], H ++ [some (fanC f), some (cycC c), some fanZ], V)) (fun _ => chkC c mostS = 0) ?_ ?_
  · refine SWp.seq (SWp.drawnT [] [] (.s 0 .pl <| .s 1 .pl <| .s 2 .pl <| .s 3 .pl <| .n) (by kernel_rfl) (by kernel_rfl) ?_)
    simp -implicitDefEqProofs [go_sem]
    refine CC.mono (most_f_cc _ _) ?_
    rintro _ _ _ ⟨rfl, rfl, rfl⟩
    simp -implicitDefEqProofs [go_sem]
    refine CC.mono (cCheck_cc _ _ .sh c mostS (by have := hc.wl; omega) hc.ws (by simp [mostS]) (by have := hc.pl; omega)) ?_
    rintro _ _ _ ⟨rfl, rfl, rfl⟩
    by_cases h2 : chkC c mostS = 0
    case neg =>
      simp -implicitDefEqProofs [go_sem, h2]
      refine Wp.s ?_
      simp -implicitDefEqProofs [go_sem, h2]
      exact stop (by rw [pushF, if_neg (by simp [h0]), if_neg h1, if_pos h2]) (by simp) (by simp)
    simp -implicitDefEqProofs [go_sem, h2]
    refine Wp.s ?_
    simp -implicitDefEqProofs [go_sem, h2]
    exact Sh.trim (by simp [go_sem]) (by simp [go_sem]) hokH (by simp [go_sem, fanZ]) (by simp) (by simp [fanZ]) (by simp)
  rintro _ h2
  dsimp only
  refine SWp.seq (SWp.seq (SWp.drawnT [] [] (.s 0 .pl <| .s 1 .pl <| .s 2 .pl <| .s 3 .pl <| .s 4 .pl <| .n) (by kernel_rfl) (by kernel_rfl) ?_))
  simp -implicitDefEqProofs [go_sem]
  refine CC.mono (newest_cc _ _ f (chkF_ok hs h0)) ?_
  rintro _ _ _ ⟨rfl, rfl, rfl⟩
  by_cases h3 : c.base = newF f
  case neg =>
    simp -implicitDefEqProofs [go_sem, h3]
    refine Wp.s ?_
    simp -implicitDefEqProofs [go_sem]
    refine ⟨by decide, ?_⟩
    exact stop (by rw [pushF, if_neg (by simp [h0]), if_neg h1, if_neg (by simp [h2]), if_pos h3]) (by simp) (by simp)
  simp -implicitDefEqProofs [go_sem, h3]
  refine Wp.s ?_
  simp -implicitDefEqProofs [go_sem]
  refine SWp.seq (Wp.s ?_)
  simp -implicitDefEqProofs [go_sem]
  refine CC.mono (copied_cc _ _ f hs (chkF_cp h0)) ?_
  rintro _ G _ hR
  obtain ⟨b1, b2, v, X, rfl, hX, rfl, g1, g2, hne, l1, l2⟩ := hR.elim
  obtain ⟨gf, gc, gz, gt, gl⟩ := CopR.zeroP hX
  rw [List.length_append] at l1 l2
  simp only [List.length_cons, List.length_nil] at l1 l2
  clear hX hR stop
  obtain ⟨k, hk⟩ : ∃ k, k = f.kept ++ [c] := ⟨_, rfl⟩
  have hkm : f.kept.map cycC ++ [cycC c] = k.map cycC := by rw [hk, List.map_append]; rfl
  have hkk : k.length = f.kept.length + 1 := by rw [hk, List.length_append]; rfl
  have n1 : b1 < G.length := (List.getElem?_eq_some_iff.1 g1).1
  have n2 : b2 < G.length := (List.getElem?_eq_some_iff.1 g2).1
  simp -implicitDefEqProofs [go_sem]
  refine SWp.join (α := Unit) (fun _ => ([(2, .ptr H.length 0), (4, .ptr (H.length + 2) 0), (9, .ptr G.length 0)], G ++ [some [ci f.limit, .sl (.own V.length (v + 1)) 5 (k.map cycC), .bsl b1 0 f.app.length 1, .bsl b2 0 f.app.length 1]], V ++ [v + 1])) (fun _ => True) ?_ ?_
  · refine SWp.drawnT [H.length + 1] [7] (.s 0 .pl <| .s 1 .pl <| .s 2 .pl <| .s 3 .pl <| .s 4 .pl <| .s 5 .pl <| .s 6 .pl <| .s 7 .st <| .n) (by kernel_rfl) (by kernel_rfl) ?_
    simp -implicitDefEqProofs [go_sem, hbx_of (at_old _ [some [ci f.limit, .sl (.own V.length v) 5 (f.kept.map cycC), .bsl b1 0 f.app.length 1, .bsl b2 0 f.app.length 1]] gc)]
    refine CC.mono (copyCyc_cc _ _ c hc) ?_
    rintro _ _ _ ⟨rfl, rfl, rfl⟩
    simp -implicitDefEqProofs [go_sem]
    refine ⟨by omega, Kp_one (by rw [List.getElem?_append_left (by omega), List.getElem?_append_left (by omega)]), ?_⟩
    exact Sh.forget (by simp [go_sem]) (by rw [← hkm]) rfl
  rintro _ -
  dsimp only
  refine SWp.seq (Wp.s ?_)
  simp -implicitDefEqProofs [go_sem]
  by_cases hev : f.limit < (f.kept.length : Int) + 1
  case neg =>
    rw [pushF_no hk h0 h1 h2 h3 hev]
    have gzo := at_old G [some [ci f.limit, .sl (.own V.length (v + 1)) 5 (k.map cycC), .bsl b1 0 f.app.length 1, .bsl b2 0 f.app.length 1]] gz
    refine SWp.join (α := Unit) (fun _ => ([(2, .ptr H.length 0), (4, .ptr (H.length + 2) 0), (9, .ptr G.length 0), (10, nilS)], G ++ [some [ci f.limit, .sl (.own V.length (v + 1)) 5 (k.map cycC), .bsl b1 0 f.app.length 1, .bsl b2 0 f.app.length 1]], V ++ [v + 1])) (fun _ => True) ?_ ?_
    · refine SWp.block ?_
      refine SWp.loop (α := Unit) (fun _ => ([(2, .ptr H.length 0), (4, .ptr (H.length + 2) 0), (9, .ptr G.length 0), (10, nilS)], G ++ [some [ci f.limit, .sl (.own V.length (v + 1)) 5 (k.map cycC), .bsl b1 0 f.app.length 1, .bsl b2 0 f.app.length 1]], V ++ [v + 1])) (fun _ => True) (fun _ => 0) () trivial (Sh.forget (by simp [go_sem]) rfl rfl) ?_
      rintro _ -
      dsimp only
      refine SWp.seq (SWp.seq (Wp.s ?_))
      simp -implicitDefEqProofs [go_sem, hkk, hev]
      refine Wp.s ?_
      simp -implicitDefEqProofs [go_sem]
      exact Sh.forget (by simp [go_sem]) rfl rfl
    rintro _ -
    dsimp only
    refine SWp.seq (Wp.s ?_)
    simp -implicitDefEqProofs [go_sem]
    refine CC.mono (sortNil_cc _ _) ?_
    rintro _ _ _ ⟨rfl, rfl, rfl⟩
    simp -implicitDefEqProofs [go_sem]
    refine SWp.seq (Wp.s ?_)
    simp -implicitDefEqProofs [go_sem, hbx_of gzo, set_old _ _ _ gz]
    refine ⟨by decide, ?_⟩
    refine Wp.s ?_
    simp -implicitDefEqProofs [go_sem, hbx_sa (show H.length + 2 < G.length by omega)]
    have e1 := chunk_ci f.app f.app.length rfl
    have e2 := chunk_bo f.lost f.app.length hl
    refine Fin.froz2 (b := b1) (b' := b2) (cs := f.app.map ci) (cs' := f.lost.map cbo) (r4 := dvP (.ok (⟨f.limit, k, f.app, f.lost⟩, []))) (r3 := .tup [.agg [ci f.limit, .sl (.own V.length (v + 1)) 5 (k.map cycC), .sl .sh 1 (f.app.map ic), .sl .sh 1 (f.lost.map boE)], nilS, er 0]) (r2 := .tup [.agg [ci f.limit, .sl (.own V.length (v + 1)) 5 (k.map cycC), .sl .sh 1 (f.app.map ic), .bsl b2 0 f.app.length 1], nilS, er 0]) (r1 := .tup [.agg [ci f.limit, .sl (.own V.length (v + 1)) 5 (k.map cycC), .bsl b1 0 f.app.length 1, .bsl b2 0 f.app.length 1], nilS, er 0]) ⟨rfl, rfl, rfl⟩ ?_ ?_ (.tup (.cons (.agg (.cons (.refl _) (.cons (.refl _) (.cons ?_ (.cons (.refl _) .nil))))) (.cons (.refl _) (.cons (.refl _) .nil)))) ?_ (.tup (.cons (.agg (.cons (.refl _) (.cons (.refl _) (.cons (.refl _) (.cons ?_ .nil))))) (.cons (.refl _) (.cons (.refl _) .nil)))) (.tup (.cons (.agg (.cons (.refl _) (.cons (.sh ..) (.cons (.refl _) (.cons (.refl _) .nil))))) (.cons (.nil 1 (by decide)) (.cons (.refl _) .nil)))) (by omega) (by omega) (by simp [go_sem, dvP]) hokH ?_ (by simp)
    · exact .refl _
    · rw [List.getElem?_append_left (by simpa using n1), List.getElem?_set_ne (by omega)]; exact g1
    · rw [← e1]; exact .bsl 0 _ 1 (by simp)
    · rw [List.getElem?_set_ne hne, List.getElem?_append_left (by simpa using n2), List.getElem?_set_ne (by omega)]; exact g2
    · rw [← e2]; exact .bsl 0 _ 1 (by simp [hl])
    · rw [List.take_append_of_le_length (by simp; omega), List.take_set_of_le (by omega)]; exact gt
  obtain ⟨g, hg⟩ : ∃ g, g = tidyF ⟨f.limit, k, f.app, markU (leastF f) f.app f.lost f.app.length⟩ := ⟨_, rfl⟩
  have gl1 : g.limit = f.limit := by rw [hg]; rfl
  have gl2 : ¬ f.limit < (g.kept.length : Int) := by
    have := evict_len (c := c) h0 hev
    rw [← hk, ← hg] at this
    omega
  have e0 := pushF_ev hk h0 h1 h2 h3 hev
  rw [← hg] at e0
  have hsk : Sm ⟨f.limit, k, f.app, markU (leastF f) f.app f.lost f.app.length⟩ := ⟨by show k.length ≤ 1000000; have := (chkF_lens h0).2.2.2.2.2; omega, hal, by rw [markU_len]; exact hs.ll, fun d hd => by
    rw [hk] at hd
    rcases List.mem_append.1 hd with hd | hd
    · exact hs.kc d hd
    · rw [List.mem_singleton] at hd; subst hd; exact ⟨hc.wl, hc.ws, hc.pl⟩⟩
  refine SWp.join (α := Option Hp) (fun x => match x with
    | none => ([(2, .ptr H.length 0), (4, .ptr (H.length + 2) 0), (9, .ptr G.length 0)], G, V)
    | some K => ([(2, .ptr H.length 0), (4, .ptr (H.length + 2) 0), (9, .ptr G.length 0), (10, .sl (.own (V.length + 1) (lostU (leastF f) f.app f.lost f.app.length).length) 1 ((lostU (leastF f) f.app f.lost f.app.length).map ic))], K, V ++ [v + 1, (lostU (leastF f) f.app f.lost f.app.length).length])) (fun x => x ≠ none ∧ ((fun (x : Option Hp) => ∀ K, x = some K → K.take H.length = H ∧ K[H.length]? = some (some (fanC f)) ∧ K[H.length + 2]? = some (some fanZ) ∧ K[G.length]? = some (some (fanC g)) ∧ H.length + 2 < K.length) x)) ?_ ?_
  · refine SWp.block ?_
    refine SWp.loop (α := Option Hp) (fun x => match x with
      | none => ([(2, .ptr H.length 0), (4, .ptr (H.length + 2) 0), (9, .ptr G.length 0), (10, .sl (.own (V.length + 1) 0) 1 [])], G ++ [some [ci f.limit, .sl (.own V.length (v + 1)) 5 (k.map cycC), .bsl b1 0 f.app.length 1, .bsl b2 0 f.app.length 1]], V ++ [v + 1, 0])
      | some K => ([(2, .ptr H.length 0), (4, .ptr (H.length + 2) 0), (9, .ptr G.length 0), (10, .sl (.own (V.length + 1) (lostU (leastF f) f.app f.lost f.app.length).length) 1 ((lostU (leastF f) f.app f.lost f.app.length).map ic))], K, V ++ [v + 1, (lostU (leastF f) f.app f.lost f.app.length).length])) (fun (x : Option Hp) => ∀ K, x = some K → K.take H.length = H ∧ K[H.length]? = some (some (fanC f)) ∧ K[H.length + 2]? = some (some fanZ) ∧ K[G.length]? = some (some (fanC g)) ∧ H.length + 2 < K.length) (fun x => match x with | none => 1 | some _ => 0) none (fun K h => by cases h) (Sh.tokT (by simp [go_sem]) rfl (by simp)) ?_
    intro x hx
    match x with
    | some K =>
      obtain ⟨k1, k2, k3, k4, k5⟩ := hx K rfl
      dsimp only
      refine SWp.seq (SWp.seq (Wp.s ?_))
      simp -implicitDefEqProofs [go_sem, hbx_of k4, gl1, gl2]
      refine Wp.s ?_
      simp -implicitDefEqProofs [go_sem]
      exact ⟨some K, ⟨by simp, hx⟩, Sh.forget (by simp [go_sem]) rfl rfl⟩
    | none =>
    dsimp only
    refine SWp.seq (SWp.seq (Wp.s ?_))
    simp -implicitDefEqProofs [go_sem, hkk, hev]
    refine Wp.s ?_
    simp -implicitDefEqProofs [go_sem]
    refine SWp.block (SWp.seq (Wp.s ?_))
    simp -implicitDefEqProofs [go_sem]
    refine CC.mono (oldestB_cc _ _ _ f.limit k f.app f.lost b1 b2 f.app.length rfl hl hal (at_old _ _ g1) (at_old _ _ g2)) ?_
    rintro _ _ _ ⟨rfl, rfl, rfl⟩
    rw [← leastF_eq]
    simp -implicitDefEqProofs [go_sem]
    refine SWp.join (α := Unit) (fun _ => ([(2, .ptr H.length 0), (4, .ptr (H.length + 2) 0), (9, .ptr G.length 0), (10, .sl (.own (V.length + 1) (lostU (leastF f) f.app f.lost f.app.length).length) 1 ((lostU (leastF f) f.app f.lost f.app.length).map ic))], G.set b2 (some ((markU (leastF f) f.app f.lost f.app.length).map cbo)) ++ [some [ci f.limit, .sl (.own V.length (v + 1)) 5 (k.map cycC), .bsl b1 0 f.app.length 1, .bsl b2 0 f.app.length 1]], V ++ [v + 1, (lostU (leastF f) f.app f.lost f.app.length).length])) (fun _ => True) ?_ ?_
    · refine SWp.seq (Wp.s ?_)
      simp -implicitDefEqProofs [go_sem]
      refine SWp.block ?_
      refine SWp.loop (α := Nat) (fun i => ([(2, .ptr H.length 0), (4, .ptr (H.length + 2) 0), (9, .ptr G.length 0), (10, .sl (.own (V.length + 1) (lostU (leastF f) f.app f.lost i).length) 1 ((lostU (leastF f) f.app f.lost i).map ic)), (11, ci (leastF f)), (55, .bsl b1 0 f.app.length 1), (56, ci f.app.length), (57, ci i)], G.set b2 (some ((markU (leastF f) f.app f.lost i).map cbo)) ++ [some [ci f.limit, .sl (.own V.length (v + 1)) 5 (k.map cycC), .bsl b1 0 f.app.length 1, .bsl b2 0 f.app.length 1]], V ++ [v + 1, (lostU (leastF f) f.app f.lost i).length])) (fun i => i ≤ f.app.length) (fun i => f.app.length - i) 0 (Nat.zero_le _) (Sh.forget (by simp [go_sem, lostU]) (by rw [markU, set_same g2]) rfl) ?_
      intro i hi
      dsimp only
      have g1' : (G.set b2 (some ((markU (leastF f) f.app f.lost i).map cbo)))[b1]? = some (some (f.app.map ci)) := by rw [List.getElem?_set_ne (by omega)]; exact g1
      have g2' : (G.set b2 (some ((markU (leastF f) f.app f.lost i).map cbo)))[b2]? = some (some ((markU (leastF f) f.app f.lost i).map cbo)) := by rw [List.getElem?_set_self n2]
      have gB : (G.set b2 (some ((markU (leastF f) f.app f.lost i).map cbo)) ++ [some [ci f.limit, .sl (.own V.length (v + 1)) 5 (k.map cycC), .bsl b1 0 f.app.length 1, .bsl b2 0 f.app.length 1]])[G.length]? = some (some [ci f.limit, .sl (.own V.length (v + 1)) 5 (k.map cycC), .bsl b1 0 f.app.length 1, .bsl b2 0 f.app.length 1]) := by rw [List.getElem?_append_right (by simp)]; simp
      have q1 := at_old _ [some [ci f.limit, .sl (.own V.length (v + 1)) 5 (k.map cycC), .bsl b1 0 f.app.length 1, .bsl b2 0 f.app.length 1]] g1'
      have q2 := at_old _ [some [ci f.limit, .sl (.own V.length (v + 1)) 5 (k.map cycC), .bsl b1 0 f.app.length 1, .bsl b2 0 f.app.length 1]] g2'
      have ml : (markU (leastF f) f.app f.lost i).length = f.app.length := by rw [markU_len, hl]
      refine SWp.seq (Wp.s ?_)
      simp -implicitDefEqProofs [go_sem]
      refine SWp.seq (Wp.s ?_)
      simp -implicitDefEqProofs [go_sem]
      refine ⟨fun h => ?_, fun h => ?_⟩
      case refine_2 =>
        obtain rfl : i = f.app.length := by omega
        exact Sh.forget (by simp [go_sem]) rfl rfl
      have hm : i < (markU (leastF f) f.app f.lost i).length := by omega
      have hlo : i < f.lost.length := by omega
      have hat := markU_at (n := leastF f) (app := f.app) hlo hm
      refine SWp.seq (SWp.block (SWp.seq (Wp.s ?_)))
      simp -implicitDefEqProofs [go_sem, hbx_of q1, h]
      refine SWp.seq (Wp.s ?_)
      by_cases c1 : f.app[i] = leastF f
      case neg =>
        simp -implicitDefEqProofs [go_sem, c1]
        refine Wp.s ?_
        simp -implicitDefEqProofs [go_sem]
        refine Wp.s ?_
        simp -implicitDefEqProofs [go_sem]
        refine ⟨i + 1, by omega, by omega, Sh.forget ?_ ?_ ?_⟩
        · simp [go_sem, wrap_succ (show i ≤ 1000000000 by omega), lostU_n h c1]
        · rw [markU_n h c1]
        · rw [lostU_n h c1]
      cases c2 : f.lost[i] with
      | true =>
        rw [c2] at hat
        simp -implicitDefEqProofs [go_sem, c1, hbx_of gB, hbx_of q2, h, hm, hlo, hat]
        refine Wp.s ?_
        simp -implicitDefEqProofs [go_sem]
        refine Wp.s ?_
        simp -implicitDefEqProofs [go_sem]
        refine ⟨i + 1, by omega, by omega, Sh.forget ?_ ?_ ?_⟩
        · simp [go_sem, wrap_succ (show i ≤ 1000000000 by omega), lostU_t hlo c2]
        · rw [markU_y h c1, markU_keep _ _ _ (by rw [List.getElem?_eq_getElem hlo, c2])]
        · rw [lostU_t hlo c2]
      | false =>
        rw [c2] at hat
        have hll := lostU_le (leastF f) f.app f.lost i
        simp -implicitDefEqProofs [go_sem, c1, hbx_of gB, hbx_of q2, h, hm, hlo, hat]
        refine Wp.s ?_
        simp -implicitDefEqProofs [go_sem, hbx_of gB, hbx_of q2, h, hm, hlo, set_old _ _ _ g2', set_cbo hm true, show i + 1 ≤ f.lost.length by omega]
        refine ⟨by omega, ?_⟩
        refine Wp.s ?_
        simp -implicitDefEqProofs [go_sem]
        refine ⟨i + 1, by omega, by omega, Sh.forget ?_ ?_ ?_⟩
        · simp [go_sem, wrap_succ (show i ≤ 1000000000 by omega), lostU_y h hlo c1 c2]
          exact .refl _
        · rw [markU_y h c1, List.map_set]
        · rw [lostU_y h hlo c1 c2, List.length_append]; rfl
    rintro _ -
    dsimp only
    have g1' : (G.set b2 (some ((markU (leastF f) f.app f.lost f.app.length).map cbo)))[b1]? = some (some (f.app.map ci)) := by rw [List.getElem?_set_ne (by omega)]; exact g1
    have g2' : (G.set b2 (some ((markU (leastF f) f.app f.lost f.app.length).map cbo)))[b2]? = some (some ((markU (leastF f) f.app f.lost f.app.length).map cbo)) := by rw [List.getElem?_set_self n2]
    have gB : (G.set b2 (some ((markU (leastF f) f.app f.lost f.app.length).map cbo)) ++ [some [ci f.limit, .sl (.own V.length (v + 1)) 5 (k.map cycC), .bsl b1 0 f.app.length 1, .bsl b2 0 f.app.length 1]])[G.length]? = some (some [ci f.limit, .sl (.own V.length (v + 1)) 5 (k.map cycC), .bsl b1 0 f.app.length 1, .bsl b2 0 f.app.length 1]) := by rw [List.getElem?_append_right (by simp)]; simp
    refine Wp.s ?_
    simp -implicitDefEqProofs [go_sem, hbx_of gB]
    refine CC.letFan (app := f.app) (lost := markU (leastF f) f.app f.lost f.app.length) rfl (by rw [markU_len]; exact hl) (at_old _ _ g1') (at_old _ _ g2') hne ?_
    refine CC.mono (tidy_cc _ _ ⟨f.limit, k, f.app, markU (leastF f) f.app f.lost f.app.length⟩ hsk (by rw [markU_len]; exact hl)) ?_
    rintro _ K _ ⟨rfl, hK, rfl⟩
    rw [← hg]
    have kx : ∀ (z : Nat) y, z < G.length → z ≠ b1 → z ≠ b2 → G[z]? = y → K[z]? = y := fun z y p1 p2 p3 p4 => by
      rw [← hK, List.getElem?_set_ne (by omega), List.getElem?_set_ne (by omega), List.getElem?_append_left (by simp; omega), List.getElem?_set_ne (by omega)]; exact p4
    have k9 : K[G.length]? = some (some [ci f.limit, .sl (.own V.length (v + 1)) 5 (k.map cycC), .bsl b1 0 f.app.length 1, .bsl b2 0 f.app.length 1]) := by
      rw [← hK, List.getElem?_set_ne (by omega), List.getElem?_set_ne (by omega)]; exact gB
    have kl : G.length < K.length := (List.getElem?_eq_some_iff.1 k9).1
    have kt : K.take H.length = H := by
      rw [← hK, List.take_set_of_le (by omega), List.take_set_of_le (by omega), List.take_append_of_le_length (by simp; omega), List.take_set_of_le (by omega)]; exact gt
    simp -implicitDefEqProofs [go_sem, hbx_of k9]
    refine ⟨some (K.set G.length (some (fanC g))), ?_, rfl, Sh.forget (by simp [go_sem]) rfl rfl⟩
    intro K' hK'
    obtain rfl : K.set G.length (some (fanC g)) = K' := by simpa using hK'
    refine ⟨by rw [List.take_set_of_le (by omega)]; exact kt, by rw [List.getElem?_set_ne (by omega)]; exact kx _ _ (by omega) (by omega) (by omega) gf, by rw [List.getElem?_set_ne (by omega)]; exact kx _ _ (by omega) (by omega) (by omega) gz, by rw [List.getElem?_set_self kl], by rw [List.length_set]; omega⟩
  rintro x ⟨hx0, hx⟩
  match x with
  | none => exact absurd rfl hx0
  | some K =>
  obtain ⟨k1, k2, k3, k4, k5⟩ := hx K rfl
  dsimp only
  have hle := lostU_le (leastF f) f.app f.lost f.app.length
  have hla := (chkF_lens h0).2.1
  refine SWp.seq (Wp.s ?_)
  simp -implicitDefEqProofs [go_sem]
  refine CC.mono (sort_cc _ _ _ (lostU (leastF f) f.app f.lost f.app.length) (by omega) (lostU_srt _ _ _ _)) ?_
  rintro _ _ _ ⟨rfl, rfl, rfl⟩
  simp -implicitDefEqProofs [go_sem]
  refine SWp.seq (Wp.s ?_)
  simp -implicitDefEqProofs [go_sem, hbx_of k4, hbx_of k3]
  refine ⟨by decide, ?_⟩
  refine Wp.s ?_
  simp -implicitDefEqProofs [go_sem, hbx_s k5]
  rw [e0]
  exact Fin.pu (r0 := dvP (.ok _)) (.tup (.cons (.refl _) (.cons (.sh ..) (.cons (.refl _) .nil)))) (by simp [go_sem, dvP, okE_ints]) hokH (by rw [List.take_set_of_le (show H.length ≤ H.length + 2 by omega)]; exact k1) (by simp)
end Go.Proofs.Ytpadnceoacbaeaa
namespace Go.Proofs.Ytpadnceoacbaeaa
open Go.Proofs
theorem find_at {α : Type} {p : α → Bool} : ∀ {l : List α} {i : Nat} (h : i < l.length), (l.take i).find? p = none → p l[i] = true → l.find? p = some l[i]
  | a :: l, 0, _, _, h => by rw [List.find?_cons_of_pos (by exact h)]; rfl
  | a :: l, i + 1, hi, h1, h => by
    rw [List.take_succ_cons] at h1
    cases ha : p a with
    | true => rw [List.find?_cons_of_pos ha] at h1; cases h1
    | false =>
      rw [List.find?_cons_of_neg (by simp [ha])] at h1 ⊢
      exact find_at (by simpa using hi) h1 h
theorem find_s {α : Type} {p : α → Bool} : ∀ {l : List α} {i : Nat} (h : i < l.length), (l.take i).find? p = none → p l[i] = false → (l.take (i + 1)).find? p = none
  | a :: l, 0, _, _, h => by
    rw [List.take_succ_cons, List.find?_cons_of_neg (by simpa using h)]; rfl
  | a :: l, i + 1, hi, h1, h => by
    rw [List.take_succ_cons] at h1 ⊢
    cases ha : p a with
    | true => rw [List.find?_cons_of_pos ha] at h1; cases h1
    | false =>
      rw [List.find?_cons_of_neg (by simp [ha])] at h1 ⊢
      exact find_s (by simpa using hi) h1 h
def nxP (x : Int) (c : Cyc) : Bool := decide (x < c.number)
def fndU (x : Int) (l : List Cyc) (i : Nat) : Option Cyc := (l.take i).find? (nxP x)
theorem fndU_all (x : Int) (l : List Cyc) : fndU x l l.length = l.find? (nxP x) := by rw [fndU, List.take_of_length_le (Nat.le_refl _)]
theorem nextF_no {f : Fan} {t : Int} (h : existsF f t ≠ 0) : nextF f t = none := by rw [nextF, if_pos (.inl h)]
theorem nextF_in {f : Fan} {k : Nat} (h : existsF f k = 0) (h1 : k < f.app.length) (h2 : k < f.lost.length) : nextF f k = if f.lost[k] = true then none else f.kept.find? (nxP f.app[k]) := by
  rw [nextF, getD_atI h2, getD_atI h1]
  cases f.lost[k] <;> simp [h] <;> rfl
def dvN : Option Cyc → CV
  | none => .tup [.agg (cycC ⟨0, 0, 0, [], []⟩), cb false]
  | some c => .tup [.agg (cycC c), cb true]
theorem Le_zcyc : Le (.agg cycZ) (.agg (cycC ⟨0, 0, 0, [], []⟩)) := .agg (.cons (.refl _) (.cons (.refl _) (.cons (.refl _) (.cons (.nil 1 (by decide)) (.cons (.nil 3 (by decide)) .nil)))))
theorem needed1_cc (H : Hp) (V : List Nat) (L b1 b2 : Nat) (f : Fan) (k : Nat) (hs : Sm f) (hk : k < f.app.length) (hb1 : H[b1]? = some (some (fanC f))) (hb2 : H[b2]? = some (some [ci k])) (Q : Hp → List Nat → Prop)
    (hQ : ∀ G V', Q G V' → G.length = H.length ∧ G[b1]? = some (some (fanC f)) ∧ G[b2]? = some (some [ci k]))
    (h0 : f.kept.find? (nxP f.app[k]) = none → Q H V)
    (h1 : ∀ c W, f.kept.find? (nxP f.app[k]) = some c → YC Try.prog L [.agg (cycC c)] (H ++ W) V (fun r H' V' => r = .v (.bool false) ∧ ∃ G W', Q G V' ∧ H' = G ++ (W ++ W'))) :
    CC Try.prog 66 [.yl L, .ptr b1 0, .ptr b2 0] H V (fun _ H' V' => ∃ G W, Q G V' ∧ H' = G ++ W) := by
  have hkl := hs.kl
  have lt1 := (List.getElem?_eq_some_iff.1 hb1).1
  have lt2 := (List.getElem?_eq_some_iff.1 hb2).1
  refine CC.of_swp Try.func66 rfl (by kernel_rfl) (by rw [Try.ntmps66]; exact len_le _ _ rfl) fun hok hokH => ?_
  refine SWp.seq (Wp.s ?_)
  simp -implicitDefEqProofs [go_sem, args0, hbx_of hb1]
  refine SWp.block ?_
  refine SWp.loop (α := Nat) (fun i => ([(0, .yl L), (1, .ptr b1 0), (2, .ptr b2 0), (7, .sl .sh 5 (f.kept.map cycC)), (8, ci f.kept.length), (9, ci i)], H, V)) (fun i => i ≤ f.kept.length ∧ fndU f.app[k] f.kept i = none) (fun i => f.kept.length - i) 0 ⟨Nat.zero_le _, rfl⟩ (Sh.forget (by simp [go_sem]) rfl rfl) ?_
  rintro i ⟨hi, hp⟩
  dsimp only
  refine SWp.seq (Wp.s ?_)
  simp -implicitDefEqProofs [go_sem]
  refine SWp.seq (Wp.s ?_)
  simp -implicitDefEqProofs [go_sem]
  refine ⟨fun h => ?_, fun h => ?_⟩
  case refine_2 =>
    obtain rfl : i = f.kept.length := by omega
    rw [fndU_all] at hp
    exact Fin.self ⟨H, h0 hp, [], by simp⟩
  refine SWp.seq (SWp.block (SWp.seq (Wp.s ?_)))
  simp -implicitDefEqProofs [go_sem, h]
  have a1 := at_old _ [some (cycC f.kept[i])] hb1
  have a2 := at_old _ [some (cycC f.kept[i])] hb2
  refine SWp.seq (SWp.drawnT [b1, b2, H.length] [11] (.s 0 .pl <| .s 1 .ld <| .s 2 .pl <| .s 3 .ld <| .s 4 .ld <| .s 5 .pl <| .s 6 .pl <| .s 7 .pl <| .s 8 .pl <| .s 9 .pl <| .s 10 .ld <| .s 11 .st <| .s 12 .pl <| .s 13 .pl <| .n) (by kernel_rfl) (by kernel_rfl) ?_)
  by_cases c1 : f.app[k] < f.kept[i].number
  · simp -implicitDefEqProofs [go_sem, hbx_of a1, hbx_of a2, hk, c1]
    have hf := find_at (p := nxP f.app[k]) h hp (by simpa [nxP] using c1)
    refine YC.mono (h1 _ [some (cycC f.kept[i])] hf) ?_
    rintro _ H2 V2 ⟨rfl, G, W', hq, rfl⟩
    obtain ⟨q1, q2, q3⟩ := hQ _ _ hq
    simp -implicitDefEqProofs [go_sem]
    refine ⟨Kp.keep fun b hb => ?_, ?_⟩
    · rcases List.mem_cons.1 hb with rfl | hb
      · rw [List.getElem?_append_left (by omega), List.getElem?_append_left (by omega), q2, hb1]
      · rcases List.mem_cons.1 hb with rfl | hb
        · rw [List.getElem?_append_left (by omega), List.getElem?_append_left (by omega), q3, hb2]
        · obtain rfl : b = H.length := by simpa using hb
          rw [at_len, ← q1, at_len]; rfl
    refine Wp.s ?_
    simp -implicitDefEqProofs [go_sem]
    exact Fin.self ⟨G, hq, _, rfl⟩
  · simp -implicitDefEqProofs [go_sem, hbx_of a1, hbx_of a2, hk, c1]
    refine Wp.s ?_
    simp -implicitDefEqProofs [go_sem]
    refine Wp.s ?_
    simp -implicitDefEqProofs [go_sem]
    refine ⟨i + 1, ⟨by omega, find_s h hp (by simpa [nxP] using c1)⟩, by omega, Sh.back ?_ rfl rfl ?_ hokH (by simp) (by simp)⟩
    · simp [go_sem, wrap_succ (show i ≤ 1000000000 by omega)]
    · simp [go_sem] at hok
      simp [go_sem, lt1, lt2, hok]
end Go.Proofs.Ytpadnceoacbaeaa
namespace Go.Proofs.Ytpadnceoacbaeaa
open Go.Proofs
theorem needed_cc (H : Hp) (V : List Nat) (f : Fan) (t : Int) : CC Try.prog 43 [.agg (fanC f), ci t] H V (fun r H' V' => r = .fn 66 [.ptr H.length 0, .ptr (H.length + 1) 0] ∧ H' = H ++ [some (fanC f), some [ci t]] ∧ V = V') := by
  refine CC.of_swp Try.func43 rfl (by kernel_rfl) (by rw [Try.ntmps43]; exact len_le _ _ rfl) fun hok hokH => ?_
  clear hok
  refine SWp.seq (Wp.s ?_)
  simp -implicitDefEqProofs [go_sem, args0]
  refine Wp.s ?_
  simp -implicitDefEqProofs [go_sem]
  refine Fin.cut (H.length + 2) V.length ⟨rfl, rfl, rfl⟩ (by omega) (Nat.le_refl _) (List.take_of_length_le (by simp)) (List.take_of_length_le (Nat.le_refl _)) (.refl _) (by simp [go_sem]) ?_
  intro b cs hb
  rw [List.getElem?_append] at hb
  split at hb
  · exact okL_mono (by omega) (Nat.le_refl _) (hokH b cs hb)
  · exact okH_get (i := H.length + 2) (j := V.length) (L := [some (fanC f), some [ci t]]) (by simp [go_sem]) _ _ hb
abbrev HN (H : Hp) (f : Fan) (k : Nat) (z : List CV) (b : Bool) (lp : CV) (W : Hp) : Hp := H ++ some (fanC f) :: some z :: some [cb b] :: some (fanC f) :: some [ci k] :: some [lp] :: W
def NQ (H : Hp) (V : List Nat) (f : Fan) (k : Nat) (x : Int) (l1 l2 : CV) (G : Hp) (V' : List Nat) : Prop :=
  V' = V ∧ ((f.kept.find? (nxP x) = none ∧ G = HN H f k cycZ false l1 []) ∨ ∃ c, f.kept.find? (nxP x) = some c ∧ G = HN H f k (cycC c) true l2 [])
theorem Next_cc (H : Hp) (V : List Nat) (f : Fan) (t : Int) (hs : Sm f) : CC Try.prog 17 [.agg (fanC f), ci t] H V (Pu (dvN (nextF f t)) H V) := by
  refine CC.of_swp0 Try.func17 rfl (by kernel_rfl) (by rw [Try.ntmps17]; exact len_le _ _ rfl) fun hok hokH => ?_
  have stop : ∀ {H' : Hp} {V' : List Nat}, nextF f t = none → H'.take H.length = H → V'.take V.length = V → Fin H.length V.length (Pu (dvN (nextF f t)) H V) (.tup [.agg cycZ, cb false]) H' V' := fun h1 h2 h3 => by
    rw [h1]; exact Fin.pu (.tup (.cons Le_zcyc (.cons (.refl _) .nil))) (by simp [go_sem, dvN]) hokH h2 h3
  have hkl := hs.kl
  refine SWp0.seq (SWp.s0 (Wp.s ?_))
  simp -implicitDefEqProofs [go_sem, args0]
  refine SWp0.join (α := Nat) (fun k => ([(1, ci k), (2, .ptr H.length 0), (4, .ptr (H.length + 1) 0), (5, .ptr (H.length + 2) 0)], H ++ [some (fanC f), some cycZ, some [cb false]], V)) (fun k => t = (k : Int) ∧ existsF f t = 0 ∧ k < f.app.length ∧ k < f.lost.length ∧ f.lost.getD k false = false) ?_ ?_
  · refine SWp.s0 (SWp.seq (Wp.s ?_))
    simp -implicitDefEqProofs [go_sem]
    refine CC.mono (exists_cc _ _ f t hs) ?_
    rintro _ _ _ ⟨rfl, rfl, rfl⟩
    by_cases hx : existsF f t = 0
    case neg =>
      simp -implicitDefEqProofs [go_sem, hx]
      refine Wp.s ?_
      simp -implicitDefEqProofs [go_sem]
      exact stop (nextF_no hx) (by simp) (by simp)
    obtain ⟨hc, k, rfl, hk1, hk2⟩ := existsF_0 hx
    cases hb : f.lost[k] with
    | true =>
      simp -implicitDefEqProofs [go_sem, hx, hk2, hb]
      refine Wp.s ?_
      simp -implicitDefEqProofs [go_sem]
      exact stop (by rw [nextF_in hx hk1 hk2, if_pos hb]) (by simp) (by simp)
    | false =>
      simp -implicitDefEqProofs [go_sem, hx, hk2, hb]
      refine Wp.s ?_
      simp -implicitDefEqProofs [go_sem]
      exact ⟨k, ⟨rfl, hk1, hk2, by rw [List.getElem?_eq_getElem hk2, hb]; rfl⟩, Sh.forget (by simp [go_sem]) (by simp [cycZ]) rfl⟩
  rintro k ⟨rfl, hx, hk1, hk2, hb⟩
  rw [getD_at hk2] at hb
  dsimp only
  have e0 := nextF_in hx hk1 hk2
  rw [if_neg (by simp [hb])] at e0
  refine SWp0.seq (SWp0.seq (SWp.s0 (Wp.s ?_)))
  simp -implicitDefEqProofs [go_sem]
  refine CC.mono (needed_cc _ _ f k) ?_
  rintro _ _ _ ⟨rfl, rfl, rfl⟩
  simp -implicitDefEqProofs [go_sem]
  simp only [Nat.add_assoc, Nat.reduceAdd]
  refine SWp0.block (SWp0.range [(4, .ptr (H.length + 1) 0), (5, .ptr (H.length + 2) 0)] rfl (by simp [go_sem]) ?_)
  simp -implicitDefEqProofs [go_sem]
  generalize hbd : Code.block 1 _ = bd
  generalize has : Code.region 4 _ _ = asg
  refine CC.mono (needed1_cc (HN H f k cycZ false (lpc 26 #[22] asg bd [(4, .ptr (H.length + 1) 0), (5, .ptr (H.length + 2) 0)] .ready none) []) V (H.length + 5) (H.length + 3) (H.length + 4) f k hs hk1 (hget _ _ 3) (hget _ _ 4)
    (NQ H V f k f.app[k] (lpc 26 #[22] asg bd [(4, .ptr (H.length + 1) 0), (5, .ptr (H.length + 2) 0)] .ready none) (lpc 26 #[22] asg bd [(4, .ptr (H.length + 1) 0), (5, .ptr (H.length + 2) 0)] .done (some .ret))) ?_ ?_ ?_) ?_
  · rintro G V' ⟨rfl, ⟨-, rfl⟩ | ⟨c, -, rfl⟩⟩
    · exact ⟨rfl, hget _ _ 3, hget _ _ 4⟩
    · exact ⟨by simp [HN], hget _ _ 3, hget _ _ 4⟩
  · exact fun h => ⟨rfl, .inl ⟨h, rfl⟩⟩
  · intro c W hf
    refine YC.of_round (n := 26) (ps := #[22]) (bd := bd) (T := [(4, .ptr (H.length + 1) 0), (5, .ptr (H.length + 2) 0)]) (by rw [List.append_assoc]; exact hget _ _ 5) rfl (by decide) ?_
    subst hbd has
    refine Wp.s ?_
    simp -implicitDefEqProofs [go_sem, tps]
    generalize hlp : lpc 26 #[22] _ _ _ LoopState.busy none = lp
    generalize hqq : RQ 26 #[22] _ _ _ _ _ = QQ
    refine SWp.block (SWp.seq (Wp.s ?_))
    simp -implicitDefEqProofs [go_sem]
    have hcy : CySm c := by
      obtain ⟨i, hi, rfl⟩ := List.getElem_of_mem (List.mem_of_find?_eq_some hf)
      exact hs.cy hi
    refine CC.mono (copyCyc_cc _ _ c hcy) ?_
    rintro _ _ _ ⟨rfl, rfl, rfl⟩
    simp -implicitDefEqProofs [go_sem]
    refine ⟨by decide, ?_⟩
    refine Wp.s ?_
    simp -implicitDefEqProofs [go_sem]
    rw [← hqq, ← hlp]
    refine ⟨hget _ _ 5, rfl, HN H f k (cycC c) true (lpc 26 #[22] _ _ [(4, .ptr (H.length + 1) 0), (5, .ptr (H.length + 2) 0)] .done (some .ret)) [], ⟨rfl, .inr ⟨c, hf, rfl⟩⟩, [some (cycC c)], ?_⟩
    simp [HN, go_sem, cycZ]
  · rintro _ _ _ ⟨G, W, ⟨rfl, ⟨h1, rfl⟩ | ⟨c, h1, rfl⟩⟩, rfl⟩
    · refine .inl ⟨by rw [List.append_assoc]; exact hget _ _ 5, ?_⟩
      rw [← e0] at h1
      refine SWp0.seq (SWp.s0 (Wp.s ?_))
      simp -implicitDefEqProofs [go_sem, HN]
      refine ⟨by decide, SWp.s0 (Wp.s ?_)⟩
      simp -implicitDefEqProofs [go_sem]
      exact stop h1 (by simp) (by simp)
    · refine .inr (.inl ⟨by rw [List.append_assoc]; exact hget _ _ 5, ?_⟩)
      rw [← e0] at h1
      simp -implicitDefEqProofs [go_sem, HN, blk, thn]
      rw [h1]
      exact Fin.pu (r0 := dvN (some c)) (.refl _) (by simp [go_sem, dvN]) hokH (by simp) (by simp)
end Go.Proofs.Ytpadnceoacbaeaa
namespace Go.Proofs.Ytpadnceoacbaeaa
open Go.Proofs
theorem mulA1_cc (H : Hp) (V : List Nat) : CC Try.prog 68 [.v (.int .u64 1), .v (.int .u64 1)] H V (Pu (.tup [.v (.int .u64 0), .v (.int .u64 1)]) H V) := by
  have a1 : shr .u64 1 32 = 0 := by kernel_rfl
  have a2 : shr .u64 1 32 = 0 := by kernel_rfl
  have a3 : bitop .and .u64 1 4294967295 = 1 := by kernel_rfl
  have a4 : bitop .and .u64 1 4294967295 = 1 := by kernel_rfl
  have a5 : bitop .and .u64 0 4294967295 = 0 := by kernel_rfl
  have a6 : shr .u64 0 32 = 0 := by kernel_rfl
  have a7 : IntKind.u64.wrap 0 = 0 := by kernel_rfl
  have a8 : IntKind.u64.wrap 1 = 1 := by kernel_rfl
  refine CC.of_swp Try.func68 rfl (by kernel_rfl) (by rw [Try.ntmps68]; exact len_le _ _ rfl) fun hok hokH => ?_
  clear hok
  refine SWp.seq (Wp.s ?_)
  simp -implicitDefEqProofs [go_sem, args0]
  refine Wp.s ?_
  simp -implicitDefEqProofs [go_sem, a1, a2, a3, a4, a5, a6, a7, a8]
  exact Fin.pu (.refl _) (by simp [go_sem]) hokH (by simp) (by simp)
theorem mulB1_cc (H : Hp) (V : List Nat) : CC Try.prog 44 [.v (.int .u64 1), .v (.int .u64 1)] H V (Pu (.tup [.v (.int .u64 0), .v (.int .u64 1)]) H V) := by
  refine CC.of_swp Try.func44 rfl (by kernel_rfl) (by rw [Try.ntmps44]; exact len_le _ _ rfl) fun hok hokH => ?_
  clear hok
  refine SWp.seq (Wp.s ?_)
  simp -implicitDefEqProofs [go_sem, args0]
  refine SWp.seq (Wp.s ?_)
  simp -implicitDefEqProofs [go_sem]
  refine SWp.seq (Wp.s ?_)
  simp -implicitDefEqProofs [go_sem]
  refine CC.mono (mulA1_cc _ _) ?_
  rintro _ _ _ ⟨rfl, rfl, rfl⟩
  simp -implicitDefEqProofs [go_sem]
  refine Wp.s ?_
  simp -implicitDefEqProofs [go_sem]
  exact Fin.pu (.refl _) (by simp [go_sem]) hokH (by simp) (by simp)
def rpD1 (v : Int) : Nat → List CV
  | _ => [ci v]
def rpM1 : Nat → Nat
  | _ => 1
theorem rep1_cc (H : Hp) (V : List Nat) (tk : Tk) (v : Int) : CC Try.prog 20 [.sl tk 1 ([v].map ic), ci 1] H V (Pu (.sl .sh 1 ((List.replicate 1 v).map ic)) H V) := by
  have a1 : IntKind.u64.wrap 1 = 1 := by kernel_rfl
  have a8 : IntKind.u64.wrap 1 = 1 := by kernel_rfl
  have b8 : IntKind.i64.wrap 1 = 1 := by kernel_rfl
  refine CC.of_swp Try.func20 rfl (by kernel_rfl) (by rw [Try.ntmps20]; exact len_le _ _ rfl) fun hok hokH => ?_
  clear hok
  refine SWp.seq (Wp.s ?_)
  simp -implicitDefEqProofs [go_sem, args0]
  refine SWp.seq (Wp.s ?_)
  simp -implicitDefEqProofs [go_sem]
  refine SWp.seq (Wp.s ?_)
  simp -implicitDefEqProofs [go_sem, a1, a8]
  refine CC.mono (mulB1_cc _ _) ?_
  rintro _ _ _ ⟨rfl, rfl, rfl⟩
  simp -implicitDefEqProofs [go_sem]
  refine SWp.seq (Wp.s ?_)
  simp -implicitDefEqProofs [go_sem]
  refine SWp.seq (Wp.s ?_)
  simp -implicitDefEqProofs [go_sem, b8]
  have h0 : (List.replicate 1 [CV.v (.int .i64 0)]).flatten = List.replicate 1 (ci 0) := rfl
  refine SWp.seq (Wp.s ?_)
  simp -implicitDefEqProofs [go_sem, b8]
  refine ⟨rfl, ?_⟩
  refine SWp.join (α := Unit) (fun _ => ([(7, .bsl H.length 0 1 1)], H ++ [some (rpD1 v 0)], V)) (fun _ => True) ?_ ?_
  · refine SWp.block ?_
    refine SWp.loop (α := Nat) (fun k => ([(7, .bsl H.length 0 1 1), (8, ci (rpM1 k))], H ++ [some (rpD1 v k)], V)) (fun k => k ≤ 0) (fun k => 0 - k) 0 (by omega) (Sh.forget (by simp [go_sem, rpM1]) rfl rfl) ?_
    intro k hk
    dsimp only
    obtain rfl : k = 0 := by omega
    all_goals
      refine SWp.seq (SWp.seq (Wp.s ?_))
      simp -implicitDefEqProofs [go_sem, rpM1]
      refine Wp.s ?_
      simp -implicitDefEqProofs [go_sem]
      first
      | exact Sh.forget (by simp [go_sem]) rfl rfl
      | refine SWp.block ?_
        refine SWp.drawnT [] [7] (.s 0 .pl <| .s 1 .pl <| .s 2 .pl <| .s 3 .pl <| .s 4 .pl <| .s 5 .pl <| .s 6 .pl <| .s 7 .st <| .s 8 .pl <| .s 9 .pl <| .n) (by kernel_rfl) (by kernel_rfl) ?_
        simp -implicitDefEqProofs [go_sem]
        first
        | exact ⟨by first | decide | exact Nat.le_of_ble_eq_true rfl | rfl, by first | decide | exact Nat.le_of_ble_eq_true rfl | rfl, by first | decide | exact Nat.le_of_ble_eq_true rfl | rfl, 1, by omega, by omega, Sh.forget ⟨.refl _, .of_eq rfl, trivial⟩ rfl rfl⟩
        | exact ⟨by first | decide | exact Nat.le_of_ble_eq_true rfl | rfl, by first | decide | exact Nat.le_of_ble_eq_true rfl | rfl, by first | decide | exact Nat.le_of_ble_eq_true rfl | rfl, 2, by omega, by omega, Sh.forget ⟨.refl _, .of_eq rfl, trivial⟩ rfl rfl⟩
  · rintro _ -
    dsimp only
    refine SWp.seq (Wp.s ?_)
    simp -implicitDefEqProofs [go_sem]
    refine Wp.s ?_
    simp -implicitDefEqProofs [go_sem]
    refine Fin.froz (b := H.length) (cs := rpD1 v 0) ⟨rfl, rfl, rfl⟩ (.refl _) (by simp) (xs := (List.replicate 1 v).map ic) rfl (Nat.le_of_ble_eq_true rfl) (by omega) (by rw [okE_ints]; trivial) hokH (by simp) (by simp)
theorem mulA2_cc (H : Hp) (V : List Nat) : CC Try.prog 68 [.v (.int .u64 1), .v (.int .u64 2)] H V (Pu (.tup [.v (.int .u64 0), .v (.int .u64 2)]) H V) := by
  have a1 : shr .u64 1 32 = 0 := by kernel_rfl
  have a2 : shr .u64 2 32 = 0 := by kernel_rfl
  have a3 : bitop .and .u64 2 4294967295 = 2 := by kernel_rfl
  have a4 : bitop .and .u64 1 4294967295 = 1 := by kernel_rfl
  have a5 : bitop .and .u64 0 4294967295 = 0 := by kernel_rfl
  have a6 : shr .u64 0 32 = 0 := by kernel_rfl
  have a7 : IntKind.u64.wrap 0 = 0 := by kernel_rfl
  have a8 : IntKind.u64.wrap 2 = 2 := by kernel_rfl
  refine CC.of_swp Try.func68 rfl (by kernel_rfl) (by rw [Try.ntmps68]; exact len_le _ _ rfl) fun hok hokH => ?_
  clear hok
  refine SWp.seq (Wp.s ?_)
  simp -implicitDefEqProofs [go_sem, args0]
  refine Wp.s ?_
  simp -implicitDefEqProofs [go_sem, a1, a2, a3, a4, a5, a6, a7, a8]
  exact Fin.pu (.refl _) (by simp [go_sem]) hokH (by simp) (by simp)
theorem mulB2_cc (H : Hp) (V : List Nat) : CC Try.prog 44 [.v (.int .u64 1), .v (.int .u64 2)] H V (Pu (.tup [.v (.int .u64 0), .v (.int .u64 2)]) H V) := by
  refine CC.of_swp Try.func44 rfl (by kernel_rfl) (by rw [Try.ntmps44]; exact len_le _ _ rfl) fun hok hokH => ?_
  clear hok
  refine SWp.seq (Wp.s ?_)
  simp -implicitDefEqProofs [go_sem, args0]
  refine SWp.seq (Wp.s ?_)
  simp -implicitDefEqProofs [go_sem]
  refine SWp.seq (Wp.s ?_)
  simp -implicitDefEqProofs [go_sem]
  refine CC.mono (mulA2_cc _ _) ?_
  rintro _ _ _ ⟨rfl, rfl, rfl⟩
  simp -implicitDefEqProofs [go_sem]
  refine Wp.s ?_
  simp -implicitDefEqProofs [go_sem]
  exact Fin.pu (.refl _) (by simp [go_sem]) hokH (by simp) (by simp)
def rpD2 (v : Int) : Nat → List CV
  | 0 => [ci v, ci 0]
  | _ => [ci v, ci v]
def rpM2 : Nat → Nat
  | 0 => 1
  | _ => 2
theorem rep2_cc (H : Hp) (V : List Nat) (tk : Tk) (v : Int) : CC Try.prog 20 [.sl tk 1 ([v].map ic), ci 2] H V (Pu (.sl .sh 1 ((List.replicate 2 v).map ic)) H V) := by
  have a1 : IntKind.u64.wrap 1 = 1 := by kernel_rfl
  have a8 : IntKind.u64.wrap 2 = 2 := by kernel_rfl
  have b8 : IntKind.i64.wrap 2 = 2 := by kernel_rfl
  refine CC.of_swp Try.func20 rfl (by kernel_rfl) (by rw [Try.ntmps20]; exact len_le _ _ rfl) fun hok hokH => ?_
  clear hok
  refine SWp.seq (Wp.s ?_)
  simp -implicitDefEqProofs [go_sem, args0]
  refine SWp.seq (Wp.s ?_)
  simp -implicitDefEqProofs [go_sem]
  refine SWp.seq (Wp.s ?_)
  simp -implicitDefEqProofs [go_sem, a1, a8]
  refine CC.mono (mulB2_cc _ _) ?_
  rintro _ _ _ ⟨rfl, rfl, rfl⟩
  simp -implicitDefEqProofs [go_sem]
  refine SWp.seq (Wp.s ?_)
  simp -implicitDefEqProofs [go_sem]
  refine SWp.seq (Wp.s ?_)
  simp -implicitDefEqProofs [go_sem, b8]
  have h0 : (List.replicate 2 [CV.v (.int .i64 0)]).flatten = List.replicate 2 (ci 0) := rfl
  refine SWp.seq (Wp.s ?_)
  simp -implicitDefEqProofs [go_sem, b8]
  refine ⟨rfl, ?_⟩
  refine SWp.join (α := Unit) (fun _ => ([(7, .bsl H.length 0 2 1)], H ++ [some (rpD2 v 1)], V)) (fun _ => True) ?_ ?_
  · refine SWp.block ?_
    refine SWp.loop (α := Nat) (fun k => ([(7, .bsl H.length 0 2 1), (8, ci (rpM2 k))], H ++ [some (rpD2 v k)], V)) (fun k => k ≤ 1) (fun k => 1 - k) 0 (by omega) (Sh.forget (by simp [go_sem, rpM2]) rfl rfl) ?_
    intro k hk
    dsimp only
    obtain rfl | rfl : k = 0 ∨ k = 1 := by omega
    all_goals
      refine SWp.seq (SWp.seq (Wp.s ?_))
      simp -implicitDefEqProofs [go_sem, rpM2]
      refine Wp.s ?_
      simp -implicitDefEqProofs [go_sem]
      first
      | exact Sh.forget (by simp [go_sem]) rfl rfl
      | refine SWp.block ?_
        refine SWp.drawnT [] [7] (.s 0 .pl <| .s 1 .pl <| .s 2 .pl <| .s 3 .pl <| .s 4 .pl <| .s 5 .pl <| .s 6 .pl <| .s 7 .st <| .s 8 .pl <| .s 9 .pl <| .n) (by kernel_rfl) (by kernel_rfl) ?_
        simp -implicitDefEqProofs [go_sem]
        first
        | exact ⟨by first | decide | exact Nat.le_of_ble_eq_true rfl | rfl, by first | decide | exact Nat.le_of_ble_eq_true rfl | rfl, by first | decide | exact Nat.le_of_ble_eq_true rfl | rfl, 1, by omega, by omega, Sh.forget ⟨.refl _, .of_eq rfl, trivial⟩ rfl rfl⟩
        | exact ⟨by first | decide | exact Nat.le_of_ble_eq_true rfl | rfl, by first | decide | exact Nat.le_of_ble_eq_true rfl | rfl, by first | decide | exact Nat.le_of_ble_eq_true rfl | rfl, 2, by omega, by omega, Sh.forget ⟨.refl _, .of_eq rfl, trivial⟩ rfl rfl⟩
  · rintro _ -
    dsimp only
    refine SWp.seq (Wp.s ?_)
    simp -implicitDefEqProofs [go_sem]
    refine Wp.s ?_
    simp -implicitDefEqProofs [go_sem]
    refine Fin.froz (b := H.length) (cs := rpD2 v 1) ⟨rfl, rfl, rfl⟩ (.refl _) (by simp) (xs := (List.replicate 2 v).map ic) rfl (Nat.le_of_ble_eq_true rfl) (by omega) (by rw [okE_ints]; trivial) hokH (by simp) (by simp)
theorem mulA3_cc (H : Hp) (V : List Nat) : CC Try.prog 68 [.v (.int .u64 1), .v (.int .u64 3)] H V (Pu (.tup [.v (.int .u64 0), .v (.int .u64 3)]) H V) := by
  have a1 : shr .u64 1 32 = 0 := by kernel_rfl
  have a2 : shr .u64 3 32 = 0 := by kernel_rfl
  have a3 : bitop .and .u64 3 4294967295 = 3 := by kernel_rfl
  have a4 : bitop .and .u64 1 4294967295 = 1 := by kernel_rfl
  have a5 : bitop .and .u64 0 4294967295 = 0 := by kernel_rfl
  have a6 : shr .u64 0 32 = 0 := by kernel_rfl
  have a7 : IntKind.u64.wrap 0 = 0 := by kernel_rfl
  have a8 : IntKind.u64.wrap 3 = 3 := by kernel_rfl
  refine CC.of_swp Try.func68 rfl (by kernel_rfl) (by rw [Try.ntmps68]; exact len_le _ _ rfl) fun hok hokH => ?_
  clear hok
  refine SWp.seq (Wp.s ?_)
  simp -implicitDefEqProofs [go_sem, args0]
  refine Wp.s ?_
  simp -implicitDefEqProofs [go_sem, a1, a2, a3, a4, a5, a6, a7, a8]
  exact Fin.pu (.refl _) (by simp [go_sem]) hokH (by simp) (by simp)
theorem mulB3_cc (H : Hp) (V : List Nat) : CC Try.prog 44 [.v (.int .u64 1), .v (.int .u64 3)] H V (Pu (.tup [.v (.int .u64 0), .v (.int .u64 3)]) H V) := by
  refine CC.of_swp Try.func44 rfl (by kernel_rfl) (by rw [Try.ntmps44]; exact len_le _ _ rfl) fun hok hokH => ?_
  clear hok
  refine SWp.seq (Wp.s ?_)
  simp -implicitDefEqProofs [go_sem, args0]
  refine SWp.seq (Wp.s ?_)
  simp -implicitDefEqProofs [go_sem]
  refine SWp.seq (Wp.s ?_)
  simp -implicitDefEqProofs [go_sem]
  refine CC.mono (mulA3_cc _ _) ?_
  rintro _ _ _ ⟨rfl, rfl, rfl⟩
  simp -implicitDefEqProofs [go_sem]
  refine Wp.s ?_
  simp -implicitDefEqProofs [go_sem]
  exact Fin.pu (.refl _) (by simp [go_sem]) hokH (by simp) (by simp)
def rpD3 (v : Int) : Nat → List CV
  | 0 => [ci v, ci 0, ci 0]
  | 1 => [ci v, ci v, ci 0]
  | _ => [ci v, ci v, ci v]
def rpM3 : Nat → Nat
  | 0 => 1
  | 1 => 2
  | _ => 3
theorem rep3_cc (H : Hp) (V : List Nat) (tk : Tk) (v : Int) : CC Try.prog 20 [.sl tk 1 ([v].map ic), ci 3] H V (Pu (.sl .sh 1 ((List.replicate 3 v).map ic)) H V) := by
  have a1 : IntKind.u64.wrap 1 = 1 := by kernel_rfl
  have a8 : IntKind.u64.wrap 3 = 3 := by kernel_rfl
  have b8 : IntKind.i64.wrap 3 = 3 := by kernel_rfl
  refine CC.of_swp Try.func20 rfl (by kernel_rfl) (by rw [Try.ntmps20]; exact len_le _ _ rfl) fun hok hokH => ?_
  clear hok
  refine SWp.seq (Wp.s ?_)
  simp -implicitDefEqProofs [go_sem, args0]
  refine SWp.seq (Wp.s ?_)
  simp -implicitDefEqProofs [go_sem]
  refine SWp.seq (Wp.s ?_)
  simp -implicitDefEqProofs [go_sem, a1, a8]
  refine CC.mono (mulB3_cc _ _) ?_
  rintro _ _ _ ⟨rfl, rfl, rfl⟩
  simp -implicitDefEqProofs [go_sem]
  refine SWp.seq (Wp.s ?_)
  simp -implicitDefEqProofs [go_sem]
  refine SWp.seq (Wp.s ?_)
  simp -implicitDefEqProofs [go_sem, b8]
  have h0 : (List.replicate 3 [CV.v (.int .i64 0)]).flatten = List.replicate 3 (ci 0) := rfl
  refine SWp.seq (Wp.s ?_)
  simp -implicitDefEqProofs [go_sem, b8]
  refine ⟨rfl, ?_⟩
  refine SWp.join (α := Unit) (fun _ => ([(7, .bsl H.length 0 3 1)], H ++ [some (rpD3 v 2)], V)) (fun _ => True) ?_ ?_
  · refine SWp.block ?_
    refine SWp.loop (α := Nat) (fun k => ([(7, .bsl H.length 0 3 1), (8, ci (rpM3 k))], H ++ [some (rpD3 v k)], V)) (fun k => k ≤ 2) (fun k => 2 - k) 0 (by omega) (Sh.forget (by simp [go_sem, rpM3]) rfl rfl) ?_
    intro k hk
    dsimp only
    obtain rfl | rfl | rfl : k = 0 ∨ k = 1 ∨ k = 2 := by omega
    all_goals
      refine SWp.seq (SWp.seq (Wp.s ?_))
      simp -implicitDefEqProofs [go_sem, rpM3]
      refine Wp.s ?_
      simp -implicitDefEqProofs [go_sem]
      first
      | exact Sh.forget (by simp [go_sem]) rfl rfl
      | refine SWp.block ?_
        refine SWp.drawnT [] [7] (.s 0 .pl <| .s 1 .pl <| .s 2 .pl <| .s 3 .pl <| .s 4 .pl <| .s 5 .pl <| .s 6 .pl <| .s 7 .st <| .s 8 .pl <| .s 9 .pl <| .n) (by kernel_rfl) (by kernel_rfl) ?_
        simp -implicitDefEqProofs [go_sem]
        first
        | exact ⟨by first | decide | exact Nat.le_of_ble_eq_true rfl | rfl, by first | decide | exact Nat.le_of_ble_eq_true rfl | rfl, by first | decide | exact Nat.le_of_ble_eq_true rfl | rfl, 1, by omega, by omega, Sh.forget ⟨.refl _, .of_eq rfl, trivial⟩ rfl rfl⟩
        | exact ⟨by first | decide | exact Nat.le_of_ble_eq_true rfl | rfl, by first | decide | exact Nat.le_of_ble_eq_true rfl | rfl, by first | decide | exact Nat.le_of_ble_eq_true rfl | rfl, 2, by omega, by omega, Sh.forget ⟨.refl _, .of_eq rfl, trivial⟩ rfl rfl⟩
  · rintro _ -
    dsimp only
    refine SWp.seq (Wp.s ?_)
    simp -implicitDefEqProofs [go_sem]
    refine Wp.s ?_
    simp -implicitDefEqProofs [go_sem]
    refine Fin.froz (b := H.length) (cs := rpD3 v 2) ⟨rfl, rfl, rfl⟩ (.refl _) (by simp) (xs := (List.replicate 3 v).map ic) rfl (Nat.le_of_ble_eq_true rfl) (by omega) (by rw [okE_ints]; trivial) hokH (by simp) (by simp)
theorem mulA4_cc (H : Hp) (V : List Nat) : CC Try.prog 68 [.v (.int .u64 1), .v (.int .u64 4)] H V (Pu (.tup [.v (.int .u64 0), .v (.int .u64 4)]) H V) := by
  have a1 : shr .u64 1 32 = 0 := by kernel_rfl
  have a2 : shr .u64 4 32 = 0 := by kernel_rfl
  have a3 : bitop .and .u64 4 4294967295 = 4 := by kernel_rfl
  have a4 : bitop .and .u64 1 4294967295 = 1 := by kernel_rfl
  have a5 : bitop .and .u64 0 4294967295 = 0 := by kernel_rfl
  have a6 : shr .u64 0 32 = 0 := by kernel_rfl
  have a7 : IntKind.u64.wrap 0 = 0 := by kernel_rfl
  have a8 : IntKind.u64.wrap 4 = 4 := by kernel_rfl
  refine CC.of_swp Try.func68 rfl (by kernel_rfl) (by rw [Try.ntmps68]; exact len_le _ _ rfl) fun hok hokH => ?_
  clear hok
  refine SWp.seq (Wp.s ?_)
  simp -implicitDefEqProofs [go_sem, args0]
  refine Wp.s ?_
  simp -implicitDefEqProofs [go_sem, a1, a2, a3, a4, a5, a6, a7, a8]
  exact Fin.pu (.refl _) (by simp [go_sem]) hokH (by simp) (by simp)
theorem mulB4_cc (H : Hp) (V : List Nat) : CC Try.prog 44 [.v (.int .u64 1), .v (.int .u64 4)] H V (Pu (.tup [.v (.int .u64 0), .v (.int .u64 4)]) H V) := by
  refine CC.of_swp Try.func44 rfl (by kernel_rfl) (by rw [Try.ntmps44]; exact len_le _ _ rfl) fun hok hokH => ?_
  clear hok
  refine SWp.seq (Wp.s ?_)
  simp -implicitDefEqProofs [go_sem, args0]
  refine SWp.seq (Wp.s ?_)
  simp -implicitDefEqProofs [go_sem]
  refine SWp.seq (Wp.s ?_)
  simp -implicitDefEqProofs [go_sem]
  refine CC.mono (mulA4_cc _ _) ?_
  rintro _ _ _ ⟨rfl, rfl, rfl⟩
  simp -implicitDefEqProofs [go_sem]
  refine Wp.s ?_
  simp -implicitDefEqProofs [go_sem]
  exact Fin.pu (.refl _) (by simp [go_sem]) hokH (by simp) (by simp)
def rpD4 (v : Int) : Nat → List CV
  | 0 => [ci v, ci 0, ci 0, ci 0]
  | 1 => [ci v, ci v, ci 0, ci 0]
  | _ => [ci v, ci v, ci v, ci v]
def rpM4 : Nat → Nat
  | 0 => 1
  | 1 => 2
  | _ => 4
theorem rep4_cc (H : Hp) (V : List Nat) (tk : Tk) (v : Int) : CC Try.prog 20 [.sl tk 1 ([v].map ic), ci 4] H V (Pu (.sl .sh 1 ((List.replicate 4 v).map ic)) H V) := by
  have a1 : IntKind.u64.wrap 1 = 1 := by kernel_rfl
  have a8 : IntKind.u64.wrap 4 = 4 := by kernel_rfl
  have b8 : IntKind.i64.wrap 4 = 4 := by kernel_rfl
  refine CC.of_swp Try.func20 rfl (by kernel_rfl) (by rw [Try.ntmps20]; exact len_le _ _ rfl) fun hok hokH => ?_
  clear hok
  refine SWp.seq (Wp.s ?_)
  simp -implicitDefEqProofs [go_sem, args0]
  refine SWp.seq (Wp.s ?_)
  simp -implicitDefEqProofs [go_sem]
  refine SWp.seq (Wp.s ?_)
  simp -implicitDefEqProofs [go_sem, a1, a8]
  refine CC.mono (mulB4_cc _ _) ?_
  rintro _ _ _ ⟨rfl, rfl, rfl⟩
  simp -implicitDefEqProofs [go_sem]
  refine SWp.seq (Wp.s ?_)
  simp -implicitDefEqProofs [go_sem]
  refine SWp.seq (Wp.s ?_)
  simp -implicitDefEqProofs [go_sem, b8]
  have h0 : (List.replicate 4 [CV.v (.int .i64 0)]).flatten = List.replicate 4 (ci 0) := rfl
  refine SWp.seq (Wp.s ?_)
  simp -implicitDefEqProofs [go_sem, b8]
  refine ⟨rfl, ?_⟩
  refine SWp.join (α := Unit) (fun _ => ([(7, .bsl H.length 0 4 1)], H ++ [some (rpD4 v 2)], V)) (fun _ => True) ?_ ?_
  · refine SWp.block ?_
    refine SWp.loop (α := Nat) (fun k => ([(7, .bsl H.length 0 4 1), (8, ci (rpM4 k))], H ++ [some (rpD4 v k)], V)) (fun k => k ≤ 2) (fun k => 2 - k) 0 (by omega) (Sh.forget (by simp [go_sem, rpM4]) rfl rfl) ?_
    intro k hk
    dsimp only
    obtain rfl | rfl | rfl : k = 0 ∨ k = 1 ∨ k = 2 := by omega
    all_goals
      refine SWp.seq (SWp.seq (Wp.s ?_))
      simp -implicitDefEqProofs [go_sem, rpM4]
      refine Wp.s ?_
      simp -implicitDefEqProofs [go_sem]
      first
      | exact Sh.forget (by simp [go_sem]) rfl rfl
      | refine SWp.block ?_
        refine SWp.drawnT [] [7] (.s 0 .pl <| .s 1 .pl <| .s 2 .pl <| .s 3 .pl <| .s 4 .pl <| .s 5 .pl <| .s 6 .pl <| .s 7 .st <| .s 8 .pl <| .s 9 .pl <| .n) (by kernel_rfl) (by kernel_rfl) ?_
        simp -implicitDefEqProofs [go_sem]
        first
        | exact ⟨by first | decide | exact Nat.le_of_ble_eq_true rfl | rfl, by first | decide | exact Nat.le_of_ble_eq_true rfl | rfl, by first | decide | exact Nat.le_of_ble_eq_true rfl | rfl, 1, by omega, by omega, Sh.forget ⟨.refl _, .of_eq rfl, trivial⟩ rfl rfl⟩
        | exact ⟨by first | decide | exact Nat.le_of_ble_eq_true rfl | rfl, by first | decide | exact Nat.le_of_ble_eq_true rfl | rfl, by first | decide | exact Nat.le_of_ble_eq_true rfl | rfl, 2, by omega, by omega, Sh.forget ⟨.refl _, .of_eq rfl, trivial⟩ rfl rfl⟩
  · rintro _ -
    dsimp only
    refine SWp.seq (Wp.s ?_)
    simp -implicitDefEqProofs [go_sem]
    refine Wp.s ?_
    simp -implicitDefEqProofs [go_sem]
    refine Fin.froz (b := H.length) (cs := rpD4 v 2) ⟨rfl, rfl, rfl⟩ (.refl _) (by simp) (xs := (List.replicate 4 v).map ic) rfl (Nat.le_of_ble_eq_true rfl) (by omega) (by rw [okE_ints]; trivial) hokH (by simp) (by simp)
theorem rep_cc (H : Hp) (V : List Nat) (tk : Tk) (v t : Int) (h1 : 1 ≤ t) (h4 : t ≤ 4) : CC Try.prog 20 [.sl tk 1 ([v].map ic), ci t] H V (Pu (.sl .sh 1 ((List.replicate t.toNat v).map ic)) H V) := by
  obtain rfl | rfl | rfl | rfl : t = 1 ∨ t = 2 ∨ t = 3 ∨ t = 4 := by omega
  · exact rep1_cc H V tk v
  · exact rep2_cc H V tk v
  · exact rep3_cc H V tk v
  · exact rep4_cc H V tk v
theorem zeros_bo (n : Nat) : (List.replicate n [CV.v (.bool false)]).flatten = (List.replicate n false).map cbo := by
  induction n with
  | zero => rfl
  | succ n ih => rw [List.replicate_succ, List.flatten_cons, ih, List.replicate_succ, List.map_cons]; rfl
theorem New_f_cc (H : Hp) (V : List Nat) (t l a : Int) : CC Try.prog 6 [ci t, ci l, ci a] H V (Pu (dvF (newFan t l a)) H V) := by
  refine CC.of_swp Try.func6 rfl (by kernel_rfl) (by rw [Try.ntmps6]; exact len_le _ _ rfl) fun hok hokH => ?_
  clear hok
  have stop : ∀ {e : Nat} {H' : Hp} {V' : List Nat}, newFan t l a = .error e → H'.take H.length = H → V'.take V.length = V → Fin H.length V.length (Pu (dvF (newFan t l a)) H V) (.tup [.agg fanZ, er e]) H' V' := fun h1 h2 h3 => by
    rw [h1]; exact Fin.pu (.tup (.cons Le_zfan (.cons (.refl _) .nil))) (by simp [go_sem, dvF]) hokH h2 h3
  refine SWp.seq (Wp.s ?_)
  simp -implicitDefEqProofs [go_sem, args0]
  refine SWp.join (α := Unit) (fun _ => ([(0, ci t), (1, ci l), (2, ci a), (6, .ptr H.length 0)], H ++ [some fanZ], V)) (fun _ => ¬ (t < 1 ∨ 4 < t) ∧ ¬ (l < 1 ∨ 1024 < l ∨ a < 0 ∨ 1073741824 < a)) ?_ ?_
  · refine SWp.block (SWp.seq (Wp.s ?_))
    by_cases a1 : t < 1
    · simp -implicitDefEqProofs [go_sem, a1]
      refine Wp.s ?_
      simp -implicitDefEqProofs [go_sem]
      exact stop (by rw [newFan, if_pos (.inl a1)]) (by simp) (by simp)
    by_cases a2 : 4 < t
    · simp -implicitDefEqProofs [go_sem, a1, a2]
      refine Wp.s ?_
      simp -implicitDefEqProofs [go_sem]
      exact stop (by rw [newFan, if_pos (.inr a2)]) (by simp) (by simp)
    simp -implicitDefEqProofs [go_sem, a1, a2]
    by_cases b1 : l < 1
    · refine Wp.s ?_
      simp -implicitDefEqProofs [go_sem, b1]
      exact stop (by rw [newFan, if_neg (by omega), if_pos (.inl b1)]) (by simp) (by simp)
    by_cases b2 : 1024 < l
    · refine Wp.s ?_
      simp -implicitDefEqProofs [go_sem, b1, b2]
      exact stop (by rw [newFan, if_neg (by omega), if_pos (.inr (.inl b2))]) (by simp) (by simp)
    by_cases b3 : a < 0
    · refine Wp.s ?_
      simp -implicitDefEqProofs [go_sem, b1, b2, b3]
      exact stop (by rw [newFan, if_neg (by omega), if_pos (.inr (.inr (.inl b3)))]) (by simp) (by simp)
    by_cases b4 : 1073741824 < a
    · refine Wp.s ?_
      simp -implicitDefEqProofs [go_sem, b1, b2, b3, b4]
      exact stop (by rw [newFan, if_neg (by omega), if_pos (.inr (.inr (.inr b4)))]) (by simp) (by simp)
    refine Wp.s ?_
    simp -implicitDefEqProofs [go_sem, b1, b2, b3, b4]
    refine ⟨by omega, Sh.forget (by simp [go_sem]) (by simp [fanZ]) rfl⟩
  rintro _ ⟨h1, h2⟩
  dsimp only
  have e0 : newFan t l a = .ok ⟨l, [], List.replicate t.toNat a, List.replicate t.toNat false⟩ := by rw [newFan, if_neg h1, if_neg h2]
  refine SWp.seq (SWp.drawnT [] [8] (.s 0 .pl <| .s 1 .pl <| .s 2 .pl <| .s 3 .pl <| .s 5 .pl <| .c 4 <| .s 6 .pl <| .s 7 .pl <| .s 8 .st <| .s 9 .pl <| .n) (by kernel_rfl) (by kernel_rfl) ?_)
  simp -implicitDefEqProofs [go_sem]
  refine ⟨_, fun H V => rep_cc H V .ti a t (by omega) (by omega), ?_⟩
  simp -implicitDefEqProofs [go_sem]
  refine ⟨by omega, by omega, by decide, ?_⟩
  refine Wp.s ?_
  simp -implicitDefEqProofs [go_sem]
  rw [e0]
  have hz : List.replicate t.toNat (CV.v (.bool false)) = (List.replicate t.toNat false).map cbo := by rw [List.map_replicate]
  have hi : List.replicate t.toNat (ic a) = (List.replicate t.toNat a).map ic := by rw [List.map_replicate]
  rw [hz, hi]
  have e2 := chunk_bo (List.replicate t.toNat false) t.toNat (by simp)
  refine Fin.frozY (b := H.length + 1) (cs := (List.replicate t.toNat false).map cbo) (r1 := .tup [.agg [ci l, .sl .sh 5 [], .sl .sh 1 ((List.replicate t.toNat a).map ic), .bsl (H.length + 1) 0 t.toNat 1], er 0]) (r2 := dvF (.ok ⟨l, [], List.replicate t.toNat a, List.replicate t.toNat false⟩)) ⟨rfl, rfl, rfl⟩ ?_ (hget _ _ 1) (.tup (.cons (.agg (.cons (.refl _) (.cons (.refl _) (.cons (.refl _) (.cons ?_ .nil))))) (.cons (.refl _) .nil))) (by omega) (by simp [go_sem, dvF]) hokH (by simp) (by simp)
  · exact .tup (.cons (.agg (.cons (.refl _) (.cons (.nil 5 (by decide)) (.cons (.refl _) (.cons (.refl _) .nil))))) (.cons (.refl _) .nil))
  · rw [← e2]; exact .bsl 0 _ 1 (by simp)
theorem empty_cc (H : Hp) (V : List Nat) (n : Int) (h : 1 ≤ n) (h2 : n ≤ 1000000) : CC Try.prog 15 [ci n] H V (Pu (.agg (cycC ⟨n - 1, n, 0, [], []⟩)) H V) := by
  refine CC.of_swp Try.func15 rfl (by kernel_rfl) (by rw [Try.ntmps15]; exact len_le _ _ rfl) fun hok hokH => ?_
  clear hok
  have w1 : IntKind.i64.wrap (n - 1) = n - 1 := IntWalk.i64_in _ ⟨by omega, by omega⟩
  refine SWp.seq (Wp.s ?_)
  simp -implicitDefEqProofs [go_sem, args0]
  refine Wp.s ?_
  simp -implicitDefEqProofs [go_sem, w1]
  exact Fin.pu (r0 := .agg (cycC ⟨n - 1, n, 0, [], []⟩)) (.agg (.cons (.refl _) (.cons (.refl _) (.cons (.refl _) (.cons (.nil 1 (by decide)) (.cons (.nil 3 (by decide)) .nil)))))) (by simp [go_sem]) hokH (by simp) (by simp)
theorem eqInt_cc (H : Hp) (V : List Nat) (t1 t2 : Tk) (x y : List Int) (hl : x.length ≤ 1000000000) : CC Try.prog 18 [.sl t1 1 (x.map ic), .sl t2 1 (y.map ic)] H V (Pu (.v (.bool (decide (x = y)))) H V) := by
  refine CC.of_swp Try.func18 rfl (by kernel_rfl) (by rw [Try.ntmps18]; exact len_le _ _ rfl) fun hok hokH => ?_
  clear hok
  refine SWp.seq (Wp.s ?_)
  simp -implicitDefEqProofs [go_sem, args0]
  refine SWp.seq (SWp.seq (Wp.s ?_))
  by_cases hlen : x.length = y.length
  case neg =>
    have hlen' : ¬ (x.length : Int) = (y.length : Int) := by omega
    simp -implicitDefEqProofs [go_sem, hlen']
    refine Wp.s ?_
    simp -implicitDefEqProofs [go_sem, hlen, hlen']
    exact Fin.bool (by simp [show x ≠ y from fun e => hlen (by rw [e])]) hokH (by simp) (by simp)
  simp -implicitDefEqProofs [go_sem, hlen]
  refine Wp.s ?_
  simp -implicitDefEqProofs [go_sem, hlen]
  refine SWp.join (α := Unit) (fun _ => ([], H, V)) (fun _ => x = y) ?_ ?_
  · refine SWp.seq (Wp.s ?_)
    simp -implicitDefEqProofs [go_sem]
    refine SWp.block ?_
    refine SWp.loop (α := Nat) (fun i => ([(0, .sl t1 1 (x.map ic)), (1, .sl t2 1 (y.map ic)), (12, ci x.length), (13, ci i)], H, V)) (fun i => i ≤ x.length ∧ x.take i = y.take i) (fun i => x.length - i) 0 ⟨Nat.zero_le _, rfl⟩ (Sh.forget (by simp [go_sem, hlen]) rfl rfl) ?_
    rintro i ⟨hi, hp⟩
    dsimp only
    refine SWp.seq (Wp.s ?_)
    simp -implicitDefEqProofs [go_sem]
    refine SWp.seq (Wp.s ?_)
    simp -implicitDefEqProofs [go_sem]
    refine ⟨fun h => ?_, fun h => ⟨eq_of_take hlen h hp, Sh.forget (by simp [go_sem]) rfl rfl⟩⟩
    have h2 : i < y.length := by omega
    refine SWp.seq (SWp.block (SWp.seq (Wp.s ?_)))
    simp -implicitDefEqProofs [go_sem]
    refine SWp.seq (SWp.drawnT [] [] (.s 0 .pl <| .s 1 .pl <| .s 2 .pl <| .s 3 .pl <| .s 4 .pl <| .s 5 .pl <| .s 6 .pl <| .s 7 .pl <| .s 8 .pl <| .n) (by kernel_rfl) (by kernel_rfl) ?_)
    by_cases he : x[i] = y[i]
    · simp -implicitDefEqProofs [go_sem, h, h2, he]
      refine Wp.s ?_
      simp -implicitDefEqProofs [go_sem]
      refine Wp.s ?_
      simp -implicitDefEqProofs [go_sem]
      refine ⟨i + 1, ⟨by omega, take_eq_succ h h2 hp he⟩, by omega, Sh.forget ?_ rfl rfl⟩
      simp [go_sem, wrap_succ (show i ≤ 1000000000 by omega)]
    · simp -implicitDefEqProofs [go_sem, h, h2, he]
      refine Wp.s ?_
      simp -implicitDefEqProofs [go_sem]
      exact Fin.bool (by simp [ne_at h h2 he]) hokH (by simp) (by simp)
  · rintro _ he
    dsimp only
    refine Wp.s ?_
    simp -implicitDefEqProofs [go_sem]
    exact Fin.bool (by simp [he]) hokH (by simp) (by simp)
theorem eqInt1_cc (H : Hp) (V : List Nat) (t2 : Tk) (y : List Int) : CC Try.prog 18 [.v (.slice none 0 0), .sl t2 1 (y.map ic)] H V (Pu (.v (.bool (decide ([] = y)))) H V) :=
  CC.le (.cons (.nil 1 (by decide)) (.cons (.refl _) .nil)) (eqInt_cc H V .sh t2 [] y (by simp))

end Go.Proofs.Ytpadnceoacbaeaa
namespace Go.Proofs.Ytpadnceoacbaeaa
open Go.Proofs
theorem SameFan_cc (H : Hp) (V : List Nat) (a b : Fan) (hs : Sm a) : CC Try.prog 8 [.agg (fanC a), .agg (fanC b)] H V (Pu (.v (.bool (decide (a = b)))) H V) := by
  refine CC.of_swp Try.func8 rfl (by kernel_rfl) (by rw [Try.ntmps8]; exact len_le _ _ rfl) fun hok hokH => ?_
  clear hok
  have hkl := hs.kl
  have hal := hs.al
  have hll := hs.ll
  refine SWp.seq (Wp.s ?_)
  simp -implicitDefEqProofs [go_sem, args0]
  refine SWp.join (α := Unit) (fun _ => ([(2, .ptr H.length 0), (3, .ptr (H.length + 1) 0)], H ++ [some (fanC a), some (fanC b)], V)) (fun _ => a.limit = b.limit ∧ a.app = b.app ∧ a.kept.length = b.kept.length ∧ a.lost.length = b.lost.length) ?_ ?_
  · refine SWp.seq (Wp.s ?_)
    by_cases e1 : a.limit = b.limit
    case neg =>
      simp -implicitDefEqProofs [go_sem, e1]
      refine Wp.s ?_
      simp -implicitDefEqProofs [go_sem]
      exact Fin.bool (by simp [show a ≠ b from fun e => e1 (by rw [e])]) hokH (by simp) (by simp)
    simp -implicitDefEqProofs [go_sem, e1]
    refine CC.mono (SameInts_cc _ _ _ _ a.app b.app (by omega)) ?_
    rintro _ _ _ ⟨rfl, rfl, rfl⟩
    by_cases e2 : a.app = b.app
    case neg =>
      simp -implicitDefEqProofs [go_sem, e2]
      refine Wp.s ?_
      simp -implicitDefEqProofs [go_sem]
      exact Fin.bool (by simp [show a ≠ b from fun e => e2 (by rw [e])]) hokH (by simp) (by simp)
    by_cases e3 : a.kept.length = b.kept.length
    case neg =>
      have e3' : ¬ (a.kept.length : Int) = (b.kept.length : Int) := by omega
      simp -implicitDefEqProofs [go_sem, e2, e3, e3']
      refine Wp.s ?_
      simp -implicitDefEqProofs [go_sem]
      exact Fin.bool (by simp [show a ≠ b from fun e => e3 (by rw [e])]) hokH (by simp) (by simp)
    have e3' : (a.kept.length : Int) = (b.kept.length : Int) := by omega
    by_cases e4 : a.lost.length = b.lost.length
    case neg =>
      have e4' : ¬ (a.lost.length : Int) = (b.lost.length : Int) := by omega
      simp -implicitDefEqProofs [go_sem, e2, e3, e3', e4, e4']
      refine Wp.s ?_
      simp -implicitDefEqProofs [go_sem]
      exact Fin.bool (by simp [show a ≠ b from fun e => e4 (by rw [e])]) hokH (by simp) (by simp)
    have e4' : (a.lost.length : Int) = (b.lost.length : Int) := by omega
    simp -implicitDefEqProofs [go_sem, e2, e3, e3', e4, e4']
    refine Wp.s ?_
    simp -implicitDefEqProofs [go_sem]
    first
    | exact ⟨⟨e1, e2, e3, e4⟩, Sh.forget (by simp [go_sem]) rfl rfl⟩
    | exact Sh.forget (by simp [go_sem]) rfl rfl
  rintro _ ⟨e1, e2, e3, e4⟩
  dsimp only
  refine SWp.join (α := Unit) (fun _ => ([(2, .ptr H.length 0), (3, .ptr (H.length + 1) 0)], H ++ [some (fanC a), some (fanC b)], V)) (fun _ => a.kept = b.kept) ?_ ?_
  · refine SWp.seq (Wp.s ?_)
    simp -implicitDefEqProofs [go_sem]
    refine SWp.block ?_
    refine SWp.loop (α := Nat) (fun i => ([(2, .ptr H.length 0), (3, .ptr (H.length + 1) 0), (5, ci i)], H ++ [some (fanC a), some (fanC b)], V)) (fun i => i ≤ a.kept.length ∧ a.kept.take i = b.kept.take i) (fun i => a.kept.length - i) 0 ⟨Nat.zero_le _, rfl⟩ (Sh.forget (by simp [go_sem]) rfl rfl) ?_
    rintro i ⟨hi, hp⟩
    dsimp only
    refine SWp.seq (SWp.seq (Wp.s ?_))
    simp -implicitDefEqProofs [go_sem]
    refine Wp.s ?_
    simp -implicitDefEqProofs [go_sem]
    refine ⟨fun h => ?_, fun h => ⟨eq_of_take e3 h hp, Sh.forget (by simp [go_sem]) rfl rfl⟩⟩
    have h2 : i < b.kept.length := by omega
    obtain ⟨c1, c2, c3⟩ := hs.kc _ (List.getElem_mem h)
    refine SWp.seq (SWp.block (SWp.seq (SWp.drawnT [] [] (.s 0 .pl <| .s 1 .pl <| .s 2 .pl <| .s 3 .pl <| .s 4 .pl <| .s 5 .pl <| .s 6 .pl <| .s 7 .pl <| .s 8 .pl <| .s 9 .pl <| .s 10 .pl <| .s 11 .pl <| .n) (by kernel_rfl) (by kernel_rfl) ?_)))
    simp -implicitDefEqProofs [go_sem, h, h2]
    refine CC.mono (SameCyc_cc _ _ a.kept[i] b.kept[i] (by omega) (by omega) c2) ?_
    rintro _ _ _ ⟨rfl, rfl, rfl⟩
    by_cases he : a.kept[i] = b.kept[i]
    · simp -implicitDefEqProofs [go_sem, he]
      refine Wp.s ?_
      simp -implicitDefEqProofs [go_sem]
      refine Wp.s ?_
      simp -implicitDefEqProofs [go_sem]
      refine ⟨i + 1, ⟨by omega, take_eq_succ h h2 hp he⟩, by omega, Sh.forget ?_ rfl rfl⟩
      simp [go_sem, wrap_succ (show i ≤ 1000000000 by omega)]
    · simp -implicitDefEqProofs [go_sem, he]
      refine Wp.s ?_
      simp -implicitDefEqProofs [go_sem]
      exact Fin.bool (by simp [show a ≠ b from fun e => ne_at h h2 he (by rw [e])]) hokH (by simp) (by simp)
  rintro _ e5
  dsimp only
  refine SWp.join (α := Unit) (fun _ => ([], H ++ [some (fanC a), some (fanC b)], V)) (fun _ => a.lost = b.lost) ?_ ?_
  · refine SWp.seq (Wp.s ?_)
    simp -implicitDefEqProofs [go_sem]
    refine SWp.block ?_
    refine SWp.loop (α := Nat) (fun i => ([(2, .ptr H.length 0), (3, .ptr (H.length + 1) 0), (6, ci i)], H ++ [some (fanC a), some (fanC b)], V)) (fun i => i ≤ a.lost.length ∧ a.lost.take i = b.lost.take i) (fun i => a.lost.length - i) 0 ⟨Nat.zero_le _, rfl⟩ (Sh.forget (by simp [go_sem]) rfl rfl) ?_
    rintro i ⟨hi, hp⟩
    dsimp only
    refine SWp.seq (SWp.seq (Wp.s ?_))
    simp -implicitDefEqProofs [go_sem]
    refine Wp.s ?_
    simp -implicitDefEqProofs [go_sem]
    refine ⟨fun h => ?_, fun h => ⟨eq_of_take e4 h hp, Sh.forget (by simp [go_sem]) rfl rfl⟩⟩
    have h2 : i < b.lost.length := by omega
    refine SWp.seq (SWp.block (SWp.seq (SWp.drawnT [] [] (.s 0 .pl <| .s 1 .pl <| .s 2 .pl <| .s 3 .pl <| .s 4 .pl <| .s 5 .pl <| .s 6 .pl <| .s 7 .pl <| .s 8 .pl <| .s 9 .pl <| .s 10 .pl <| .n) (by kernel_rfl) (by kernel_rfl) ?_)))
    cases h3 : a.lost[i] <;> cases h4 : b.lost[i]
    case false.false | true.true =>
      simp -implicitDefEqProofs [go_sem, h, h2, h3, h4]
      refine Wp.s ?_
      simp -implicitDefEqProofs [go_sem]
      refine Wp.s ?_
      simp -implicitDefEqProofs [go_sem]
      refine ⟨i + 1, ⟨by omega, take_eq_succ h h2 hp (by rw [h3, h4])⟩, by omega, Sh.forget ?_ rfl rfl⟩
      simp [go_sem, wrap_succ (show i ≤ 1000000000 by omega)]
    case false.true | true.false =>
      simp -implicitDefEqProofs [go_sem, h, h2, h3, h4]
      refine Wp.s ?_
      simp -implicitDefEqProofs [go_sem]
      exact Fin.bool (by simp [show a ≠ b from fun e => ne_at h h2 (by rw [h3, h4]; decide) (by rw [e])]) hokH (by simp) (by simp)
  rintro _ e6
  dsimp only
  refine Wp.s ?_
  simp -implicitDefEqProofs [go_sem]
  exact Fin.bool (by simp [fan_ext e1 e5 e2 e6]) hokH (by simp) (by simp)
/-! ### Small ones -/
def few42 (f : Fan) : Bool := (f.kept.take 20).all few23 && (decide (f.kept.length ≤ 16) && (decide (f.app.length ≤ 10) && decide (f.lost.length ≤ 10)))
def fewK (f : Fan) (i : Nat) : Bool := (f.kept.take i).all few23
theorem fewK_bad {f : Fan} {i : Nat} (h : i < f.kept.length) (h6 : i < 20) (hb : few23 f.kept[i] = false) : few42 f = false := by
  unfold few42
  rw [Bool.and_eq_false_iff]
  left
  rw [List.all_eq_false]
  exact ⟨f.kept[i], List.mem_take_iff_getElem.2 ⟨i, by omega, rfl⟩, by simp [hb]⟩
theorem fewK_ok {f : Fan} {i : Nat} (hi : i ≤ f.kept.length) (h : f.kept.length ≤ i ∨ 20 ≤ i) (h6 : i ≤ 20) (hp : fewK f i = true) : few42 f = (decide (f.kept.length ≤ 16) && (decide (f.app.length ≤ 10) && decide (f.lost.length ≤ 10))) := by
  unfold few42
  have : f.kept.take 20 = f.kept.take i := by
    rcases h with h | h
    · rw [List.take_of_length_le (by omega), List.take_of_length_le (by omega)]
    · rw [show i = 20 by omega]
  rw [this]
  unfold fewK at hp
  rw [hp, Bool.true_and]
theorem few42_cc (H : Hp) (V : List Nat) (f : Fan) : CC Try.prog 4 [.agg (fanC f)] H V (Pu (.v (.bool (few42 f))) H V) := by
  refine CC.of_swp Try.func4 rfl (by kernel_rfl) (by rw [Try.ntmps4]; exact len_le _ _ rfl) fun hok hokH => ?_
  clear hok
  refine SWp.seq (Wp.s ?_)
  simp -implicitDefEqProofs [go_sem, args0]
  refine SWp.join (α := Unit) (fun _ => ([(1, .ptr H.length 0)], H ++ [some (fanC f)], V)) (fun _ => few42 f = (decide (f.kept.length ≤ 16) && (decide (f.app.length ≤ 10) && decide (f.lost.length ≤ 10)))) ?_ ?_
  · refine SWp.seq (Wp.s ?_)
    simp -implicitDefEqProofs [go_sem]
    refine SWp.block ?_
    refine SWp.loop (α := Nat) (fun i => ([(1, .ptr H.length 0), (3, ci i)], H ++ [some (fanC f)], V)) (fun i => i ≤ f.kept.length ∧ i ≤ 20 ∧ fewK f i = true) (fun i => 20 - i) 0 ⟨Nat.zero_le _, by omega, rfl⟩ (Sh.forget (by simp [go_sem]) rfl rfl) ?_
    rintro i ⟨hi, h6, hp⟩
    dsimp only
    refine SWp.seq (SWp.seq (Wp.s ?_))
    generalize hR : (fun _ : Unit => few42 f = (decide (f.kept.length ≤ 16) && (decide (f.app.length ≤ 10) && decide (f.lost.length ≤ 10)))) = R
    by_cases h : i < f.kept.length
    case neg =>
      have h' : ¬ (i : Int) < (f.kept.length : Int) := by omega
      simp -implicitDefEqProofs [go_sem, h, h']
      refine Wp.s ?_
      simp -implicitDefEqProofs [go_sem, h, h']
      exact ⟨fewK_ok hi (.inl (by omega)) h6 hp, Sh.forget (by simp [go_sem]) rfl rfl⟩
    by_cases h60 : i < 20
    case neg =>
      have h' : ¬ (i : Int) < 20 := by omega
      simp -implicitDefEqProofs [go_sem, h, h60, h']
      refine Wp.s ?_
      simp -implicitDefEqProofs [go_sem]
      exact ⟨fewK_ok hi (.inr (by omega)) h6 hp, Sh.forget (by simp [go_sem]) rfl rfl⟩
    have h' : (i : Int) < 20 := by omega
    simp -implicitDefEqProofs [go_sem, h, h60, h']
    refine Wp.s ?_
    simp -implicitDefEqProofs [go_sem]
    refine SWp.seq (SWp.block (SWp.seq (Wp.s ?_)))
    simp -implicitDefEqProofs [go_sem, h]
    refine CC.mono (few23_cc _ _ f.kept[i]) ?_
    rintro _ _ _ ⟨rfl, rfl, rfl⟩
    cases hb : few23 f.kept[i] with
    | false =>
      simp -implicitDefEqProofs [go_sem]
      refine Wp.s ?_
      simp -implicitDefEqProofs [go_sem]
      exact Fin.bool (fewK_bad h h60 hb).symm hokH (by simp) (by simp)
    | true =>
      simp -implicitDefEqProofs [go_sem]
      refine Wp.s ?_
      simp -implicitDefEqProofs [go_sem]
      refine Wp.s ?_
      simp -implicitDefEqProofs [go_sem]
      refine ⟨i + 1, ⟨by omega, by omega, all_take h hp hb⟩, by omega, Sh.forget ?_ rfl rfl⟩
      simp [go_sem, wrap_succ (show i ≤ 1000000000 by omega)]
  rintro _ e0
  dsimp only
  refine SWp.seq (Wp.s ?_)
  by_cases c1 : f.kept.length ≤ 16
  case neg =>
    have c1' : ¬ (f.kept.length : Int) ≤ 16 := by omega
    simp -implicitDefEqProofs [go_sem, c1']
    refine Wp.s ?_
    simp -implicitDefEqProofs [go_sem]
    exact Fin.bool (by rw [e0]; simp [c1]) hokH (by simp) (by simp)
  have c1' : (f.kept.length : Int) ≤ 16 := by omega
  by_cases c2 : f.app.length ≤ 10
  case neg =>
    have c2' : ¬ (f.app.length : Int) ≤ 10 := by omega
    simp -implicitDefEqProofs [go_sem, c1', c2']
    refine Wp.s ?_
    simp -implicitDefEqProofs [go_sem]
    exact Fin.bool (by rw [e0]; simp [c1, c2]) hokH (by simp) (by simp)
  have c2' : (f.app.length : Int) ≤ 10 := by omega
  by_cases c3 : f.lost.length ≤ 10
  case neg =>
    have c3' : ¬ (f.lost.length : Int) ≤ 10 := by omega
    simp -implicitDefEqProofs [go_sem, c1', c2', c3']
    refine Wp.s ?_
    simp -implicitDefEqProofs [go_sem]
    exact Fin.bool (by rw [e0]; simp [c1, c2, c3]) hokH (by simp) (by simp)
  have c3' : (f.lost.length : Int) ≤ 10 := by omega
  simp -implicitDefEqProofs [go_sem, c1', c2', c3']
  refine Wp.s ?_
  simp -implicitDefEqProofs [go_sem]
  exact Fin.bool (by rw [e0]; simp [c1, c2, c3]) hokH (by simp) (by simp)
theorem few22_S {l : List Wr} (h : few22 l = true) : l.length ≤ 1000000 ∧ WrS l := by
  unfold few22 at h
  rw [Bool.and_eq_true, decide_eq_true_eq, List.all_eq_true] at h
  refine ⟨by omega, fun w hw => ?_⟩
  rw [List.take_of_length_le (by omega)] at h
  have := h.1 w hw
  simp at this
  omega
theorem few23_S {c : Cyc} (h : few23 c = true) : CySm c := by
  unfold few23 at h
  rw [Bool.and_eq_true, decide_eq_true_eq] at h
  obtain ⟨a, b⟩ := few22_S h.2
  exact ⟨a, b, by omega⟩
theorem few42_S {f : Fan} (h : few42 f = true) : Sm f := by
  unfold few42 at h
  simp only [Bool.and_eq_true, decide_eq_true_eq, List.all_eq_true] at h
  obtain ⟨h0, h1, h2, h3⟩ := h
  refine ⟨by omega, by omega, by omega, fun c hc => ?_⟩
  rw [List.take_of_length_le (by omega)] at h0
  obtain ⟨a, b, d⟩ := few23_S (h0 c hc)
  exact ⟨a, b, d⟩
end Go.Proofs.Ytpadnceoacbaeaa
namespace Go.Proofs.Ytpadnceoacbaeaa
open Go.Proofs
def awC (n : Int) : Cyc := ⟨n - 1, n, 0, [], []⟩
def awF0 : Fan := ⟨2, [], [4, 4], [false, false]⟩
def awF1 : Fan := ⟨2, [awC 5], [4, 4], [false, false]⟩
def awF2 : Fan := ⟨2, [awC 5, awC 6], [4, 4], [false, false]⟩
def awF3 : Fan := ⟨2, [awC 5, awC 6], [5, 4], [false, false]⟩
def awF4 : Fan := ⟨2, [awC 6, awC 7], [5, 4], [false, true]⟩
def awJ (n : Int) : Fan := ⟨2, [awC 6, awC 7], [5, n], [false, false]⟩
theorem aw_0 : newFan 2 2 4 = .ok awF0 := by kernel_rfl
theorem aw_1 : pushF awF0 (awC 5) = .ok (awF1, []) := by kernel_rfl
theorem aw_2 : pushF awF1 (awC 6) = .ok (awF2, []) := by kernel_rfl
theorem aw_3 : appF awF2 0 5 = .ok awF3 := by kernel_rfl
theorem aw_4 : nextF awF3 0 = some (awC 6) := by kernel_rfl
theorem aw_5 : nextF awF3 1 = some (awC 5) := by kernel_rfl
theorem aw_6 : oldF awF3 = 4 := by kernel_rfl
theorem aw_7 : pushF awF3 (awC 7) = .ok (awF4, [1]) := by kernel_rfl
theorem aw_8 : oldF awF4 = 5 := by kernel_rfl
theorem aw_9 : joinF awF4 1 4 = .error 15 := by kernel_rfl
theorem aw_j5 : joinF awF4 1 5 = .ok (awJ 5) := by kernel_rfl
theorem aw_j6 : joinF awF4 1 6 = .ok (awJ 6) := by kernel_rfl
theorem aw_j7 : joinF awF4 1 7 = .ok (awJ 7) := by kernel_rfl
theorem awC_S (n : Int) : CySm (awC n) := ⟨by simp [awC], (fun w hw => by cases hw), by simp [awC]⟩
theorem awSm {f : Fan} {a b : Int} {c d : Bool} {k : List Int} (h1 : f.app = [a, b]) (h2 : f.lost = [c, d]) (h3 : f.kept = k.map awC) (h4 : k.length ≤ 2) : Sm f := ⟨by rw [h3, List.length_map]; omega, by rw [h1]; simp, by rw [h2]; simp, fun c hc => by
  rw [h3] at hc
  obtain ⟨n, -, rfl⟩ := List.mem_map.1 hc
  obtain ⟨p, q, r⟩ := awC_S n
  exact ⟨p, q, r⟩⟩
theorem awS0 : Sm awF0 := awSm (k := []) rfl rfl rfl (by decide)
theorem awS1 : Sm awF1 := awSm (k := [5]) rfl rfl rfl (by decide)
theorem awS2 : Sm awF2 := awSm (k := [5, 6]) rfl rfl rfl (by decide)
theorem awS3 : Sm awF3 := awSm (k := [5, 6]) rfl rfl rfl (by decide)
theorem awS4 : Sm awF4 := awSm (k := [6, 7]) rfl rfl rfl (by decide)
theorem awSJ (n : Int) : Sm (awJ n) := awSm (k := [6, 7]) rfl rfl rfl (by decide)
theorem empty_cc' (H : Hp) (V : List Nat) (n : Int) (h : 1 ≤ n) (h2 : n ≤ 1000000) : CC Try.prog 15 [ci n] H V (Pu (.agg (cycC (awC n))) H V) := empty_cc H V n h h2
theorem awake_cc (H : Hp) (V : List Nat)  : CC Try.prog 5 [] H V (Pu (cb true) H V) := by
  refine CC.of_swp Try.func5 rfl (by kernel_rfl) (by rw [Try.ntmps5]; exact len_le _ _ rfl) fun hok hokH => ?_
  clear hok
  refine SWp.seq (Wp.s ?_)
  simp -implicitDefEqProofs [go_sem, args0]
  refine SWp.seq (Wp.s ?_)
  simp -implicitDefEqProofs [go_sem]
  refine CC.mono (New_f_cc _ _ 2 2 4) ?_
  rintro _ _ _ ⟨rfl, rfl, rfl⟩
  rw [aw_0]
  simp -implicitDefEqProofs [go_sem, dvF]
  refine SWp.seq (SWp.drawnT [] [7] (.s 0 .pl <| .s 1 .pl <| .s 2 .pl <| .s 3 .pl <| .s 4 .pl <| .s 5 .pl <| .s 6 .pl <| .s 7 .st <| .s 8 .pl <| .s 9 .pl <| .n) (by kernel_rfl) (by kernel_rfl) ?_)
  simp -implicitDefEqProofs [go_sem]
  refine CC.mono (empty_cc' _ _ 5 (by decide) (by decide)) ?_
  rintro _ _ _ ⟨rfl, rfl, rfl⟩
  simp -implicitDefEqProofs [go_sem]
  refine CC.mono (Push_cc _ _ awF0 (awC 5) awS0 (awC_S _)) ?_
  rintro _ _ _ ⟨rfl, rfl, rfl⟩
  rw [aw_1]
  simp -implicitDefEqProofs [go_sem, dvP]
  refine SWp.seq (SWp.drawnT [] [7] (.s 0 .pl <| .s 1 .pl <| .s 2 .pl <| .s 3 .pl <| .s 4 .pl <| .s 5 .pl <| .s 6 .pl <| .s 7 .st <| .s 8 .pl <| .s 9 .pl <| .n) (by kernel_rfl) (by kernel_rfl) ?_)
  simp -implicitDefEqProofs [go_sem]
  refine CC.mono (empty_cc' _ _ 6 (by decide) (by decide)) ?_
  rintro _ _ _ ⟨rfl, rfl, rfl⟩
  simp -implicitDefEqProofs [go_sem]
  refine CC.mono (Push_cc _ _ awF1 (awC 6) awS1 (awC_S _)) ?_
  rintro _ _ _ ⟨rfl, rfl, rfl⟩
  rw [aw_2]
  simp -implicitDefEqProofs [go_sem, dvP]
  refine SWp.seq (Wp.s ?_)
  simp -implicitDefEqProofs [go_sem]
  refine CC.mono (Applied_cc _ _ awF2 0 5 awS2) ?_
  rintro _ _ _ ⟨rfl, rfl, rfl⟩
  rw [aw_3]
  simp -implicitDefEqProofs [go_sem, dvF]
  refine SWp.seq (Wp.s ?_)
  simp -implicitDefEqProofs [go_sem]
  refine CC.mono (Next_cc _ _ awF3 0 awS3) ?_
  rintro _ _ _ ⟨rfl, rfl, rfl⟩
  rw [aw_4]
  simp -implicitDefEqProofs [go_sem, dvN]
  refine SWp.seq (Wp.s ?_)
  simp -implicitDefEqProofs [go_sem]
  refine CC.mono (Next_cc _ _ awF3 1 awS3) ?_
  rintro _ _ _ ⟨rfl, rfl, rfl⟩
  rw [aw_5]
  simp -implicitDefEqProofs [go_sem, dvN]
  refine SWp.seq (SWp.seq (Wp.s ?_))
  simp -implicitDefEqProofs [go_sem, show IntKind.i64.wrap 0 = 0 from by kernel_rfl]
  refine CC.mono (Oldest_cc _ _ awF3 awS3) ?_
  rintro _ _ _ ⟨rfl, rfl, rfl⟩
  rw [aw_6]
  simp -implicitDefEqProofs [go_sem, show (awC 6).number = 6 from rfl, show (awC 5).number = 5 from rfl]
  refine Wp.s ?_
  simp -implicitDefEqProofs [go_sem]
  refine SWp.seq (SWp.drawnT [] [7] (.s 0 .pl <| .s 1 .pl <| .s 2 .pl <| .s 3 .pl <| .s 4 .pl <| .s 5 .pl <| .s 6 .pl <| .s 7 .st <| .s 8 .pl <| .s 9 .pl <| .n) (by kernel_rfl) (by kernel_rfl) ?_)
  simp -implicitDefEqProofs [go_sem]
  refine CC.mono (empty_cc' _ _ 7 (by decide) (by decide)) ?_
  rintro _ _ _ ⟨rfl, rfl, rfl⟩
  simp -implicitDefEqProofs [go_sem]
  refine CC.mono (Push_cc _ _ awF3 (awC 7) awS3 (awC_S _)) ?_
  rintro _ _ _ ⟨rfl, rfl, rfl⟩
  rw [aw_7]
  simp -implicitDefEqProofs [go_sem, dvP]
  refine SWp.seq (SWp.seq (Wp.s ?_))
  simp -implicitDefEqProofs [go_sem]
  refine CC.mono (eqInt_cc _ _ .sh .ti [1] [1] (by decide)) ?_
  rintro _ _ _ ⟨rfl, rfl, rfl⟩
  simp -implicitDefEqProofs [go_sem, show awF4.kept = [awC 6, awC 7] from rfl, show (awC 6).number = 6 from rfl]
  refine CC.mono (Oldest_cc _ _ awF4 awS4) ?_
  rintro _ _ _ ⟨rfl, rfl, rfl⟩
  rw [aw_8]
  simp -implicitDefEqProofs [go_sem]
  refine Wp.s ?_
  simp -implicitDefEqProofs [go_sem]
  refine SWp.seq (Wp.s ?_)
  simp -implicitDefEqProofs [go_sem]
  refine CC.mono (Join_cc _ _ awF4 1 4 awS4) ?_
  rintro _ _ _ ⟨rfl, rfl, rfl⟩
  rw [aw_9]
  simp -implicitDefEqProofs [go_sem, dvF]
  refine SWp.join (α := Unit) (fun _ => ([(2, er 15)], H, V)) (fun _ => True) ?_ ?_
  · refine SWp.seq (Wp.s ?_)
    simp -implicitDefEqProofs [go_sem]
    refine SWp.block ?_
    refine SWp.loop (α := Nat) (fun n => ([(1, .ptr H.length 0), (2, er 15), (12, ci (5 + n : Nat))], H ++ [some (fanC awF4), some (cycC (awC 6)), some (cycC (awC 5))], V)) (fun n => n ≤ 3) (fun n => 3 - n) 0 (by omega) (Sh.forget (by simp [go_sem]) rfl rfl) ?_
    intro n hn
    dsimp only
    refine SWp.seq (SWp.seq (Wp.s ?_))
    obtain rfl | rfl | rfl | rfl : n = 0 ∨ n = 1 ∨ n = 2 ∨ n = 3 := by omega
    case inr.inr.inr =>
      simp -implicitDefEqProofs [go_sem]
      refine Wp.s ?_
      simp -implicitDefEqProofs [go_sem]
      exact Sh.back (by simp [go_sem]) rfl rfl (by simp [go_sem]) hokH (by simp) (by simp)
    all_goals
      simp -implicitDefEqProofs [go_sem]
      refine Wp.s ?_
      simp -implicitDefEqProofs [go_sem]
      refine SWp.seq (SWp.block (SWp.seq (Wp.s ?_)))
      simp -implicitDefEqProofs [go_sem]
    · refine CC.mono (Join_cc _ _ awF4 1 5 awS4) ?_
      rintro _ _ _ ⟨rfl, rfl, rfl⟩
      rw [aw_j5]
      simp -implicitDefEqProofs [go_sem, dvF]
      refine Wp.s ?_
      simp -implicitDefEqProofs [go_sem]
      refine Wp.s ?_
      simp -implicitDefEqProofs [go_sem]
      refine ⟨1, by omega, by omega, Sh.trim ?_ ?_ hokH ?_ (by simp) (by simp) (by simp)⟩
      · simp [go_sem, show IntKind.i64.wrap 6 = 6 from by kernel_rfl]
      · simp [go_sem]
      · simp [go_sem]
    · refine CC.mono (Join_cc _ _ awF4 1 6 awS4) ?_
      rintro _ _ _ ⟨rfl, rfl, rfl⟩
      rw [aw_j6]
      simp -implicitDefEqProofs [go_sem, dvF]
      refine Wp.s ?_
      simp -implicitDefEqProofs [go_sem]
      refine Wp.s ?_
      simp -implicitDefEqProofs [go_sem]
      refine ⟨2, by omega, by omega, Sh.trim ?_ ?_ hokH ?_ (by simp) (by simp) (by simp)⟩
      · simp [go_sem, show IntKind.i64.wrap 7 = 7 from by kernel_rfl]
      · simp [go_sem]
      · simp [go_sem]
    · refine CC.mono (Join_cc _ _ awF4 1 7 awS4) ?_
      rintro _ _ _ ⟨rfl, rfl, rfl⟩
      rw [aw_j7]
      simp -implicitDefEqProofs [go_sem, dvF]
      refine Wp.s ?_
      simp -implicitDefEqProofs [go_sem]
      refine Wp.s ?_
      simp -implicitDefEqProofs [go_sem]
      refine ⟨3, by omega, by omega, Sh.trim ?_ ?_ hokH ?_ (by simp) (by simp) (by simp)⟩
      · simp [go_sem, show IntKind.i64.wrap 8 = 8 from by kernel_rfl]
      · simp [go_sem]
      · simp [go_sem]
  rintro _ -
  dsimp only
  refine Wp.s ?_
  simp -implicitDefEqProofs [go_sem]
  exact Fin.bool rfl hokH (by simp) (by simp)
end Go.Proofs.Ytpadnceoacbaeaa
namespace Go.Proofs.Ytpadnceoacbaeaa
open Go.Proofs
theorem tidyF_S {f : Fan} (hs : Sm f) : Sm (tidyF f) :=
  ⟨Nat.le_trans (dropWhile_len _ _) hs.kl, hs.al, hs.ll, fun c hc => hs.kc c ((List.dropWhile_sublist _).subset hc)⟩
theorem zfan_S : Sm zfan := ⟨by decide, by decide, by decide, fun c hc => by cases hc⟩
theorem zcyc_S : CySm ⟨0, 0, 0, [], []⟩ := ⟨by decide, (fun w hw => by cases hw), by decide⟩
theorem dvF_of {x : Except Nat Fan} (h : ∀ g, x = .ok g → Sm g) : ∃ g e, dvF x = .tup [.agg (fanC g), er e] ∧ Sm g := by
  cases x with
  | error e => exact ⟨zfan, e, rfl, zfan_S⟩
  | ok g => exact ⟨g, 0, rfl, h g rfl⟩
theorem appF_S {f : Fan} (hs : Sm f) (t n : Int) : ∃ g e, dvF (appF f t n) = .tup [.agg (fanC g), er e] ∧ Sm g := dvF_of fun g hg => by
  unfold appF at hg
  repeat' split at hg
  all_goals first | cases hg; done | skip
  obtain rfl := Except.ok.inj hg
  exact tidyF_S (hs.mk' (by simp) rfl)
theorem loseF_S {f : Fan} (hs : Sm f) (t : Int) : ∃ g e, dvF (loseF f t) = .tup [.agg (fanC g), er e] ∧ Sm g := dvF_of fun g hg => by
  unfold loseF at hg
  repeat' split at hg
  all_goals first | cases hg; done | skip
  obtain rfl := Except.ok.inj hg
  exact tidyF_S (hs.mk' rfl (by simp))
theorem joinF_S {f : Fan} (hs : Sm f) (t n : Int) : ∃ g e, dvF (joinF f t n) = .tup [.agg (fanC g), er e] ∧ Sm g := dvF_of fun g hg => by
  unfold joinF at hg
  repeat' split at hg
  all_goals first | cases hg; done | skip
  obtain rfl := Except.ok.inj hg
  exact hs.mk' (by simp) (by simp)
theorem nextF_S {f : Fan} (hs : Sm f) (t : Int) : ∃ c b, dvN (nextF f t) = .tup [.agg (cycC c), cb b] ∧ CySm c := by
  cases h : nextF f t with
  | none => exact ⟨_, _, rfl, zcyc_S⟩
  | some c =>
    refine ⟨c, true, rfl, ?_⟩
    unfold nextF at h
    split at h
    · cases h
    · obtain ⟨i, hi, rfl⟩ := List.getElem_of_mem (List.mem_of_find?_eq_some h)
      exact hs.cy hi
theorem snoc_S {f : Fan} {c : Cyc} (hs : Sm f) (hc : CySm c) (h : chkF f = 0) : Sm ⟨f.limit, f.kept ++ [c], f.app, f.lost⟩ := ⟨by
    show (f.kept ++ [c]).length ≤ 1000000
    have := (chkF_lens h).2.2.2.2.2
    rw [List.length_append, List.length_singleton]; omega, hs.al, hs.ll, fun d hd => by
    rcases List.mem_append.1 hd with hd | hd
    · exact hs.kc d hd
    · rw [List.mem_singleton] at hd; subst hd; exact ⟨hc.wl, hc.ws, hc.pl⟩⟩
theorem pushF_S {f : Fan} {c : Cyc} (hs : Sm f) (hc : CySm c) : ∃ (g : Fan) (l : List Int) (e : Nat), dvP (pushF f c) = .tup [.agg (fanC g), .sl .sh 1 (l.map ic), er e] ∧ Sm g ∧ l.length ≤ 1000000 := by
  cases h : pushF f c with
  | error e => exact ⟨zfan, [], e, rfl, zfan_S, by decide⟩
  | ok p =>
    obtain ⟨g, l⟩ := p
    refine ⟨g, l, 0, rfl, ?_⟩
    unfold pushF at h
    split at h
    · cases h
    · rename_i h0
      have h0 : chkF f = 0 := by simpa using h0
      repeat' split at h
      all_goals first | cases h; done | skip
      have h := Except.ok.inj h
      unfold evict at h
      split at h
      · obtain ⟨rfl, rfl⟩ := Prod.mk.inj h
        exact ⟨tidyF_S ((snoc_S hs hc h0).mk' rfl (by simp)), Nat.le_trans (lostU_le _ _ _ _) hs.al⟩
      · obtain ⟨rfl, rfl⟩ := Prod.mk.inj h
        exact ⟨snoc_S hs hc h0, by decide⟩
end Go.Proofs.Ytpadnceoacbaeaa
namespace Go.Proofs.Ytpadnceoacbaeaa
open Go.Proofs
theorem rep_snoc {α : Type} (f : α → List CV) (i : Nat) (a : α) : (List.replicate (i + 1) a).map f = (List.replicate i a).map f ++ [f a] := by
  rw [List.replicate_succ', List.map_append]; rfl
def rpU {α : Type} (f : α → List CV) (i : Nat) (a : α) : List (List CV) := (List.replicate i a).map f
theorem rpU_len {α : Type} (f : α → List CV) (i : Nat) (a : α) : (rpU f i a).length = i := by rw [rpU, List.length_map, List.length_replicate]
@[go_sem] theorem rpU_0 {α : Type} (f : α → List CV) (a : α) : rpU f 0 a = [] := rfl
theorem rpU_s {α : Type} (f : α → List CV) (i : Nat) (a : α) : rpU f (i + 1) a = rpU f i a ++ [f a] := rep_snoc f i a
theorem refNew_cc (H : Hp) (V : List Nat) (t l a : Int) : CC Try.prog 7 [ci t, ci l, ci a] H V (Pu (dvF (newFan t l a)) H V) := by
  refine CC.of_swp Try.func7 rfl (by kernel_rfl) (by rw [Try.ntmps7]; exact len_le _ _ rfl) fun hok hokH => ?_
  clear hok
  have stop : ∀ {e : Nat} {H' : Hp} {V' : List Nat}, newFan t l a = .error e → H'.take H.length = H → V'.take V.length = V → Fin H.length V.length (Pu (dvF (newFan t l a)) H V) (.tup [.agg fanZ, er e]) H' V' := fun h1 h2 h3 => by
    rw [h1]; exact Fin.pu (.tup (.cons Le_zfan (.cons (.refl _) .nil))) (by simp [go_sem, dvF]) hokH h2 h3
  refine SWp.seq (Wp.s ?_)
  simp -implicitDefEqProofs [go_sem, args0]
  refine SWp.seq (SWp.seq (Wp.s ?_))
  by_cases a1 : t < 1
  · simp -implicitDefEqProofs [go_sem, a1]
    refine Wp.s ?_
    simp -implicitDefEqProofs [go_sem]
    exact stop (by rw [newFan, if_pos (.inl a1)]) (by simp) (by simp)
  by_cases a2 : 4 < t
  · simp -implicitDefEqProofs [go_sem, a1, a2]
    refine Wp.s ?_
    simp -implicitDefEqProofs [go_sem]
    exact stop (by rw [newFan, if_pos (.inr a2)]) (by simp) (by simp)
  simp -implicitDefEqProofs [go_sem, a1, a2]
  refine Wp.s ?_
  simp -implicitDefEqProofs [go_sem]
  refine SWp.seq (SWp.seq (Wp.s ?_))
  by_cases b1 : l < 1
  · simp -implicitDefEqProofs [go_sem, b1]
    refine Wp.s ?_
    simp -implicitDefEqProofs [go_sem, b1]
    exact stop (by rw [newFan, if_neg (by omega), if_pos (.inl b1)]) (by simp) (by simp)
  by_cases b2 : 1024 < l
  · simp -implicitDefEqProofs [go_sem, b1, b2]
    refine Wp.s ?_
    simp -implicitDefEqProofs [go_sem, b1, b2]
    exact stop (by rw [newFan, if_neg (by omega), if_pos (.inr (.inl b2))]) (by simp) (by simp)
  by_cases b3 : a < 0
  · simp -implicitDefEqProofs [go_sem, b1, b2, b3]
    refine Wp.s ?_
    simp -implicitDefEqProofs [go_sem, b1, b2, b3]
    exact stop (by rw [newFan, if_neg (by omega), if_pos (.inr (.inr (.inl b3)))]) (by simp) (by simp)
  by_cases b4 : 1073741824 < a
  · simp -implicitDefEqProofs [go_sem, b1, b2, b3, b4]
    refine Wp.s ?_
    simp -implicitDefEqProofs [go_sem, b1, b2, b3, b4]
    exact stop (by rw [newFan, if_neg (by omega), if_pos (.inr (.inr (.inr b4)))]) (by simp) (by simp)
  simp -implicitDefEqProofs [go_sem, b1, b2, b3, b4]
  refine Wp.s ?_
  simp -implicitDefEqProofs [go_sem, b1, b2, b3, b4]
  obtain ⟨n, rfl⟩ := Int.eq_ofNat_of_zero_le (show 0 ≤ t by omega)
  have e0 : newFan n l a = .ok ⟨l, [], List.replicate n a, List.replicate n false⟩ := by rw [newFan, if_neg (by omega), if_neg (by omega)]; rfl
  refine SWp.seq (Wp.s ?_)
  simp -implicitDefEqProofs [go_sem]
  refine SWp.join (α := Unit) (fun _ => ([(6, .ptr H.length 0), (8, .ptr (H.length + 1) 0)], H ++ [some fanZ, some [ci l, nilS, .sl (.own V.length n) 1 (rpU ic n a), .sl (.own (V.length + 1) n) 1 (rpU boE n false)]], V ++ [n, n])) (fun _ => True) ?_ ?_
  · refine SWp.seq (Wp.s ?_)
    simp -implicitDefEqProofs [go_sem]
    refine SWp.block ?_
    refine SWp.loop (α := Nat) (fun i => ([(0, ci n), (2, ci a), (6, .ptr H.length 0), (8, .ptr (H.length + 1) 0), (9, ci i)], H ++ [some fanZ, some [ci l, nilS, .sl (.own V.length i) 1 (rpU ic i a), .sl (.own (V.length + 1) i) 1 (rpU boE i false)]], V ++ [i, i])) (fun i => i ≤ n) (fun i => n - i) 0 (Nat.zero_le _) ?_ ?_
    · refine Gst.trans (Gst.tokL (b := H.length + 1) (hget _ _ 1) (ds := [ci l, nilS, .sl (.own V.length 0) 1 [], nilS]) (by simp [go_sem]) (by simp [CV.isObj])) ?_
      rw [set_len_add]
      exact Sh.tokL (b := H.length + 1) (hget _ _ 1) (ds := [ci l, nilS, .sl (.own V.length 0) 1 [], .sl (.own (V.length + 1) 0) 1 []]) (by simp [go_sem]) (by simp [CV.isObj]) (by simp [go_sem]) (by simp [go_sem, fanZ]) (by simp)
    intro i hi
    dsimp only
    refine SWp.seq (SWp.seq (Wp.s ?_))
    simp -implicitDefEqProofs [go_sem]
    refine Wp.s ?_
    simp -implicitDefEqProofs [go_sem]
    refine ⟨fun h => ?_, fun h => ?_⟩
    case refine_2 =>
      obtain rfl : i = n := by omega
      exact Sh.forget (by simp [go_sem]) rfl rfl
    refine SWp.seq (SWp.block ?_)
    refine SWp.drawnT [] [10, 12] (.s 0 .pl <| .s 1 .pl <| .s 2 .pl <| .s 3 .pl <| .s 5 .pl <| .s 6 .pl <| .s 7 .pl <| .s 4 .pl <| .s 9 .pl <| .s 8 .pl <| .s 10 .st <| .s 11 .pl <| .s 12 .st <| .n) (by kernel_rfl) (by kernel_rfl) ?_
    simp -implicitDefEqProofs [go_sem, rpU_len, show i ≤ 1099511627775 by omega]
    refine Wp.s ?_
    simp -implicitDefEqProofs [go_sem]
    refine ⟨i + 1, by omega, by omega, Sh.forget ?_ ?_ (by simp)⟩
    · simp [go_sem, wrap_succ (show i ≤ 1000000000 by omega)]
    · simp [go_sem, rpU_s, ic, boE]
  rintro _ -
  dsimp only
  refine Wp.s ?_
  simp -implicitDefEqProofs [go_sem]
  refine ⟨by decide, ?_⟩
  rw [e0]
  exact Fin.pu (r0 := dvF (.ok ⟨l, [], List.replicate n a, List.replicate n false⟩)) (.tup (.cons (.agg (.cons (.refl _) (.cons (.nil 5 (by decide)) (.cons (.sh ..) (.cons (.sh ..) .nil))))) (.cons (.refl _) .nil))) (by simp [go_sem, dvF]) hokH (by simp) (by simp)
theorem newFan_S (t l a : Int) : ∃ g e, dvF (newFan t l a) = .tup [.agg (fanC g), er e] ∧ Sm g := dvF_of fun g hg => by
  unfold newFan at hg
  repeat' split at hg
  all_goals first | cases hg; done | skip
  obtain rfl := Except.ok.inj hg
  exact ⟨by simp, by simp; omega, by simp; omega, fun c hc => by cases hc⟩
def stC (x : Int × Int × Int) : List CV := [ci x.1, ci x.2.1, ci x.2.2]
theorem Makes_cc (H : Hp) (V : List Nat) (f : Fan) (x : Int × Int × Int) : CC Try.prog 3 [.agg (fanC f), .agg (stC x)] H V (Pu (cb true) H V) := by
  refine CC.of_swp Try.func3 rfl (by kernel_rfl) (by rw [Try.ntmps3]; exact len_le _ _ rfl) fun hok hokH => ?_
  clear hok
  obtain ⟨t, l, a⟩ := x
  simp only [stC]
  refine SWp.seq (Wp.s ?_)
  simp -implicitDefEqProofs [go_sem, args0]
  refine SWp.seq (SWp.seq (Wp.s ?_))
  simp -implicitDefEqProofs [go_sem]
  refine CC.mono (few42_cc _ _ f) ?_
  rintro _ _ _ ⟨rfl, rfl, rfl⟩
  cases hf : few42 f with
  | false =>
    simp -implicitDefEqProofs [go_sem]
    refine Wp.s ?_
    simp -implicitDefEqProofs [go_sem]
    refine CC.mono (awake_cc _ _) ?_
    rintro _ _ _ ⟨rfl, rfl, rfl⟩
    simp -implicitDefEqProofs [go_sem]
    exact Fin.bool rfl hokH (by simp) (by simp)
  | true =>
  simp -implicitDefEqProofs [go_sem]
  refine Wp.s ?_
  simp -implicitDefEqProofs [go_sem]
  have hs := few42_S hf
  obtain ⟨g1, x1, e1, s1⟩ := newFan_S t l a
  refine SWp.seq (Wp.s ?_)
  simp -implicitDefEqProofs [go_sem]
  refine CC.mono (New_f_cc _ _ t l a) ?_
  rintro _ _ _ ⟨rfl, rfl, rfl⟩
  rw [e1]
  simp -implicitDefEqProofs [go_sem]
  refine SWp.seq (Wp.s ?_)
  simp -implicitDefEqProofs [go_sem]
  refine CC.mono (refNew_cc _ _ t l a) ?_
  rintro _ _ _ ⟨rfl, rfl, rfl⟩
  rw [e1]
  simp -implicitDefEqProofs [go_sem]
  refine SWp.seq (SWp.drawnT [] [] (.s 0 .pl <| .s 1 .pl <| .s 2 .pl <| .s 3 .pl <| .s 4 .pl <| .s 5 .pl <| .s 6 .pl <| .s 7 .pl <| .s 8 .pl <| .s 9 .pl <| .s 11 .pl <| .s 10 .pl <| .s 12 .pl <| .s 13 .pl <| .s 14 .pl <| .s 15 .pl <| .s 16 .pl <| .s 18 .pl <| .s 17 .pl <| .s 19 .pl <| .s 20 .pl <| .s 21 .pl <| .s 22 .pl <| .s 23 .pl <| .s 24 .pl <| .s 25 .pl <| .n) (by kernel_rfl) (by kernel_rfl) ?_)
  simp -implicitDefEqProofs [go_sem]
  refine CC.mono (SameFan_cc _ _ g1 g1 s1) ?_
  rintro _ _ _ ⟨rfl, rfl, rfl⟩
  simp -implicitDefEqProofs [go_sem]
  refine CC.mono (Check_cc _ _ f hs) ?_
  rintro _ _ _ ⟨rfl, rfl, rfl⟩
  simp -implicitDefEqProofs [go_sem]
  refine CC.mono (refCheck_cc _ _ f hs) ?_
  rintro _ _ _ ⟨rfl, rfl, rfl⟩
  simp -implicitDefEqProofs [go_sem]
  refine CC.mono (Oldest_cc _ _ f hs) ?_
  rintro _ _ _ ⟨rfl, rfl, rfl⟩
  simp -implicitDefEqProofs [go_sem]
  refine CC.mono (refOldest_cc _ _ f hs) ?_
  rintro _ _ _ ⟨rfl, rfl, rfl⟩
  simp -implicitDefEqProofs [go_sem]
  refine CC.mono (awake_cc _ _) ?_
  rintro _ _ _ ⟨rfl, rfl, rfl⟩
  simp -implicitDefEqProofs [go_sem]
  refine Wp.s ?_
  simp -implicitDefEqProofs [go_sem]
  exact Fin.bool rfl hokH (by simp) (by simp)
end Go.Proofs.Ytpadnceoacbaeaa
namespace Go.Proofs.Ytpadnceoacbaeaa
open Go.RowKit

/-- The ghost state at the beginning of a call: all blocks are fixed; no boxes, no tokens. -/
def gh0 (w : World) : Gh where
  lim k := match w.heap[k]? with
    | some (.cells c _ _) => c.size
    | _ => 0
  box := []
  tip := []

theorem gh0_inv (w : World) : Inv (gh0 w) w [] [] where
  boxlen := rfl
  tiplen := rfl
  limv k h := by
    simp only [gh0] at h ⊢
    split at h
    · rename_i c e fr hc
      exact ⟨c, e, fr, hc, by simp⟩
    · omega
  tips := by intro t k h; simp [gh0] at h
  boxes := by intro b k h; simp [gh0] at h
  uniq := by intro b b' k cs cs' h; simp at h
  live := by intro b cs h; simp at h

theorem gh0_lim {w : World} {k o : Nat} {u : Value} (h : w.cell? ⟨k, o, none⟩ = some u) : o < (gh0 w).lim k := by
  simp only [World.cell?] at h
  simp only [gh0]
  split at h
  · rename_i c e fr hc
    simp only [hc]
    simp at h
    obtain ⟨h, _⟩ := Array.getElem?_eq_some_iff.1 h
    exact h
  · cases h

/-- What a law gives: true, and below nothing is changed. -/
theorem law_calls {P : Program} {f : FuncId} {args : Array Value} {W : World} {cs : List CV} {R : CV → Hp → List Nat → Prop} (hrel : RelL (gh0 W) W [] cs args.toList) (h : CC P f cs [] [] R)
    (hR : ∀ r H V, R r H V → r = .v (.bool true)) : Calls P f args W fun e W' => e = .returned (.bool true) ∧ Below W.heap.size W W' := by
  have := h.2 (gh0 W) W args.toList (gh0_inv W) hrel
  rw [Array.toArray_toList] at this
  refine this.mono ?_
  rintro e w' ⟨u, m', r, H', V', rfl, hr, _, hu, hx⟩
  obtain rfl := hR _ _ _ hr
  rw [RelV] at hu
  subst hu
  exact ⟨rfl, hx.os, hx.tape, hx.output, hx.size, fun k hk => hx.same k hk (by simp [gh0]) (by simp [gh0])⟩

/-- The cells of a value of type t that came in: S holds of their contents. -/
def Opens (P : Program) (t : TypeId) (S : List CV → Prop) : Prop :=
  ∀ (H : Type) (enc : TypeId × Value → H) (w : World) (base : Nat) (spare : Nat → Bool) (held : Bool) (fuel : Nat) (us : List Value) (x : DataW H × List MemPlace),
    DataW.trod enc P w base spare held fuel t us = some x → ∃ cs, S cs ∧ RelL (gh0 w) w [] cs us ∧ ∀ u ∈ us, u.oneCell' = true

theorem relL_one {m : Gh} {w : World} {V : List Nat} {c : CV} {u : Value} (h : RelV m w V c u) : RelL m w V [c] [u] := by
  rw [RelL]; exact ⟨u, [], rfl, h, by rw [RelL]⟩

theorem relL_one' {m : Gh} {w : World} {V : List Nat} {c : CV} {u : Value} (h : RelL m w V [c] [u]) : RelV m w V c u := by
  rw [RelL] at h; obtain ⟨_, _, h1, h2, _⟩ := h; cases h1; exact h2

theorem relL_nil {m : Gh} {w : World} {V : List Nat} : RelL m w V [] [] := by rw [RelL]
theorem relL_mk2 {m : Gh} {w : World} {V : List Nat} {c : CV} {u : Value} {cs : List CV} {us : List Value} (h : RelV m w V c u) (h2 : RelL m w V cs us) : RelL m w V (c :: cs) (u :: us) := by
  rw [RelL]; exact ⟨u, us, rfl, h, h2⟩
variable {P : Program} {t e : TypeId}
theorem Opens.int {k : IntKind} (ht : P.underlying t = some (.int k)) : Opens P t fun cs => ∃ n, cs = [.v (.int k n)] ∧ (Lit.int k n).wf = true := by
  intro H enc w base spare held fuel us x h
  obtain ⟨n, rfl, _, hw⟩ := DataW.trod_int ht h
  exact ⟨_, ⟨n, rfl, hw⟩, relL_one (by rw [RelV]), by simp [Value.oneCell']⟩

theorem Opens.bool (ht : P.underlying t = some .bool) : Opens P t fun cs => ∃ b, cs = [.v (.bool b)] := by
  intro H enc w base spare held fuel us x h
  obtain ⟨n, rfl, _⟩ := DataW.trod_bool ht h
  exact ⟨_, ⟨n, rfl⟩, relL_one (by rw [RelV]), by simp [Value.oneCell']⟩

theorem Opens.string (ht : P.underlying t = some .string) : Opens P t fun cs => ∃ s : ByteArray, cs = [.v (.string s)] ∧ s.size ≤ maxLen := by
  intro H enc w base spare held fuel us x h
  obtain ⟨n, rfl, _, hs⟩ := DataW.trod_string ht h
  exact ⟨_, ⟨n, rfl, hs⟩, relL_one (by rw [RelV]), by simp [Value.oneCell']⟩

theorem cells_get {w : World} {base : Nat} {a : Addr} {n : Nat} {us : List Value} (h : w.cells? base a n = some us) : us.length = n ∧ ∀ j, j < n → w.cell? (a.add j) = us[j]? := by
  unfold World.cells? at h
  split at h
  · exact ⟨by simpa using mapM_some_length h, fun j hj => mapM_some_get h j j (by simp [hj])⟩
  · cases h

theorem add_none {a : Addr} (ha : a.spot = none) (i : Nat) : a.add i = ⟨a.block, a.off + i, none⟩ := by
  cases a with
  | mk b o s =>
    simp only at ha
    subst ha
    unfold Addr.add
    split <;> simp_all

theorem Opens.slice {sz : Nat} {S : List CV → Prop} (ht : P.underlying t = some (.slice e)) (hs : P.cellsOf e = sz) (h0 : 0 < sz) (he : Opens P e S) :
    Opens P t fun cs => ∃ xs, cs = [.sl .sh sz xs] ∧ xs.length ≤ maxLen ∧ ∀ x ∈ xs, S x := by
  intro H enc w base spare held fuel us x h
  rcases DataW.trod_slice ht h with ⟨rfl, _⟩ | ⟨a, len, cap, elems, rest, n, _, rfl, rfl, hb, hl, hm, hlen, hel, hsp, hns⟩
  · refine ⟨_, ⟨[], rfl, by simp, by simp⟩, relL_one ?_, by simp [Value.oneCell']⟩
    rw [RelV]
    exact ⟨none, 0, rfl, by simp, trivial, h0, .inl rfl⟩
  · have key : ∀ i, i < len → ∃ (cs : List CV) (vs : List Value), S cs ∧ RelL (gh0 w) w [] cs vs ∧ (∀ u ∈ vs, u.oneCell' = true) ∧ vs.length = sz ∧ ∀ j, j < sz → w.cell? ((a.add (i * sz)).add j) = vs[j]? := by
      intro i hi
      have h1 := hel i hi
      rw [List.getElem?_eq_getElem (by omega)] at h1
      obtain ⟨vs, h2, h3⟩ := Option.bind_eq_some_iff.1 h1
      obtain ⟨cs, h4, h5, h6⟩ := he _ enc w base spare held n vs _ h3
      rw [hs] at h2
      obtain ⟨h7, h8⟩ := cells_get h2
      exact ⟨cs, vs, h4, h5, h6, h7, h8⟩
    by_cases hz : len = 0
    · subst hz
      refine ⟨_, ⟨[], rfl, by simp, by simp⟩, relL_one ?_, by simp [Value.oneCell']⟩
      rw [RelV]
      exact ⟨some a, cap, rfl, by simp, trivial, h0, .inl rfl⟩
    · have hsp : a.spot = none := by
        obtain ⟨cs, vs, _, _, _, h7, h8⟩ := key 0 (by omega)
        have h9 := h8 0 h0
        rw [List.getElem?_eq_getElem (by omega)] at h9
        have : (a.add (0 * sz)).add 0 = a := by simp [Addr.add]
        rw [this] at h9
        simp only [World.cell?] at h9
        split at h9
        · split at h9
          · cases h9
          · rename_i h; simpa using h
        · cases h9
      let g : Nat → List CV := fun i => if h : i < len then Classical.choose (key i h) else []
      have hg : ∀ i (h : i < len), ∃ (vs : List Value), S (g i) ∧ RelL (gh0 w) w [] (g i) vs ∧ (∀ u ∈ vs, u.oneCell' = true) ∧ vs.length = sz ∧ ∀ j, j < sz → w.cell? ((a.add (i * sz)).add j) = vs[j]? := by
        intro i h
        have := Classical.choose_spec (key i h)
        simp only [g, h, dif_pos]
        exact this
      have cell : ∀ i j, i < len → j < sz → ∃ u, w.cell? ⟨a.block, a.off + i * sz + j, none⟩ = some u := by
        intro i j hi hj
        obtain ⟨vs, _, _, _, h7, h8⟩ := hg i hi
        have h9 := h8 j hj
        rw [List.getElem?_eq_getElem (by omega), add_none hsp, add_none rfl] at h9
        exact ⟨_, h9⟩
      refine ⟨_, ⟨(List.range len).map g, rfl, by simp; omega, ?_⟩, relL_one ?_, by simp [Value.oneCell']⟩
      · intro x hx
        obtain ⟨i, hi, rfl⟩ := List.mem_map.1 hx
        obtain ⟨_, h4, _⟩ := hg i (by simpa using hi)
        exact h4
      · rw [RelV]
        refine ⟨some a, cap, by simp, by simp; omega, trivial, h0, .inr ⟨a.block, a.off, by cases a; simp_all, ?_, relE_mk fun j c hc => ?_⟩⟩
        · obtain ⟨u, hu⟩ := cell (len - 1) (sz - 1) (by omega) (by omega)
          have := gh0_lim hu
          simp only [List.length_map, List.length_range]
          have h1 : len * sz = (len - 1) * sz + sz := by
            rw [← Nat.succ_mul]; congr 1; omega
          omega
        · simp only [List.getElem?_map, Option.map_eq_some_iff] at hc
          obtain ⟨i, hi, rfl⟩ := hc
          obtain ⟨hi', hi⟩ := List.getElem?_eq_some_iff.1 hi
          simp at hi hi'
          subst hi
          obtain ⟨vs, h4, h5, h6, h7, h8⟩ := hg j hi'
          have hl := relL_length h5
          refine ⟨by omega, relC_mk fun q c hc => ?_⟩
          obtain ⟨u, hu, hv⟩ := relL_get h5 q c hc
          have hq : q < sz := by
            have := (List.getElem?_eq_some_iff.1 hc).1
            omega
          have h9 := h8 q hq
          rw [hu, add_none hsp, add_none rfl] at h9
          exact ⟨u, h9, hv, h6 u (List.mem_of_getElem? hu)⟩

/-- Fields, from cell o on, of a struct of N cells. -/
def OpensF (P : Program) (N : Nat) (fs : List Field) (o : Nat) (S : List CV → Prop) : Prop :=
  ∀ (H : Type) (enc : TypeId × Value → H) (w : World) (base : Nat) (spare : Nat → Bool) (held : Bool) (fuel : Nat) (us : List Value), us.length = N →
    (∀ f ∈ fs, ∃ x, DataW.trod enc P w base spare held fuel f.type ((us.drop f.offset).take (P.cellsOf f.type)) = some x) →
    ∃ cs, S cs ∧ RelL (gh0 w) w [] cs (us.drop o) ∧ ∀ u ∈ us.drop o, u.oneCell' = true

theorem OpensF.nil {N : Nat} : OpensF P N [] N fun cs => cs = [] := by
  intro H enc w base spare held fuel us hl h
  subst hl
  exact ⟨_, rfl, by rw [List.drop_length, RelL], by simp⟩

theorem OpensF.cons {N : Nat} {f : Field} {fs : List Field} {o n : Nat} {S S' : List CV → Prop} (ho : f.offset = o) (hn : P.cellsOf f.type = n) (h1 : Opens P f.type S) (h2 : OpensF P N fs (o + n) S') :
    OpensF P N (f :: fs) o fun cs => ∃ a b, cs = a ++ b ∧ S a ∧ S' b := by
  intro H enc w base spare held fuel us hl h
  obtain ⟨x, hx⟩ := h f (by simp)
  rw [ho, hn] at hx
  obtain ⟨a, ha, ra, oa⟩ := h1 _ enc w base spare held fuel _ _ hx
  obtain ⟨b, hb, rb, ob⟩ := h2 _ enc w base spare held fuel us hl fun g hg => h g (List.mem_cons_of_mem _ hg)
  have hd : us.drop o = (us.drop o).take n ++ us.drop (o + n) := by
    rw [← List.drop_drop, List.take_append_drop]
  refine ⟨_, ⟨a, b, rfl, ha, hb⟩, ?_, ?_⟩
  · rw [hd]; exact relL_append ra rb
  · rw [hd]
    intro u hu
    rcases List.mem_append.1 hu with h | h
    · exact oa u h
    · exact ob u h

theorem Opens.struct {fs : Array Field} {S : List CV → Prop} (ht : P.underlying t = some (.struct fs)) {N : Nat} (hN : P.cellsOf t = N) (h : OpensF P N fs.toList 0 S) : Opens P t S := by
  intro H enc w base spare held fuel us x hx
  obtain ⟨xs, n, _, _, hl, hl2, hf⟩ := DataW.trod_struct ht hx
  obtain ⟨cs, h1, h2, h3⟩ := h _ enc w base spare held n us (by omega) (by
    intro f hf'
    obtain ⟨i, hi⟩ := List.getElem?_of_mem hf'
    have := hf i f (by simpa using hi)
    have hi' : i < fs.size := by
      have := (List.getElem?_eq_some_iff.1 hi).1
      simpa using this
    rw [this, List.getElem?_eq_getElem (by omega)]
    exact ⟨_, rfl⟩)
  exact ⟨cs, h1, by simpa using h2, by simpa using h3⟩

theorem Opens.array {n sz : Nat} {S : List CV → Prop} (ht : P.underlying t = some (.array n e)) (hs : P.cellsOf e = sz) (hN : P.cellsOf t = n * sz) (he : Opens P e S) :
    Opens P t fun cs => ∃ xs : List (List CV), cs = xs.flatten ∧ xs.length = n ∧ ∀ x ∈ xs, S x := by
  intro H enc w base spare held fuel us x hx
  obtain ⟨xs, m, _, _, hl, hl2, hf⟩ := DataW.trod_array ht hx
  rw [hN] at hl
  rw [hs] at hf
  have key : ∀ q, q ≤ n → ∃ ys : List (List CV), ys.length = q ∧ (∀ x ∈ ys, S x) ∧ RelL (gh0 w) w [] ys.flatten (us.drop ((n - q) * sz)) ∧ ∀ u ∈ us.drop ((n - q) * sz), u.oneCell' = true := by
    intro q
    induction q with
    | zero =>
      intro _
      refine ⟨[], rfl, by simp, ?_, ?_⟩
      · rw [Nat.sub_zero, List.drop_of_length_le (by omega), List.flatten_nil, RelL]
      · rw [Nat.sub_zero, List.drop_of_length_le (by omega)]; simp
    | succ q ih =>
      intro hq
      obtain ⟨ys, h1, h2, h3, h4⟩ := ih (by omega)
      have hx := hf (n - (q + 1)) (by omega)
      rw [List.getElem?_eq_getElem (by omega)] at hx
      obtain ⟨a, ha, ra, oa⟩ := he _ enc w base spare held m _ _ hx
      have hd : us.drop ((n - (q + 1)) * sz) = (us.drop ((n - (q + 1)) * sz)).take sz ++ us.drop ((n - q) * sz) := by
        have : (n - q) * sz = (n - (q + 1)) * sz + sz := by
          rw [← Nat.succ_mul]; congr 1; omega
        rw [this, ← List.drop_drop, List.take_append_drop]
      refine ⟨a :: ys, by simp [h1], by simpa using ⟨ha, h2⟩, ?_, ?_⟩
      · rw [hd, List.flatten_cons]; exact relL_append ra h3
      · rw [hd]
        intro u hu
        rcases List.mem_append.1 hu with h | h
        · exact oa u h
        · exact h4 u h
  obtain ⟨ys, h1, h2, h3, h4⟩ := key n (Nat.le_refl _)
  rw [Nat.sub_self, Nat.zero_mul, List.drop_zero] at h3 h4
  exact ⟨_, ⟨ys, rfl, h1, h2⟩, h3, h4⟩

theorem Opens.mono {S S' : List CV → Prop} (h : Opens P t S) (hs : ∀ cs, S cs → S' cs) : Opens P t S' := by
  intro H enc w base spare held fuel us x hx
  obtain ⟨cs, h1, h2, h3⟩ := h _ enc w base spare held fuel us x hx
  exact ⟨cs, hs cs h1, h2, h3⟩

variable {H : Type} {enc : TypeId × Value → H} {w : World} {base : Nat} {spare : Nat → Bool} {held : Bool}
/-- An argument of one cell. -/
theorem Opens.arg {S : List CV → Prop} (h : Opens P t S) {v : Value} {d : DataW H} {p : List MemPlace} (hv : v.cells.toList = [v]) (hd : DataW.Trod enc P w base spare held t v d p) :
    ∃ c, S [c] ∧ RelV (gh0 w) w [] c v := by
  obtain ⟨fuel, hf⟩ := hd
  rw [hv] at hf
  obtain ⟨cs, h1, h2, _⟩ := h _ enc w base spare held fuel _ _ hf
  have := relL_length h2
  match cs, this with
  | [c], _ => exact ⟨c, h1, relL_one' h2⟩
/-- A struct or an array. -/
theorem Opens.args {S : List CV → Prop} (h : Opens P t S) {us : Array Value} {d : DataW H} {p : List MemPlace} (hd : DataW.Trod enc P w base spare held t (.agg us) d p) :
    ∃ cs, S cs ∧ RelV (gh0 w) w [] (.agg cs) (.agg us) := by
  obtain ⟨fuel, hf⟩ := hd
  obtain ⟨cs, h1, h2, _⟩ := h _ enc w base spare held fuel _ _ hf
  refine ⟨cs, h1, ?_⟩
  rw [RelV]
  refine ⟨us.toList, by simp, ?_⟩
  simpa [Value.cells] using h2

/-- All arguments read as they did. -/
theorem trodAll_below (hl : laidOutB P = true) {W W' : World} (hb : Below W.heap.size W W') : ∀ {ts : List TypeId} {vs : List Value} {ds : List (DataW H)} {p : List MemPlace},
    (ts.all fun t => P.readableRec t && decide (t < P.types.size)) = true → DataW.TrodAll enc P W 0 (fun _ => true) true ts vs ds p → DataW.TrodAll enc P W' 0 (fun b => decide (b < W.heap.size)) true ts vs ds p
  | [], [], [], p, _, h => h
  | t :: ts, v :: vs, d :: ds, p, ht, h => by
    obtain ⟨p, q, h1, h2, rfl⟩ := h
    simp only [List.all_cons, Bool.and_eq_true, decide_eq_true_eq] at ht
    refine ⟨p, q, Below.trod hl ht.1.1 ht.1.2 h1 hb ?_, trodAll_below hl hb ht.2 h2, rfl⟩
    obtain ⟨m, hm⟩ := h1
    exact DataW.trod_lt m _ _ _ hm
  | [], [], _ :: _, _, _, h => h.elim
  | [], _ :: _, _, _, _, h => h.elim
  | _ :: _, [], _, _, _, h => h.elim
  | _ :: _, _ :: _, [], _, _, h => h.elim
end Go.Proofs.Ytpadnceoacbaeaa
namespace Go.Proofs.Ytpadnceoacbaeaa
open Go.Proofs
theorem exMapF {α : Type} {f : α → List CV} : ∀ {xs : List (List CV)}, (∀ x ∈ xs, ∃ a, x = f a) → ∃ ys : List α, xs = ys.map f
  | [], _ => ⟨[], rfl⟩
  | x :: xs, h => by
    obtain ⟨a, rfl⟩ := h x (by simp)
    obtain ⟨ys, rfl⟩ := exMapF fun y hy => h y (List.mem_cons_of_mem _ hy)
    exact ⟨a :: ys, rfl⟩
theorem opens_int : Opens Try.prog 3 fun cs => ∃ n, cs = ic n :=
  (Opens.int Try.underlying3).mono fun _ ⟨n, h, _⟩ => ⟨n, h⟩
theorem opens_u8 : Opens Try.prog 5 fun cs => ∃ b, cs = u8 b :=
  (Opens.int Try.underlying5).mono fun _ ⟨n, h, hw⟩ => ⟨byt n, by
    simp only [Lit.wf, Bool.and_eq_true, decide_eq_true_eq] at hw
    have h1 : 0 ≤ n := hw.1
    have h2 : n ≤ 255 := hw.2
    rw [h, u8, byt_toNat, Int.emod_eq_of_lt h1 (by omega)]⟩
theorem opens_bool : Opens Try.prog 4 fun cs => ∃ b, cs = boE b :=
  (Opens.bool Try.underlying4).mono fun _ ⟨b, h⟩ => ⟨b, h⟩
theorem opens_sl {t e sz : Nat} {α : Type} {f : α → List CV} (ht : Try.prog.underlying t = some (.slice e)) (hs : Try.prog.cellsOf e = sz) (h0 : 0 < sz) (he : Opens Try.prog e fun cs => ∃ a, cs = f a) :
    Opens Try.prog t fun cs => ∃ l : List α, cs = [.sl .sh sz (l.map f)] ∧ l.length ≤ maxLen :=
  (Opens.slice ht hs h0 he).mono fun _ ⟨xs, h, hl, hx⟩ => by
    obtain ⟨ys, rfl⟩ := exMapF hx
    exact ⟨ys, h, by simpa using hl⟩

theorem opens_ints : Opens Try.prog 23 fun cs => ∃ l : List Int, cs = [.sl .sh 1 (l.map ic)] ∧ l.length ≤ maxLen := opens_sl Try.underlying23 (by kernel_rfl) (by decide) opens_int


theorem opens_bools : Opens Try.prog 24 fun cs => ∃ l : List Bool, cs = [.sl .sh 1 (l.map boE)] ∧ l.length ≤ maxLen := opens_sl Try.underlying24 (by kernel_rfl) (by decide) opens_bool
theorem flat_u8 : ∀ l : List UInt8, (l.map u8).flatten = l.map fun b => CV.v (.int .u8 (b.toNat : Int))
  | [] => rfl
  | b :: l => by rw [List.map_cons, List.flatten_cons]; exact congrArg (_ :: ·) (flat_u8 l)
theorem opens_sec : Opens Try.prog 90 fun cs => ∃ s : Sec, cs = secC s :=
  (Opens.array (sz := 1) Try.underlying90 (by kernel_rfl) (by kernel_rfl) opens_u8).mono fun cs ⟨xs, h, hl, hx⟩ => by
    obtain ⟨l, rfl⟩ := exMapF hx
    refine ⟨⟨l, by simpa using hl⟩, ?_⟩
    rw [h]; exact flat_u8 l
theorem opens_secs : Opens Try.prog 83 fun cs => ∃ l : List Sec, cs = [.sl .sh 8 (l.map secC)] ∧ l.length ≤ maxLen := opens_sl Try.underlying83 (by kernel_rfl) (by decide) opens_sec
theorem opens_wr : Opens Try.prog 85 fun cs => ∃ x, cs = wrC x :=
  (Opens.struct Try.underlying85 (N := 3) (by kernel_rfl) (.cons rfl (n := 1) (by kernel_rfl) opens_int (.cons rfl (n := 1) (by kernel_rfl) opens_int (.cons rfl (n := 1) (by kernel_rfl) opens_secs .nil)))).mono fun cs h => by
    obtain ⟨_, _, rfl, ⟨a, rfl⟩, _, _, rfl, ⟨b, rfl⟩, _, _, rfl, ⟨c, rfl, _⟩, rfl⟩ := h
    exact ⟨⟨a, b, c⟩, rfl⟩
theorem opens_wrs : Opens Try.prog 41 fun cs => ∃ l : List Wr, cs = [.sl .sh 3 (l.map wrC)] ∧ l.length ≤ maxLen := opens_sl Try.underlying41 (by kernel_rfl) (by decide) opens_wr
theorem opens_cyc : Opens Try.prog 43 fun cs => ∃ x, cs = cycC x :=
  (Opens.struct Try.underlying43 (N := 5) (by kernel_rfl) (.cons rfl (n := 1) (by kernel_rfl) opens_int (.cons rfl (n := 1) (by kernel_rfl) opens_int (.cons rfl (n := 1) (by kernel_rfl) opens_int (.cons rfl (n := 1) (by kernel_rfl) opens_ints (.cons rfl (n := 1) (by kernel_rfl) opens_wrs .nil)))))).mono fun cs h => by
    obtain ⟨_, _, rfl, ⟨a, rfl⟩, _, _, rfl, ⟨b, rfl⟩, _, _, rfl, ⟨c, rfl⟩, _, _, rfl, ⟨d, rfl, _⟩, _, _, rfl, ⟨e, rfl, _⟩, rfl⟩ := h
    exact ⟨⟨a, b, c, d, e⟩, rfl⟩
theorem opens_cycs : Opens Try.prog 22 fun cs => ∃ l : List Cyc, cs = [.sl .sh 5 (l.map cycC)] ∧ l.length ≤ maxLen := opens_sl Try.underlying22 (by kernel_rfl) (by decide) opens_cyc
theorem opens_fan : Opens Try.prog 26 fun cs => ∃ x, cs = fanC x :=
  (Opens.struct Try.underlying26 (N := 4) (by kernel_rfl) (.cons rfl (n := 1) (by kernel_rfl) opens_int (.cons rfl (n := 1) (by kernel_rfl) opens_cycs (.cons rfl (n := 1) (by kernel_rfl) opens_ints (.cons rfl (n := 1) (by kernel_rfl) opens_bools .nil))))).mono fun cs h => by
    obtain ⟨_, _, rfl, ⟨a, rfl⟩, _, _, rfl, ⟨b, rfl, _⟩, _, _, rfl, ⟨c, rfl, _⟩, _, _, rfl, ⟨d, rfl, _⟩, rfl⟩ := h
    exact ⟨⟨a, b, c, d⟩, rfl⟩
end Go.Proofs.Ytpadnceoacbaeaa
namespace Go.Proofs.Ytpadnceoacbaeaa
open Go.Proofs
theorem opens_start : Opens Try.prog 28 fun cs => ∃ x, cs = stC x :=
  (Opens.struct Try.underlying28 (N := 3) (by kernel_rfl) (.cons rfl (n := 1) (by kernel_rfl) opens_int (.cons rfl (n := 1) (by kernel_rfl) opens_int (.cons rfl (n := 1) (by kernel_rfl) opens_int .nil)))).mono fun cs h => by
    obtain ⟨_, _, rfl, ⟨a, rfl⟩, _, _, rfl, ⟨b, rfl⟩, _, _, rfl, ⟨c, rfl⟩, rfl⟩ := h
    exact ⟨⟨a, b, c⟩, rfl⟩
end Go.Proofs.Ytpadnceoacbaeaa
