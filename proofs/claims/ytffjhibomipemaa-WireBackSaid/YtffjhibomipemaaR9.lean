import Derived.Test.YtffjhibomipemaaR7
import Derived.Test.YtffjhibomipemaaR8
set_option linter.unusedSimpArgs false
namespace Go.Proofs.Ytffjhibomipemaa
open Go.Proofs
theorem flat72 : FlatEq Try.prog 72 (List.replicate 8 .u8) := by
  obtain ⟨i, hi⟩ := Option.isSome_iff_exists.1 (show (Try.prog.info? 5).isSome = true by kernel_rfl)
  exact flatEq_array Try.underlying72 hi Try.underlying5 (by kernel_rfl) (by kernel_rfl)
theorem flat77 : FlatEq Try.prog 77 [.i64, .i64] := flatEq_pair Try.underlying77 rfl rfl rfl rfl (by decide) (by decide) Try.underlying3 (by kernel_rfl) (by kernel_rfl)
theorem fits_sec (s : Sec) : fits (List.replicate 8 .u8) (secC s) := by
  have := fits_rep .u8 (s.val.map fun b => (b.toNat : Int))
  rw [List.length_map, s.len, List.map_map] at this
  exact this
theorem fits_ext (x : Ext2) : fits [.i64, .i64] (extC x) := ⟨_, _, rfl, _, _, rfl, rfl⟩
theorem eqInts_cc (H : Hp) (V : List Nat) (t1 t2 : Tk) (l : List Int) (hl : l.length ≤ 900000000) : CC Try.prog 38 [.sl t1 1 (l.map ic), .sl t2 1 (l.map ic)] H V (Pu (cb true) H V) := by
  refine CC.of_swp Try.func38 rfl (by kernel_rfl) (by rw [Try.ntmps38]; exact len_le _ _ rfl) fun hok hokH => ?_
  clear hok
  refine SWp.seq (Wp.s ?_)
  simp -implicitDefEqProofs [go_sem, args0]
  refine SWp.seq (Wp.s ?_)
  simp -implicitDefEqProofs [go_sem]
  refine SWp.join (α := Unit) (fun _ => ([], H, V)) (fun _ => True) ?_ ?_
  · refine SWp.seq (Wp.s ?_)
    simp -implicitDefEqProofs [go_sem]
    refine SWp.block ?_
    refine SWp.loop (α := Nat) (fun i => ([(0, .sl t1 1 (l.map ic)), (1, .sl t2 1 (l.map ic)), (12, ci l.length), (13, ci i)], H, V)) (fun i => i ≤ l.length) (fun i => l.length - i) 0 (Nat.zero_le _) (Sh.forget (by simp [go_sem]) rfl rfl) ?_
    intro i hi
    dsimp only
    refine SWp.seq (Wp.s ?_)
    simp -implicitDefEqProofs [go_sem]
    refine SWp.seq (Wp.s ?_)
    simp -implicitDefEqProofs [go_sem]
    refine ⟨fun h => ?_, fun h => Sh.forget (by simp [go_sem]) rfl rfl⟩
    have hw := wrap_succ (show i ≤ 1000000000 by omega)
    refine SWp.seq (SWp.block ?_)
    refine SWp.seq (Wp.s ?_)
    simp -implicitDefEqProofs [go_sem]
    refine SWp.seq (SWp.drawnL [0, 1, 2, 3, 4, 5, 6, 7, 8] (by kernel_rfl) (by kernel_rfl) rfl ?_)
    simp -implicitDefEqProofs [go_sem, h]
    refine Wp.s ?_
    simp -implicitDefEqProofs [go_sem, hw]
    refine Wp.s ?_
    simp -implicitDefEqProofs [go_sem, hw]
    exact ⟨i + 1, by omega, by omega, Sh.forget (by simp [go_sem]) rfl rfl⟩
  · rintro _ -
    dsimp only
    refine Wp.s ?_
    simp -implicitDefEqProofs [go_sem]
    exact Fin.bool rfl hokH (by simp) (by simp)
theorem eqSecs_cc (H : Hp) (V : List Nat) (t1 t2 : Tk) (l : List Sec) (hl : l.length ≤ 900000000) : CC Try.prog 40 [.sl t1 8 (l.map secC), .sl t2 8 (l.map secC)] H V (Pu (cb true) H V) := by
  refine CC.of_swp Try.func40 rfl (by kernel_rfl) (by rw [Try.ntmps40]; exact len_le _ _ rfl) fun hok hokH => ?_
  clear hok
  refine SWp.seq (Wp.s ?_)
  simp -implicitDefEqProofs [go_sem, args0]
  refine SWp.seq (Wp.s ?_)
  simp -implicitDefEqProofs [go_sem]
  refine SWp.join (α := Unit) (fun _ => ([], H, V)) (fun _ => True) ?_ ?_
  · refine SWp.seq (Wp.s ?_)
    simp -implicitDefEqProofs [go_sem]
    refine SWp.block ?_
    refine SWp.loop (α := Nat) (fun i => ([(0, .sl t1 8 (l.map secC)), (1, .sl t2 8 (l.map secC)), (12, ci l.length), (13, ci i)], H, V)) (fun i => i ≤ l.length) (fun i => l.length - i) 0 (Nat.zero_le _) (Sh.forget (by simp [go_sem]) rfl rfl) ?_
    intro i hi
    dsimp only
    refine SWp.seq (Wp.s ?_)
    simp -implicitDefEqProofs [go_sem]
    refine SWp.seq (Wp.s ?_)
    simp -implicitDefEqProofs [go_sem]
    refine ⟨fun h => ?_, fun h => Sh.forget (by simp [go_sem]) rfl rfl⟩
    have hw := wrap_succ (show i ≤ 1000000000 by omega)
    refine SWp.seq (SWp.block ?_)
    refine SWp.seq (Wp.s ?_)
    simp -implicitDefEqProofs [go_sem]
    refine SWp.seq (SWp.drawnL [0, 1, 2, 3, 4, 5, 6, 7, 8] (by kernel_rfl) (by kernel_rfl) rfl ?_)
    simp -implicitDefEqProofs [go_sem, h]
    refine ⟨_, flat72, fits_sec _, ?_⟩
    refine Wp.s ?_
    simp -implicitDefEqProofs [go_sem, hw]
    refine Wp.s ?_
    simp -implicitDefEqProofs [go_sem, hw]
    exact ⟨i + 1, by omega, by omega, Sh.forget (by simp [go_sem]) rfl rfl⟩
  · rintro _ -
    dsimp only
    refine Wp.s ?_
    simp -implicitDefEqProofs [go_sem]
    exact Fin.bool rfl hokH (by simp) (by simp)
theorem eqExts_cc (H : Hp) (V : List Nat) (t1 t2 : Tk) (l : List Ext2) (hl : l.length ≤ 900000000) : CC Try.prog 42 [.sl t1 2 (l.map extC), .sl t2 2 (l.map extC)] H V (Pu (cb true) H V) := by
  refine CC.of_swp Try.func42 rfl (by kernel_rfl) (by rw [Try.ntmps42]; exact len_le _ _ rfl) fun hok hokH => ?_
  clear hok
  refine SWp.seq (Wp.s ?_)
  simp -implicitDefEqProofs [go_sem, args0]
  refine SWp.seq (Wp.s ?_)
  simp -implicitDefEqProofs [go_sem]
  refine SWp.join (α := Unit) (fun _ => ([], H, V)) (fun _ => True) ?_ ?_
  · refine SWp.seq (Wp.s ?_)
    simp -implicitDefEqProofs [go_sem]
    refine SWp.block ?_
    refine SWp.loop (α := Nat) (fun i => ([(0, .sl t1 2 (l.map extC)), (1, .sl t2 2 (l.map extC)), (12, ci l.length), (13, ci i)], H, V)) (fun i => i ≤ l.length) (fun i => l.length - i) 0 (Nat.zero_le _) (Sh.forget (by simp [go_sem]) rfl rfl) ?_
    intro i hi
    dsimp only
    refine SWp.seq (Wp.s ?_)
    simp -implicitDefEqProofs [go_sem]
    refine SWp.seq (Wp.s ?_)
    simp -implicitDefEqProofs [go_sem]
    refine ⟨fun h => ?_, fun h => Sh.forget (by simp [go_sem]) rfl rfl⟩
    have hw := wrap_succ (show i ≤ 1000000000 by omega)
    refine SWp.seq (SWp.block ?_)
    refine SWp.seq (Wp.s ?_)
    simp -implicitDefEqProofs [go_sem]
    refine SWp.seq (SWp.drawnL [0, 1, 2, 3, 4, 5, 6, 7, 8] (by kernel_rfl) (by kernel_rfl) rfl ?_)
    simp -implicitDefEqProofs [go_sem, h]
    refine ⟨_, flat77, fits_ext _, ?_⟩
    refine Wp.s ?_
    simp -implicitDefEqProofs [go_sem, hw]
    refine Wp.s ?_
    simp -implicitDefEqProofs [go_sem, hw]
    exact ⟨i + 1, by omega, by omega, Sh.forget (by simp [go_sem]) rfl rfl⟩
  · rintro _ -
    dsimp only
    refine Wp.s ?_
    simp -implicitDefEqProofs [go_sem]
    exact Fin.bool rfl hokH (by simp) (by simp)
theorem sameSecs_cc (H : Hp) (V : List Nat) (t1 t2 : Tk) (l : List Sec) (hl : l.length ≤ 900000000) : CC Try.prog 80 [.sl t1 8 (l.map secC), .sl t2 8 (l.map secC)] H V (Pu (cb true) H V) := by
  refine CC.of_swp Try.func80 rfl (by kernel_rfl) (by rw [Try.ntmps80]; exact len_le _ _ rfl) fun hok hokH => ?_
  clear hok
  refine SWp.seq (Wp.s ?_)
  simp -implicitDefEqProofs [go_sem, args0]
  refine SWp.seq (Wp.s ?_)
  simp -implicitDefEqProofs [go_sem]
  refine SWp.join (α := Unit) (fun _ => ([], H, V)) (fun _ => True) ?_ ?_
  · refine SWp.seq (Wp.s ?_)
    simp -implicitDefEqProofs [go_sem]
    refine SWp.block ?_
    refine SWp.loop (α := Nat) (fun i => ([(0, .sl t1 8 (l.map secC)), (1, .sl t2 8 (l.map secC)), (5, ci i)], H, V)) (fun i => i ≤ l.length) (fun i => l.length - i) 0 (Nat.zero_le _) (Sh.forget (by simp [go_sem]) rfl rfl) ?_
    intro i hi
    dsimp only
    refine SWp.seq (Wp.s ?_)
    simp -implicitDefEqProofs [go_sem]
    refine ⟨fun h => ?_, fun h => Sh.forget (by simp [go_sem]) rfl rfl⟩
    have hw := wrap_succ (show i ≤ 1000000000 by omega)
    refine SWp.seq (SWp.block ?_)
    refine SWp.seq (SWp.drawnL [0, 1, 2, 3, 4, 5, 6, 7, 8] (by kernel_rfl) (by kernel_rfl) rfl ?_)
    simp -implicitDefEqProofs [go_sem, h]
    refine ⟨_, flat72, fits_sec _, ?_⟩
    refine Wp.s ?_
    simp -implicitDefEqProofs [go_sem, hw]
    refine Wp.s ?_
    simp -implicitDefEqProofs [go_sem, hw]
    exact ⟨i + 1, by omega, by omega, Sh.forget (by simp [go_sem]) rfl rfl⟩
  · rintro _ -
    dsimp only
    refine Wp.s ?_
    simp -implicitDefEqProofs [go_sem]
    exact Fin.bool rfl hokH (by simp) (by simp)
set_option maxRecDepth 20000 in
theorem sameWrs_cc (H : Hp) (V : List Nat) (t1 t2 : Tk) (l : List Wr) (hl : l.length ≤ 900000000) (hd : ∀ w ∈ l, w.data.length ≤ 900000000) : CC Try.prog 44 [.sl t1 3 (l.map wrC), .sl t2 3 (l.map wrC)] H V (Pu (cb true) H V) := by
  refine CC.of_swp Try.func44 rfl (by kernel_rfl) (by rw [Try.ntmps44]; exact len_le _ _ rfl) fun hok hokH => ?_
  clear hok
  refine SWp.seq (Wp.s ?_)
  simp -implicitDefEqProofs [go_sem, args0]
  refine SWp.seq (Wp.s ?_)
  simp -implicitDefEqProofs [go_sem]
  refine SWp.join (α := Unit) (fun _ => ([], H, V)) (fun _ => True) ?_ ?_
  · refine SWp.seq (Wp.s ?_)
    simp -implicitDefEqProofs [go_sem]
    refine SWp.block ?_
    refine SWp.loop (α := Nat) (fun i => ([(0, .sl t1 3 (l.map wrC)), (1, .sl t2 3 (l.map wrC)), (5, ci i)], H, V)) (fun i => i ≤ l.length) (fun i => l.length - i) 0 (Nat.zero_le _) (Sh.forget (by simp [go_sem]) rfl rfl) ?_
    intro i hi
    dsimp only
    refine SWp.seq (Wp.s ?_)
    simp -implicitDefEqProofs [go_sem]
    refine ⟨fun h => ?_, fun h => Sh.forget (by simp [go_sem]) rfl rfl⟩
    have hw := wrap_succ (show i ≤ 1000000000 by omega)
    refine SWp.seq (SWp.block ?_)
    refine SWp.seq (SWp.drawnL [0, 1, 2, 3, 4, 5, 6, 7, 8, 9, 10, 11, 12, 13, 14, 15, 16, 17, 18, 19, 20, 21, 22, 23, 24, 25, 26, 27, 28, 29, 30, 31, 32, 33, 34, 35, 36, 37] (by kernel_rfl) (by kernel_rfl) rfl ?_)
    simp -implicitDefEqProofs [go_sem, h]
    refine CC.mono (sameSecs_cc _ _ _ _ l[i].data (hd _ (List.getElem_mem h))) ?_
    rintro _ _ _ ⟨rfl, rfl, rfl⟩
    simp -implicitDefEqProofs [go_sem, h]
    refine Wp.s ?_
    simp -implicitDefEqProofs [go_sem, hw]
    refine Wp.s ?_
    simp -implicitDefEqProofs [go_sem, hw]
    exact ⟨i + 1, by omega, by omega, Sh.forget (by simp [go_sem]) rfl rfl⟩
  · rintro _ -
    dsimp only
    refine Wp.s ?_
    simp -implicitDefEqProofs [go_sem]
    exact Fin.bool rfl hokH (by simp) (by simp)
end Go.Proofs.Ytffjhibomipemaa
