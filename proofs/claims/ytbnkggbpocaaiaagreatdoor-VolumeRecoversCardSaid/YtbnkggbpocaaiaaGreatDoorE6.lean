import Derived.Test.YtbnkggbpocaaiaaGreatDoorE5
import Derived.ChangeKeysEq
import Derived.Test.YtbnkggbpocaaiaaGreatDoorE4
set_option linter.unusedSimpArgs false
set_option linter.unusedVariables false
set_option linter.unusedSectionVars false
namespace Go.Proofs.YtbnkggbpocaaiaaGreatDoor
open Go.Proofs
section
variable {n nb nv : Nat} {T T' : Tm} {H : Hp} {V : List Nat}
end
def stV (x : List Opn × Nat) : CV := .tup [opsV x.1, er x.2]
theorem okV_stV (i j : Nat) (x : List Opn × Nat) : okV i j (stV x) := by
  rw [stV, okV, okL, okL, okL, opsV, okV_sh, okE_ops]
  exact ⟨trivial, okV_er _ _ _, trivial⟩
theorem fmt_fin {H : Hp} {V : List Nat} {a : Int} {p : List UInt8} (hokH : ∀ (b : Nat) cs, H[b]? = some (some cs) → okL H.length V.length cs) :
    Fin H.length V.length (Pu (stV ([opW a (List.replicate 16 sec0), opS, opW a (copyS 1 p), opS], 0)) H V)
      (.tup [.sl .ti 3 [[.v (.int .i64 0), .v (.int .i64 a), .bsl H.length 0 16 8], [.v (.int .i64 1), .v (.int .i64 0), .v (.slice none 0 0)], [.v (.int .i64 0), .v (.int .i64 a), .sl .sh 8 ((copyS 1 p).map secC)], [.v (.int .i64 1), .v (.int .i64 0), .v (.slice none 0 0)]], .v (.int .i64 0)])
      (H ++ [some (List.replicate 16 [CV.v (.int .u8 0), CV.v (.int .u8 0), CV.v (.int .u8 0), CV.v (.int .u8 0), CV.v (.int .u8 0), CV.v (.int .u8 0), CV.v (.int .u8 0), CV.v (.int .u8 0)]).flatten]) V := by
  have hz0 : (List.replicate 16 [CV.v (.int .u8 0), CV.v (.int .u8 0), CV.v (.int .u8 0), CV.v (.int .u8 0), CV.v (.int .u8 0), CV.v (.int .u8 0), CV.v (.int .u8 0), CV.v (.int .u8 0)]).flatten = secsF (List.replicate 16 sec0) := zeros_secs 16
  have hch : chunks 8 16 ((secsF (List.replicate 16 sec0)).drop 0) = (List.replicate 16 sec0).map secC := by
    have := chunks_secs (List.replicate 16 sec0)
    rwa [List.length_replicate] at this
  rw [hz0]
  have n3 : LeL [.v (.int .i64 1), .v (.int .i64 0), .v (.slice none 0 0)] [.v (.int .i64 1), .v (.int .i64 0), secsV []] := .cons (.refl _) (.cons (.refl _) (.cons (.nil 8 (by decide)) .nil))
  have r3 : ∀ x y z : CV, LeL [x, y, z] [x, y, z] := fun x y z => .cons (.refl _) (.cons (.refl _) (.cons (.refl _) .nil))
  have f3 : ∀ x y z : CV, FyL H.length (secsF (List.replicate 16 sec0)) [x, y, z] [x, y, z] := fun x y z => .cons (.refl _) (.cons (.refl _) (.cons (.refl _) .nil))
  refine Fin.frozY (b := H.length) (cs := secsF (List.replicate 16 sec0))
    (r1 := .tup [.sl .sh 3 [[.v (.int .i64 0), .v (.int .i64 a), .bsl H.length 0 16 8], [.v (.int .i64 1), .v (.int .i64 0), secsV []], [.v (.int .i64 0), .v (.int .i64 a), .sl .sh 8 ((copyS 1 p).map secC)], [.v (.int .i64 1), .v (.int .i64 0), secsV []]], .v (.int .i64 0)])
    ⟨rfl, rfl, rfl⟩ (.tup (.cons (.sle _ _ (.cons (r3 _ _ _) (.cons n3 (.cons (r3 _ _ _) (.cons n3 .nil))))) (.cons (.refl _) .nil))) (by simp) ?_ (Nat.le_refl _) (okV_stV _ _ _) hokH (by simp) (by simp)
  refine .tup (.cons (.sl _ _ (.cons (.cons (.refl _) (.cons (.refl _) (.cons ?_ .nil))) (.cons (f3 _ _ _) (.cons (f3 _ _ _) (.cons (f3 _ _ _) .nil))))) (.cons (.refl _) .nil))
  show Fy _ _ _ (.sl .sh 8 ((List.replicate 16 sec0).map secC))
  rw [← hch]
  exact .bsl _ _ _ (by simp)
theorem sFormat_cc (H : Hp) (V : List Nat) (a : Int) (tk : Tk) (p : List UInt8) : CC Tryz.prog 108 [ci a, .sl tk 1 (bs p)] H V (Pu (stV (formatS a p)) H V) := by
  refine CC.of_swp Tryz.func108 rfl (by kernel_rfl) (by rw [Tryz.ntmps108]; exact len_le _ _ rfl) fun hok hokH => ?_
  clear hok
  have bad : ∀ (e : Nat) {H' : Hp} {V' : List Nat}, formatS a p = ([], e) → H'.take H.length = H → V'.take V.length = V → Fin H.length V.length (Pu (stV (formatS a p)) H V) (.tup [.v (.slice none 0 0), er e]) H' V' := fun e H' V' h1 h2 h3 => by
    rw [h1]
    exact Fin.pu (.tup (.cons (.nil 3 (by decide)) (.cons (.refl _) .nil))) (okV_stV _ _ _) hokH h2 h3
  refine sW ?_
  simp -implicitDefEqProofs [go_sem, args0]
  refine SWp.seq (SWp.block (sW ?_))
  by_cases h1 : a < 0
  · simp -implicitDefEqProofs [go_sem, h1]
    refine Wp.s ?_
    simp -implicitDefEqProofs [go_sem]
    exact bad 2 (by rw [formatS, if_pos (.inl h1)]) (by simp) (by simp)
  by_cases h2 : 4080 < a
  · simp -implicitDefEqProofs [go_sem, h1, h2]
    refine Wp.s ?_
    simp -implicitDefEqProofs [go_sem]
    exact bad 2 (by rw [formatS, if_pos (.inr h2)]) (by simp) (by simp)
  simp -implicitDefEqProofs [go_sem, h1, h2]
  refine Wp.s ?_
  by_cases h3 : 31 < p.length
  · simp -implicitDefEqProofs [go_sem, show (31 : Int) < p.length by omega]
    exact bad 5 (by rw [formatS, if_neg (by omega), if_pos h3]) (by simp) (by simp)
  simp -implicitDefEqProofs [go_sem, show ¬ (31 : Int) < p.length by omega]
  have hF : formatS a p = ([opW a (List.replicate 16 sec0), opS, opW a (copyS 1 p), opS], 0) := by rw [formatS, if_neg (by omega), if_neg h3]
  refine SWp.seq (SWp.drawnT [] [] (.s 0 .pl <| .s 3 .pl <| .s 4 .pl <| .s 5 .pl <| .s 9 .pl <| .c 6 <| .s 7 .pl <| .s 8 .pl <| .s 1 .pl <| .s 2 .pl <| .s 10 .pl <| .s 11 .pl <| .s 12 .pl <| .n) (by kernel_rfl) (by kernel_rfl) ?_)
  simp -implicitDefEqProofs [go_sem, -List.reduceReplicate]
  refine ⟨.agg [ci 1, .sl .sh 1 (bs p), secsV (copyS 1 p)], fun H V => sput_cc H V 1 tk p (by decide) (by omega), ?_⟩
  simp -implicitDefEqProofs [go_sem, -List.reduceReplicate]
  refine Wp.s ?_
  simp -implicitDefEqProofs [go_sem, -List.reduceReplicate]
  rw [hF]
  exact fmt_fin hokH
end Go.Proofs.YtbnkggbpocaaiaaGreatDoor
namespace Go.Proofs.YtbnkggbpocaaiaaGreatDoor
open Go.Proofs
def mxS (m : Nat) (l : List Sec) : Nat := l.foldl (fun m s => max m (gn s)) m
theorem mxS_take (m : Nat) (l : List Sec) (i : Nat) (h : i < l.length) : mxS m (l.take (i + 1)) = max (mxS m (l.take i)) (gn l[i]) := foldl_take_succ _ _ _ _ h
theorem mxS_app (m : Nat) (a b : List Sec) : mxS m (a ++ b) = mxS (mxS m a) b := List.foldl_append ..
theorem topS_eq (l : List Sec) : topS l = mxS 0 l := rfl
theorem mxS_lt : ∀ (l : List Sec) (m : Nat), m < 4294967296 → mxS m l < 4294967296
  | [], m, h => h
  | s :: l, m, h => mxS_lt l (max m (gn s)) (by have := gn_lt s; omega)
theorem imax (a b : Nat) : max (a : Int) (b : Int) = ((max a b : Nat) : Int) := by omega
theorem sto_fin {H H' : Hp} {V V' : List Nat} {b : Int} {s : List Sec} (hokH : ∀ (b : Nat) cs, H[b]? = some (some cs) → okL H.length V.length cs) (hH : H'.take H.length = H) (hV : V'.take V.length = V) :
    Fin H.length V.length (Pu (stV ([opW b s, opS], 0)) H V)
      (.tup [.sl .ti 3 [[.v (.int .i64 0), .v (.int .i64 b), .sl .sh 8 (s.map secC)], [.v (.int .i64 1), .v (.int .i64 0), .v (.slice none 0 0)]], .v (.int .i64 0)]) H' V' := by
  refine Fin.pu (.tup (.cons (.sle _ _ (.cons ?_ (.cons ?_ .nil))) (.cons (.refl _) .nil))) (okV_stV _ _ ([opW b s, opS], 0)) hokH hH hV
  · exact .cons (.refl _) (.cons (.refl _) (.cons (.refl _) .nil))
  · exact .cons (.refl _) (.cons (.refl _) (.cons (.nil 8 (by decide)) .nil))
theorem sStore_cc (H : Hp) (V : List Nat) (d : Dk) (a : Int) (tk : Tk) (p : List UInt8) (hl : DkS d) : CC Tryz.prog 142 [.agg (dkC d), ci a, .sl tk 1 (bs p)] H V (Pu (stV (storeS d a p)) H V) := by
  refine CC.of_swp Tryz.func142 rfl (by kernel_rfl) (by rw [Tryz.ntmps142]; exact len_le _ _ rfl) fun hok hokH => ?_
  have bad : ∀ (e : Nat) {H' : Hp} {V' : List Nat}, storeS d a p = ([], e) → H'.take H.length = H → V'.take V.length = V → Fin H.length V.length (Pu (stV (storeS d a p)) H V) (.tup [.v (.slice none 0 0), er e]) H' V' := fun e H' V' h1 h2 h3 => by
    rw [h1]
    exact Fin.pu (.tup (.cons (.nil 3 (by decide)) (.cons (.refl _) .nil))) (okV_stV _ _ _) hokH h2 h3
  refine sW ?_
  simp -implicitDefEqProofs [go_sem, args0]
  refine sW ?_
  simp -implicitDefEqProofs [go_sem]
  refine CC.mono (sfind_cc _ _ d a hl) ?_
  rintro _ _ _ ⟨rfl, rfl, rfl⟩
  by_cases he : findE d a = 0
  case neg =>
    have hV : findV d a = .tup [.agg (repC (0, []) [] ++ repC (0, []) []), ci 0, er (findE d a)] := by rw [findV, if_pos he]
    rw [hV]
    simp -implicitDefEqProofs [go_sem, repC]
    refine sW ?_
    simp -implicitDefEqProofs [go_sem, he]
    exact bad _ (by rw [storeS, if_pos he]) (by simp) (by simp)
  by_cases hb : (best (findL d a)).1 = 0
  · have hV : findV d a = .tup [.agg (bothC (findL d a)), ci 0, er 9] := by rw [findV, if_neg (by simpa using he), if_pos hb]
    rw [hV]
    simp -implicitDefEqProofs [go_sem, bothC, repC]
    refine sW ?_
    simp -implicitDefEqProofs [go_sem]
    exact bad 9 (by rw [storeS, if_neg (by simpa using he), if_pos hb]) (by simp) (by simp)
  have hV : findV d a = .tup [.agg (bothC (findL d a)), ci (new1 (findL d a)), er 0] := by rw [findV, if_neg (by simpa using he), if_neg hb]
  have hl16 := findL_len he
  have hat : 0 ≤ a ∧ a ≤ 1000000 := by
    unfold findE readD at he
    split at he
    · rename_i h1; exact absurd he h1
    · split at he
      · cases he
      · rename_i h1 h2
        have hq : insideB d a 16 = true := by simpa using h2
        simp only [insideB, Bool.and_eq_true, decide_eq_true_eq] at hq
        have := hl.1
        omega
  rw [hV]
  simp -implicitDefEqProofs [go_sem, bothC, repC]
  refine sW ?_
  simp -implicitDefEqProofs [go_sem]
  refine sW ?_
  by_cases h31 : 31 < p.length
  · simp -implicitDefEqProofs [go_sem, show (31 : Int) < p.length by omega]
    exact bad 5 (by rw [storeS, if_neg (by simpa using he), if_neg hb, if_pos h31]) (by simp) (by simp)
  simp -implicitDefEqProofs [go_sem, show ¬ (31 : Int) < p.length by omega]
  have hS : storeS d a p = if topS (findL d a) = 4294967295 then ([], 11) else ([opW (a + 8 - 8 * (new1 (findL d a) : Int)) (copyS (topS (findL d a) + 1) p), opS], 0) := by rw [storeS, if_neg (by simpa using he), if_neg hb, if_neg h31]
  generalize findL d a = l at *
  have hn : new1 l = 1 ∨ new1 l = 0 := by unfold new1; split <;> simp
  refine sW ?_
  simp -implicitDefEqProofs [go_sem]
  have hBox : ∀ j, V.length ≤ j → okH (H.length + 2) j [some (dkC d), some (bothC l)] := fun j hj => by
    rw [okH_some, okH_some, okL_dkC]
    exact ⟨trivial, okL_app (okL_repC _ _ _ _) (okL_repC _ _ _ _), trivial⟩
  refine SWp.join (α := Unit) (fun _ => ([(1, ci a), (2, .sl tk 1 (bs p)), (9, ci (new1 l)), (11, ci (topS l))], H ++ [some (dkC d), some (bothC l)], V)) (fun _ => True) ?_ ?_
  · refine sW ?_
    simp -implicitDefEqProofs [go_sem]
    refine SWp.block ?_
    refine SWp.loop (α := Nat) (fun i => ([(1, ci a), (2, .sl tk 1 (bs p)), (9, ci (new1 l)), (11, ci (mxS 0 (l.take (8 * i)))), (30, .agg (bothC l)), (31, ci i)], H ++ [some (dkC d), some (bothC l)], V)) (fun i => i ≤ 2) (fun i => 2 - i) 0 (by omega) (Sh.forget (by simp -implicitDefEqProofs [go_sem, mxS, bothC, repC]) (by simp [bothC, repC]) rfl) ?_
    intro i hi
    dsimp only
    refine sW ?_
    simp -implicitDefEqProofs [go_sem]
    refine sW ?_
    simp -implicitDefEqProofs [go_sem]
    refine ⟨fun h => ?_, fun h => ?_⟩
    case refine_2 =>
      obtain rfl : i = 2 := by omega
      exact Sh.forget (by simp -implicitDefEqProofs [go_sem, topS_eq, List.take_of_length_le (show l.length ≤ 8 * 2 by omega)]) rfl rfl
    have hi2 : i = 0 ∨ i = 1 := by omega
    generalize hs : (l.drop (8 * i)).take 8 = s
    have hs8 : s.length = 8 := by rw [← hs, List.length_take, List.length_drop]; omega
    have hnext : mxS (mxS 0 (l.take (8 * i))) s = mxS 0 (l.take (8 * (i + 1))) := by
      rw [← mxS_app, ← hs, ← List.take_add]
      rfl
    have hBox3 : ∀ (c : Nat × List UInt8) (j : Nat), V.length ≤ j → okH (H.length + 3) j [some (dkC d), some (bothC l), some (repC c s)] := fun c j hj => by
      rw [okH_some, okH_some, okH_some, okL_dkC]
      exact ⟨trivial, okL_app (okL_repC _ _ _ _) (okL_repC _ _ _ _), okL_repC _ _ _ _, trivial⟩
    refine SWp.seq (SWp.block (SWp.join (α := Nat × List UInt8) (fun c => ([(1, ci a), (2, .sl tk 1 (bs p)), (9, ci (new1 l)), (11, ci (mxS 0 (l.take (8 * i)))), (30, .agg (bothC l)), (31, ci i), (13, .ptr (H.length + 2) 0)], H ++ [some (dkC d), some (bothC l), some (repC c s)], V)) (fun _ => True) ?_ ?_))
    · refine Wp.s ?_
      rcases hi2 with rfl | rfl
      · simp -implicitDefEqProofs [go_sem, bothC, repC]
        refine ⟨(cA l).1, (cA l).2, Sh.forget (by simp -implicitDefEqProofs [go_sem]) ?_ rfl⟩
        rw [← hs]; rfl
      · simp -implicitDefEqProofs [go_sem, bothC, repC]
        refine ⟨(cB l).1, (cB l).2, Sh.forget (by simp -implicitDefEqProofs [go_sem]) ?_ rfl⟩
        rw [← hs, show (l.drop (8 * 1)).take 8 = l.drop 8 from List.take_of_length_le (by rw [List.length_drop]; omega)]
    rintro ⟨c1, c2⟩ -
    dsimp only
    refine sW ?_
    simp -implicitDefEqProofs [go_sem, repC]
    refine SWp.block ?_
    refine SWp.loop (α := Nat) (fun k => ([(1, ci a), (2, .sl tk 1 (bs p)), (9, ci (new1 l)), (11, ci (mxS (mxS 0 (l.take (8 * i))) (s.take k))), (30, .agg (bothC l)), (31, ci i), (35, secsV s), (36, ci 8), (37, ci k)], H ++ [some (dkC d), some (bothC l), some (repC (c1, c2) s)], V)) (fun k => k ≤ 8) (fun k => 8 - k) 0 (by omega) (Sh.forget (by simp -implicitDefEqProofs [go_sem, hs8, mxS]) (by simp [repC]) rfl) ?_
    intro k hk
    dsimp only
    refine sW ?_
    simp -implicitDefEqProofs [go_sem]
    refine sW ?_
    simp -implicitDefEqProofs [go_sem]
    refine ⟨fun hk8 => ?_, fun hk8 => ?_⟩
    case refine_2 =>
      obtain rfl : k = 8 := by omega
      refine Wp.s ?_
      simp -implicitDefEqProofs [go_sem, wrap_succ (show i ≤ 1000000000 by omega)]
      refine ⟨i + 1, by omega, by omega, Sh.trim (L := [some (dkC d), some (bothC l)]) ?_ ?_ hokH (hBox _ (Nat.le_refl _)) (Nat.le_refl _) (by simp) (by simp)⟩
      · rw [List.take_of_length_le (show s.length ≤ 8 by omega), hnext]
        simp -implicitDefEqProofs [go_sem]
      · rw [okL, okL, okL] at hok
        simp only [TOk_cons, TOk_nil]
        exact ⟨by simp -implicitDefEqProofs [go_sem], okV_mono (by omega) (Nat.le_refl _) hok.2.2.1, by simp -implicitDefEqProofs [go_sem], by simp -implicitDefEqProofs [go_sem], by rw [okV_agg]; exact okL_app (okL_repC _ _ _ _) (okL_repC _ _ _ _), by simp -implicitDefEqProofs [go_sem], trivial⟩
    have hks : k < s.length := by omega
    refine SWp.seq (SWp.block (sW ?_))
    simp -implicitDefEqProofs [go_sem, hks]
    refine Wp.s ?_
    simp -implicitDefEqProofs [go_sem]
    refine CC.mono (sgeneration_cc _ _ _) ?_
    rintro _ _ _ ⟨rfl, rfl, rfl⟩
    simp -implicitDefEqProofs [go_sem]
    refine Wp.s ?_
    simp -implicitDefEqProofs [go_sem, wrap_succ (show k ≤ 1000000000 by omega), imax]
    refine ⟨k + 1, by omega, by omega, Sh.trim (L := [some (dkC d), some (bothC l), some (repC (c1, c2) s)]) ?_ ?_ hokH (hBox3 _ _ (Nat.le_refl _)) (Nat.le_refl _) (by simp) (by simp)⟩
    · rw [mxS_take _ _ _ hks]
      simp -implicitDefEqProofs [go_sem, imax]
    · rw [okL, okL, okL] at hok
      simp only [TOk_cons, TOk_nil]
      exact ⟨by simp -implicitDefEqProofs [go_sem], okV_mono (by omega) (Nat.le_refl _) hok.2.2.1, by simp -implicitDefEqProofs [go_sem], by simp -implicitDefEqProofs [go_sem], by rw [okV_agg]; exact okL_app (okL_repC _ _ _ _) (okL_repC _ _ _ _), by simp -implicitDefEqProofs [go_sem], okV_secsV _ _ _, by simp -implicitDefEqProofs [go_sem], by simp -implicitDefEqProofs [go_sem], trivial⟩
  · rintro _ -
    dsimp only
    have htop : topS l < 4294967296 := mxS_lt _ _ (by omega)
    rw [hS]
    refine sW ?_
    by_cases ht : topS l = 4294967295
    · rw [if_pos ht] at hS
      rw [← hS]
      simp -implicitDefEqProofs [go_sem, ht]
      exact bad 11 hS (by simp) (by simp)
    rw [if_neg ht]
    simp -implicitDefEqProofs [go_sem, show ¬ (topS l : Int) = 4294967295 by omega]
    refine sW ?_
    have e0 : IntKind.i64.wrap (1 - (new1 l : Int)) = 1 - (new1 l : Int) := IntWalk.i64_in _ ⟨by omega, by omega⟩
    have e1 : IntKind.i64.wrap ((1 - (new1 l : Int)) * 8) = 8 - 8 * (new1 l : Int) := by rw [IntWalk.i64_in _ ⟨by omega, by omega⟩]; omega
    have e2 : IntKind.i64.wrap (a + (8 - 8 * (new1 l : Int))) = a + 8 - 8 * (new1 l : Int) := by rw [IntWalk.i64_in _ ⟨by omega, by omega⟩]; omega
    have e3 : IntKind.i64.wrap ((topS l : Int) + 1) = ((topS l + 1 : Nat) : Int) := by rw [IntWalk.i64_in _ ⟨by omega, by omega⟩]; rfl
    simp -implicitDefEqProofs [go_sem, e0]
    refine sW ?_
    simp -implicitDefEqProofs [go_sem, e1, e2, e3]
    have hput := fun (H : Hp) (V : List Nat) => sput_cc H V (topS l + 1) tk p (by omega) (by omega)
    rw [Int.natCast_succ] at hput
    refine CC.mono (hput _ _) ?_
    rintro _ _ _ ⟨rfl, rfl, rfl⟩
    simp -implicitDefEqProofs [go_sem]
    refine Wp.s ?_
    simp -implicitDefEqProofs [go_sem]
    exact sto_fin hokH (by simp) (by simp)
end Go.Proofs.YtbnkggbpocaaiaaGreatDoor
namespace Go.Proofs.YtbnkggbpocaaiaaGreatDoor
open Go.Proofs
@[go_sem] theorem azTy3 : azTy Tryz.prog 3 = true := by kernel_rfl
def DecR (len n : Nat) (H : Hp) (V : List Nat) : CV → Hp → List Nat → Prop := fun r H' V' => ∃ (k : Nat) (l' : List Int), (k < n ∧ l'.length ≤ len) ∧ r = .tup [ci k, .sl .sh 1 (l'.map ic)] ∧ H = H' ∧ V = V'
theorem sdecide_cc (H : Hp) (V : List Nat) (tk : Tk) (l : List Int) (n : Nat) (h0 : 0 < n) (hn : n ≤ 2000000) : CC Tryz.prog 161 [.sl tk 1 (l.map ic), ci n] H V (DecR l.length n H V) := by
  refine CC.of_swp Tryz.func161 rfl (by kernel_rfl) (by rw [Tryz.ntmps161]; exact len_le _ _ rfl) fun hok hokH => ?_
  clear hok
  have fin : ∀ (k : Nat) (l' : List Int) (c : CV) {H' : Hp} {V' : List Nat}, k < n ∧ l'.length ≤ l.length → Le c (.sl .sh 1 (l'.map ic)) → H'.take H.length = H → V'.take V.length = V → Fin H.length V.length (DecR l.length n H V) (.tup [ci k, c]) H' V' := fun k l' c H' V' hk hc h1 h2 =>
    Fin.pure ⟨k, l', hk, rfl, rfl, rfl⟩ h1 h2 (.tup (.cons (.refl _) (.cons hc .nil))) (by rw [okV]; simp -implicitDefEqProofs [go_sem, okE_ints]) hokH
  refine sW ?_
  simp -implicitDefEqProofs [go_sem, args0]
  refine sW ?_
  by_cases hl : l = []
  · subst hl
    simp -implicitDefEqProofs [go_sem]
    exact fin 0 [] _ ⟨h0, Nat.le_refl _⟩ (.nil 1 (by decide)) (by simp) (by simp)
  have hlp : 0 < l.length := List.length_pos_iff.2 hl
  simp -implicitDefEqProofs [go_sem, hl, show ¬ l.length = 0 by omega]
  refine SWp.seq (SWp.drawnL (List.range 13) (by kernel_rfl) (by kernel_rfl) rfl ?_)
  simp -implicitDefEqProofs [go_sem, List.range, List.range.loop, hlp]
  have hn0 : (0 : Int) < n := by omega
  have x1 := Int.tmod_lt_of_pos l[0] hn0
  have x2 : -(n : Int) < l[0].tmod n := by
    have := Int.lt_tmod_of_pos l[0] hn0
    omega
  have hw : IntKind.i64.wrap (l[0].tmod n + n) = l[0].tmod n + n := IntWalk.i64_in _ ⟨by omega, by omega⟩
  have y1 := Int.tmod_lt_of_pos (l[0].tmod n + n) hn0
  have y2 : 0 ≤ (l[0].tmod n + n).tmod n := Int.tmod_nonneg _ (by omega)
  rw [hw]
  generalize (l[0].tmod n + n).tmod n = y at *
  obtain ⟨k, rfl⟩ := Int.eq_ofNat_of_zero_le y2
  refine ⟨by omega, by omega, Wp.s ?_⟩
  simp -implicitDefEqProofs [go_sem]
  exact fin k (l.drop 1) _ ⟨by omega, by rw [List.length_drop]; omega⟩ (.trans (.sh _ _ _) (.of_eq (by rw [List.map_drop, List.drop_one]))) (by simp) (by simp)
end Go.Proofs.YtbnkggbpocaaiaaGreatDoor
namespace Go.Proofs.YtbnkggbpocaaiaaGreatDoor
open Go.Proofs
theorem sKeys_cc (H : Hp) (V : List Nat) (b : Nat) (hb : b < H.length) : CC Tryz.prog 160 [.mv b] H V (fun r H' V' => r = .fn 195 [.ptr H.length 0] ∧ H' = H ++ [some [.mv b]] ∧ V = V') := by
  refine CC.of_swp Tryz.func160 rfl (by kernel_rfl) (by rw [Tryz.ntmps160]; exact len_le _ _ rfl) fun hok hokH => ?_
  refine sW ?_
  simp -implicitDefEqProofs [go_sem, args0]
  refine Wp.s ?_
  simp -implicitDefEqProofs [go_sem]
  refine Fin.cut (H.length + 1) V.length ⟨rfl, rfl, rfl⟩ (by omega) (Nat.le_refl _) (List.take_of_length_le (by simp)) (List.take_of_length_le (Nat.le_refl _)) (.refl _) (by simp -implicitDefEqProofs [go_sem]) ?_
  intro c cs hb'
  rw [List.getElem?_append] at hb'
  split at hb'
  · exact okL_mono (by omega) (Nat.le_refl _) (hokH c cs hb')
  · exact okH_get (i := H.length + 1) (j := V.length) (L := [some [.mv b]]) (by rw [okH_some, okL, okL, okV]; exact ⟨⟨by omega, trivial⟩, trivial⟩) _ _ hb'
def uns (s l : List Nat) : Nat := (l.filter fun x => !s.contains x).length
theorem uns_le (s : List Nat) (i : Nat) : ∀ l : List Nat, uns (s ++ [i]) l ≤ uns s l
  | [] => Nat.le_refl _
  | x :: l => by
    have ih := uns_le s i l
    unfold uns at *
    rw [List.filter_cons, List.filter_cons]
    by_cases h : x ∈ s
    · have h1 : (!(s ++ [i]).contains x) = false := by simp [h]
      have h2 : (!s.contains x) = false := by simp [h]
      rw [h1, h2]; exact ih
    · have h2 : (!s.contains x) = true := by simp [h]
      rw [h2]
      split
      · rw [if_pos rfl, List.length_cons, List.length_cons]; omega
      · rw [if_pos rfl, List.length_cons]; omega
theorem uns_lt (s : List Nat) (i : Nat) (hs : i ∉ s) : ∀ l : List Nat, i ∈ l → uns (s ++ [i]) l < uns s l
  | x :: l, hi => by
    by_cases hx : x = i
    · subst hx
      have := uns_le s x l
      unfold uns at *
      rw [List.filter_cons, List.filter_cons]
      have h1 : (!(s ++ [x]).contains x) = false := by simp
      have h2 : (!s.contains x) = true := by simp [hs]
      rw [h1, h2, if_neg (by decide), if_pos rfl, List.length_cons]; omega
    · have ih := uns_lt s i hs l (by rcases List.mem_cons.1 hi with h | h; exact absurd h.symm hx; exact h)
      unfold uns at *
      rw [List.filter_cons, List.filter_cons]
      by_cases h : x ∈ s
      · have h1 : (!(s ++ [i]).contains x) = false := by simp [h]
        have h2 : (!s.contains x) = false := by simp [h]
        rw [h1, h2]; exact ih
      · have h1 : (!(s ++ [i]).contains x) = true := by simp [h, hx]
        have h2 : (!s.contains x) = true := by simp [h]
        rw [h1, h2, if_pos rfl, if_pos rfl, List.length_cons, List.length_cons]; omega
theorem skeys1_cc (H : Hp) (V : List Nat) (L b2 b : Nat) (ks : List Int) (vs : List CV) (I : List Nat → Hp → List Nat → Prop)
    (hb2 : H[b2]? = some (some [.mv b])) (hb : H[b]? = some (some [.objm ks vs]))
    (h0 : I [] (H ++ [some [.obji b ks.length []]]) V)
    (hI : ∀ s G W, I s G W → G[H.length]? = some (some [.obji b ks.length s]) ∧ G[b]? = some (some [.objm ks vs]) ∧ ∀ i ∈ s, i < ks.length)
    (hy : ∀ s i G W, I s G W → (h : i < ks.length) → i ∉ s → YC Tryz.prog L [ci (ks[i])] (G.set H.length (some [.obji b ks.length (s ++ [i])])) W (fun r G' W' => r = .v (.bool true) ∧ I (s ++ [i]) G' W')) :
    CC Tryz.prog 195 [.yl L, .ptr b2 0] H V (fun _ H' V' => ∃ s, I s H' V') := by
  refine CC.of_swp Tryz.func195 rfl (by kernel_rfl) (by rw [Tryz.ntmps195]; exact len_le _ _ rfl) fun hok hokH => ?_
  clear hok
  refine sW ?_
  simp -implicitDefEqProofs [go_sem, args0, hbx_of hb2, hbm_some hb]
  refine SWp.block ?_
  refine SWp.loop (α := List Nat × Hp × List Nat) (fun x => ([(0, .yl L), (5, .it H.length)], x.2.1, x.2.2)) (fun x => I x.1 x.2.1 x.2.2) (fun x => uns x.1 (List.range ks.length)) ([], _, V) h0 (Sh.forget (by simp -implicitDefEqProofs [go_sem]) rfl rfl) ?_
  rintro ⟨s, G, W⟩ hi
  dsimp only at hi ⊢
  obtain ⟨g1, g2, g3⟩ := hI _ _ _ hi
  refine sW ?_
  simp -implicitDefEqProofs [go_sem]
  unfold cnext
  dsimp only
  refine ⟨rfl, b, ks.length, s, ks, vs, g1, g2, rfl, g3, fun hall => ?_, fun i hil hni => ?_⟩
  · simp -implicitDefEqProofs [go_sem]
    refine sW ?_
    simp -implicitDefEqProofs [go_sem]
    exact Fin.self ⟨s, hi⟩
  · have hbl : b < H.length := by
      rcases Nat.lt_or_ge b H.length with h | h
      · exact h
      · rw [List.getElem?_eq_none h] at hb; cases hb
    have hql : H.length < G.length := (List.getElem?_eq_some_iff.1 g1).1
    have q1 : (G.set H.length (some [.obji b ks.length (s ++ [i])]))[H.length]? = some (some [.obji b ks.length (s ++ [i])]) := List.getElem?_set_self hql
    have q2 : (G.set H.length (some [.obji b ks.length (s ++ [i])]))[b]? = some (some [.objm ks vs]) := by rw [List.getElem?_set_ne (by omega)]; exact g2
    simp -implicitDefEqProofs [go_sem]
    refine sW ?_
    simp -implicitDefEqProofs [go_sem]
    refine SWp.block (sW ?_)
    simp -implicitDefEqProofs [go_sem]
    unfold centry
    dsimp only
    refine ⟨b, ks.length, s, i, ks, vs, q1, q2, rfl, hil, ?_⟩
    rw [List.getElem?_eq_getElem hil, Option.getD_some]
    simp -implicitDefEqProofs [go_sem]
    refine sW ?_
    simp -implicitDefEqProofs [go_sem]
    refine YC.mono (hy s i G W hi hil hni) ?_
    rintro _ G2 W2 ⟨rfl, hi2⟩
    simp -implicitDefEqProofs [go_sem]
    refine Wp.s ?_
    simp -implicitDefEqProofs [go_sem]
    exact ⟨s ++ [i], G2, W2, hi2, uns_lt s i hni _ (by simpa using hil), Sh.forget (by simp -implicitDefEqProofs [go_sem]) rfl rfl⟩
def Cl (h : Nat) (ks : List Int) (cv : CV) (xs : List Int) (W : Hp) : Prop :=
  (∀ x ∈ xs, x ∈ ks) ∧ ((cv = .sl .ti 1 [] ∧ xs = []) ∨ ∃ j, cv = .bsa (h + (j + 3)) xs.length 1 ∧ W[j]? = some (some (xs.map ci)))
theorem Cl.one {h : Nat} {ks : List Int} {cv : CV} {xs : List Int} {W : Hp} (h : Cl h ks cv xs W) : cv.one = true := by
  rcases h.2 with ⟨rfl, _⟩ | ⟨b, rfl, _⟩ <;> rfl
def ColR (ks : List Int) (H : Hp) (V : List Nat) : CV → Hp → List Nat → Prop := fun r H' V' => ∃ (xs : List Int) (W : Hp), H' = H ++ W ∧ V' = V ∧ (∀ x ∈ xs, x ∈ ks) ∧ xs.length ≤ ks.length ∧ ((r = .sl .ti 1 [] ∧ xs = []) ∨ ∃ j, r = .bsa (H.length + j) xs.length 1 ∧ W[j]? = some (some (xs.map ci)))
@[go_sem] theorem hbx_W3 (H W : Hp) (a0 a1 a2 : Option (List CV)) (j : Nat) (K : List CV → Prop) : hbx (H ++ (a0 :: a1 :: a2 :: W)) (H.length + (j + 3)) K = hbx W j K := by
  unfold hbx
  have : (H ++ (a0 :: a1 :: a2 :: W))[H.length + (j + 3)]? = W[j]? := by
    rw [hget]; simp only [List.getElem?_cons_succ]
  rw [this]
theorem set_W3 (H W : Hp) (a0 a1 a2 : Option (List CV)) (j : Nat) (y : Option (List CV)) : (H ++ (a0 :: a1 :: a2 :: W)).set (H.length + (j + 3)) y = H ++ (a0 :: a1 :: a2 :: W.set j y) := by
  rw [List.set_append_right _ _ (by omega), Nat.add_sub_cancel_left]; rfl
theorem sAppendSeq_cc (H : Hp) (V : List Nat) (b2 b : Nat) (ks : List Int) (vs : List CV) (hb2 : H[b2]? = some (some [.mv b])) (hb : H[b]? = some (some [.objm ks vs])) (hkl : ks.length ≤ 1000000) :
    CC Tryz.prog 215 [.sl .ti 1 [], .fn 195 [.ptr b2 0]] H V (ColR ks H V) := by
  refine CC.of_swp0 Tryz.func215 rfl (by kernel_rfl) (by rw [Tryz.ntmps215]; exact len_le _ _ rfl) fun hok hokH => ?_
  have hb2l := (List.getElem?_eq_some_iff.1 hb2).1
  have hbl := (List.getElem?_eq_some_iff.1 hb).1
  refine SWp0.seq (SWp.s0 (Wp.s ?_))
  simp -implicitDefEqProofs [go_sem, args0]
  refine SWp0.join (α := CV × List Int × Option (List CV) × Hp) (fun x => ([(2, .ptr H.length 0)], H ++ (some [x.1] :: none :: x.2.2.1 :: x.2.2.2), V)) (fun x => Cl H.length ks x.1 x.2.1 x.2.2.2 ∧ x.2.1.length ≤ ks.length) ?_ ?_
  · refine SWp0.seq (SWp.s0 (Wp.s ?_))
    simp -implicitDefEqProofs [go_sem]
    refine SWp0.block (SWp0.range [(2, .ptr H.length 0)] rfl (by simp -implicitDefEqProofs [go_sem]) ?_)
    simp -implicitDefEqProofs [go_sem]
    generalize hbd : Code.block 1 _ = bd
    generalize has : Code.region 2 _ _ = asg
    refine CC.mono (skeys1_cc _ V _ b2 b ks vs (fun s G W => W = V ∧ ∃ cv xs Wg, G = H ++ (some [cv] :: some [lpc 13 #[7] asg bd [(2, .ptr H.length 0)] .ready none] :: some [.obji b ks.length s] :: Wg) ∧ Cl H.length ks cv xs Wg ∧ (∀ i ∈ s, i < ks.length) ∧ xs.length + uns s (List.range ks.length) ≤ ks.length) ?_ ?_ ?_ ?_ ?_) ?_
    · rw [List.getElem?_append_left hb2l]; exact hb2
    · rw [List.getElem?_append_left hbl]; exact hb
    · exact ⟨rfl, .sl .ti 1 [], [], [], by simp, ⟨by simp, .inl ⟨rfl, rfl⟩⟩, by simp, by have := List.length_filter_le (fun x => !([] : List Nat).contains x) (List.range ks.length); rw [List.length_range] at this; simpa [uns] using this⟩
    · rintro s _ _ ⟨rfl, cv, xs, Wg, rfl, hc, hs, hu⟩
      exact ⟨by rw [List.length_append]; exact hget H _ 2, by rw [List.getElem?_append_left hbl]; exact hb, hs⟩
    · rintro s i _ V1 ⟨rfl, cv, xs, Wg, rfl, hc, hs, hu⟩ hil hni
      have e : List.set (H ++ (some [cv] :: some [lpc 13 #[7] asg bd [(2, .ptr H.length 0)] .ready none] :: some [.obji b ks.length s] :: Wg)) (H ++ [some [.sl .ti 1 []], some [lpc 13 #[7] asg bd [(2, .ptr H.length 0)] .ready none]]).length (some [.obji b ks.length (s ++ [i])]) =
          H ++ (some [cv] :: some [lpc 13 #[7] asg bd [(2, .ptr H.length 0)] .ready none] :: some [.obji b ks.length (s ++ [i])] :: Wg) := by
        rw [List.length_append, List.set_append_right _ _ (by omega), Nat.add_sub_cancel_left]; rfl
      rw [e]
      have hsi : ∀ j ∈ s ++ [i], j < ks.length := by
        intro j hj
        rcases List.mem_append.1 hj with hj | hj
        · exact hs j hj
        · rw [List.mem_singleton.1 hj]; exact hil
      have hsi' : ∀ j, j ∈ s ∨ j = i → j < ks.length := fun j hj => hsi j (by simpa using hj)
      have hlt := uns_lt s i hni (List.range ks.length) (by simpa using hil)
      have hki : ks[i] ∈ ks := List.getElem_mem hil
      refine YC.of_round (n := 13) (ps := #[7]) (bd := bd) (T := [(2, .ptr H.length 0)]) (hget _ _ 1) rfl (by decide) ?_
      subst hbd has
      refine Wp.s ?_
      simp -implicitDefEqProofs [go_sem, tps]
      generalize hlp : lpc 13 #[7] _ _ _ LoopState.busy none = lp
      generalize hqq : RQ 13 #[7] _ _ _ _ _ = QQ
      rcases hc with ⟨hx0, ⟨rfl, rfl⟩ | ⟨j, rfl, hj⟩⟩
      · refine SWp.block (SWp.opx (pre := [_, _, _]) (post := [_]) rfl (by intro c e; cases e) ?_)
        simp -implicitDefEqProofs [go_sem]
        refine ⟨_, _, _, appbox (sz := 1) (tk := .ti) (ys := [[ci ks[i]]]) slTy22 slTy22 rfl rfl (by simp) (by simp), ?_⟩
        simp -implicitDefEqProofs [go_sem]
        rw [← hqq, ← hlp]
        refine ⟨hget _ _ 1, rfl, rfl, .bsa (H.length + (Wg.length + 3)) 1 1, [ks[i]], Wg ++ [some [ci ks[i]]], ?_, ⟨fun x hx => by rw [List.mem_singleton.1 hx]; exact hki, .inr ⟨Wg.length, rfl, by simp⟩⟩, hsi', by simp at hu ⊢; omega⟩
        rw [List.set_append_right _ _ (by omega), Nat.add_sub_cancel_left]
        simp
      · refine SWp.block (Wp.s ?_)
        simp -implicitDefEqProofs [go_sem, hbx_of hj, set_W3]
        rw [← hqq, ← hlp]
        refine ⟨by omega, hget _ _ 1, rfl, rfl, .bsa (H.length + (Wg.length + 3)) (xs ++ [ks[i]]).length 1, xs ++ [ks[i]], Wg.set j none ++ [some ((xs ++ [ks[i]]).map ci)], ?_, ⟨fun x hx => ?_, .inr ⟨Wg.length, rfl, by simp⟩⟩, hsi', by simp; omega⟩
        · rw [List.set_append_right _ _ (by omega), Nat.add_sub_cancel_left]
          simp
        · rcases List.mem_append.1 hx with hx | hx'
          · exact hx0 x hx
          · rw [List.mem_singleton.1 hx']; exact hki
    · rintro _ _ _ ⟨s, rfl, cv, xs, Wg, rfl, hc, hs, hu⟩
      refine .inl ⟨hget _ _ 1, ?_⟩
      refine ⟨cv, xs, some [.obji b ks.length s], Wg, ⟨hc, by omega⟩, Sh.forget (by simp -implicitDefEqProofs [go_sem]) ?_ rfl⟩
      rw [List.set_append_right _ _ (by omega), Nat.add_sub_cancel_left]; rfl
  · rintro ⟨cv, xs, ob, Wg⟩ ⟨hc, hxl⟩
    dsimp only at hc hxl ⊢
    refine SWp0.seq (SWp.s0 (Wp.s ?_))
    simp -implicitDefEqProofs [go_sem]
    refine SWp.s0 (Wp.s ?_)
    simp -implicitDefEqProofs [go_sem]
    refine Fin.self ⟨xs, _, rfl, rfl, hc.1, hxl, ?_⟩
    rcases hc.2 with ⟨rfl, rfl⟩ | ⟨j, rfl, hj⟩
    · exact .inl ⟨rfl, rfl⟩
    · exact .inr ⟨j + 3, rfl, hj⟩
end Go.Proofs.YtbnkggbpocaaiaaGreatDoor
namespace Go.Proofs.YtbnkggbpocaaiaaGreatDoor
section
variable {P : Program}
end
end Go.Proofs.YtbnkggbpocaaiaaGreatDoor
namespace Go.Proofs.YtbnkggbpocaaiaaGreatDoor
open Go.Proofs
end Go.Proofs.YtbnkggbpocaaiaaGreatDoor
namespace Go.Proofs.YtbnkggbpocaaiaaGreatDoor
open Go.Proofs
abbrev iv (n : Int) : CV := .v (.int .i64 n)
theorem validJ_iff (s c : Int) : validJ s c = true ↔ (0 ≤ s ∧ 20 ≤ c ∧ s ≤ 4096 ∧ c ≤ 4096 - s) := by simp only [validJ, Bool.and_eq_true, decide_eq_true_eq, and_assoc]
theorem validJ_f (s c : Int) : validJ s c = false ↔ ¬ (0 ≤ s ∧ 20 ≤ c ∧ s ≤ 4096 ∧ c ≤ 4096 - s) := by rw [← validJ_iff, Bool.not_eq_true]
theorem valid_cc (H : Hp) (V : List Nat) (s c : Int) : CC Tryz.prog 105 [.agg [iv s, iv c]] H V (Pu (cb (validJ s c)) H V) := by
  refine CC.of_swp Tryz.func105 rfl (by kernel_rfl) (by rw [Tryz.ntmps105]; exact len_le _ _ rfl) fun hok hokH => ?_
  clear hok
  refine sW ?_
  simp -implicitDefEqProofs [go_sem, args0]
  by_cases c1 : 0 ≤ s
  case neg =>
    refine Wp.s ?_
    simp -implicitDefEqProofs [go_sem, c1]
    exact Fin.bool (((validJ_f s c).2 (by omega)).symm) hokH (by simp) (by simp)
  by_cases c2 : 20 ≤ c
  case neg =>
    refine Wp.s ?_
    simp -implicitDefEqProofs [go_sem, c1, c2]
    exact Fin.bool (((validJ_f s c).2 (by omega)).symm) hokH (by simp) (by simp)
  by_cases c3 : s ≤ 4096
  case neg =>
    refine Wp.s ?_
    simp -implicitDefEqProofs [go_sem, c1, c2, c3]
    exact Fin.bool (((validJ_f s c).2 (by omega)).symm) hokH (by simp) (by simp)
  have w1 : IntKind.i64.wrap (4096 - s) = 4096 - s := IntWalk.i64_in _ ⟨by omega, by omega⟩
  refine Wp.s ?_
  simp -implicitDefEqProofs [go_sem, c1, c2, c3, w1]
  refine Fin.bool ?_ hokH (by simp) (by simp)
  simp [validJ, c1, c2, c3]
theorem length_cc (H : Hp) (V : List Nat) (s c : Int) (h : validJ s c = true) : CC Tryz.prog 107 [.agg [iv s, iv c]] H V (Pu (iv (c - 16)) H V) := by
  refine CC.of_swp Tryz.func107 rfl (by kernel_rfl) (by rw [Tryz.ntmps107]; exact len_le _ _ rfl) fun hok hokH => ?_
  clear hok
  have hv := (validJ_iff s c).1 h
  refine sW ?_
  simp -implicitDefEqProofs [go_sem, args0]
  refine Wp.s ?_
  simp -implicitDefEqProofs [go_sem, IntWalk.i64_in (c - 16) ⟨by omega, by omega⟩]
  exact Fin.int rfl hokH (by simp) (by simp)
theorem sector_cc (H : Hp) (V : List Nat) (s c p : Int) (h : validJ s c = true) (h1 : 0 ≤ p) (h2 : p ≤ 1000000) : CC Tryz.prog 146 [.agg [iv s, iv c], iv p] H V (Pu (iv (s + 16 + p)) H V) := by
  refine CC.of_swp Tryz.func146 rfl (by kernel_rfl) (by rw [Tryz.ntmps146]; exact len_le _ _ rfl) fun hok hokH => ?_
  clear hok
  have hv := (validJ_iff s c).1 h
  refine sW ?_
  simp -implicitDefEqProofs [go_sem, args0]
  refine Wp.s ?_
  simp -implicitDefEqProofs [go_sem, IntWalk.i64_in (s + 16) ⟨by omega, by omega⟩, IntWalk.i64_in (s + 16 + p) ⟨by omega, by omega⟩]
  exact Fin.int rfl hokH (by simp) (by simp)
theorem RSize_cc (H : Hp) (V : List Nat) (n : Int) : CC Tryz.prog 143 [iv n] H V (Pu (iv (szR n)) H V) := by
  refine CC.of_swp Tryz.func143 rfl (by kernel_rfl) (by rw [Tryz.ntmps143]; exact len_le _ _ rfl) fun hok hokH => ?_
  clear hok
  refine sW ?_
  simp -implicitDefEqProofs [go_sem, args0]
  refine SWp.seq (sW ?_)
  by_cases c1 : n < 0
  · simp -implicitDefEqProofs [go_sem, c1]
    refine Wp.s ?_
    simp -implicitDefEqProofs [go_sem]
    exact Fin.int (by rw [szR, if_pos (.inl c1)]) hokH (by simp) (by simp)
  by_cases c2 : 4096 < n
  · simp -implicitDefEqProofs [go_sem, c1, c2]
    refine Wp.s ?_
    simp -implicitDefEqProofs [go_sem]
    exact Fin.int (by rw [szR, if_pos (.inr c2)]) hokH (by simp) (by simp)
  have w1 : IntKind.i64.wrap (3 + n) = 3 + n := IntWalk.i64_in _ ⟨by omega, by omega⟩
  have w2 : IntKind.i64.wrap (3 + n + 4) = 3 + n + 4 := IntWalk.i64_in _ ⟨by omega, by omega⟩
  have w3 : IntKind.i64.wrap (3 + n + 4 + 4) = 3 + n + 4 + 4 := IntWalk.i64_in _ ⟨by omega, by omega⟩
  have w4 : IntKind.i64.wrap (3 + n + 4 + 4 - 1) = n + 10 := (IntWalk.i64_in _ ⟨by omega, by omega⟩).trans (by omega)
  have w5 : IntKind.i64.wrap ((n + 10).tdiv 4) = (n + 10) / 4 := by rw [Int.tdiv_eq_ediv_of_nonneg (by omega)]; exact IntWalk.i64_in _ ⟨by omega, by omega⟩
  simp -implicitDefEqProofs [go_sem, c1, c2]
  refine Wp.s ?_
  simp -implicitDefEqProofs [go_sem]
  refine Wp.s ?_
  simp -implicitDefEqProofs [go_sem, w1, w2, w3, w4, w5]
  exact Fin.int (by rw [szR, if_neg (by omega)]) hokH (by simp) (by simp)
def stJ (j : Jrn) (u : Int) : List CV := [iv j.start, iv j.count] ++ jrC j ++ [iv u]
@[go_sem, simp] theorem stJ_len (j : Jrn) (u : Int) : (stJ j u).length = 9 := by rw [stJ, jrC]; rfl
@[go_sem, simp] theorem stJ_take (j : Jrn) (u : Int) : (stJ j u).take 9 = stJ j u := rfl
@[go_sem, simp] theorem stJ_drop (j : Jrn) (u : Int) : (stJ j u).drop 9 = [] := rfl
@[go_sem, simp] theorem stJ_take2 (j : Jrn) (u : Int) : (stJ j u).take 2 = [iv j.start, iv j.count] := rfl
@[go_sem, simp] theorem stJ_mid (j : Jrn) (u : Int) : ((stJ j u).drop 2).take 6 = jrC j := rfl
@[go_sem, simp] theorem stJ_mid2 (j : Jrn) (u : Int) : ((stJ j u).take 8).drop 2 = jrC j := rfl
@[go_sem, simp] theorem stJ_all (j : Jrn) (u : Int) : allOne (stJ j u) = true := rfl
@[go_sem, simp] theorem stJ_1 (j : Jrn) (u : Int) (h : 1 < (stJ j u).length) : (stJ j u)[1] = iv j.count := rfl
@[go_sem, simp] theorem stJ_5 (j : Jrn) (u : Int) (h : 5 < (stJ j u).length) : (stJ j u)[5] = iv j.tail := rfl
@[go_sem, simp] theorem stJ_6 (j : Jrn) (u : Int) (h : 6 < (stJ j u).length) : (stJ j u)[6] = iv j.first := rfl
@[go_sem, simp] theorem stJ_7 (j : Jrn) (u : Int) (h : 7 < (stJ j u).length) : (stJ j u)[7] = .sl .sh 1 (j.sizes.map ic) := rfl
@[go_sem, simp] theorem stJ_8 (j : Jrn) (u : Int) (h : 8 < (stJ j u).length) : (stJ j u)[8] = iv u := rfl
@[go_sem] theorem okL_stJ (a b : Nat) (j : Jrn) (u : Int) : okL a b (stJ j u) = True := by simp [stJ, jrC, go_sem, okL, okV, okE_ints]
theorem next_cc (H : Hp) (V : List Nat) (j : Jrn) (u : Int) (h1 : 1 ≤ j.first) (h2 : j.first + j.sizes.length ≤ 1073741824) : CC Tryz.prog 116 [.agg (stJ j u)] H V (Pu (iv (nextJ j)) H V) := by
  refine CC.of_swp Tryz.func116 rfl (by kernel_rfl) (by rw [Tryz.ntmps116]; exact len_le _ _ rfl) fun hok hokH => ?_
  clear hok
  refine sW ?_
  simp -implicitDefEqProofs [go_sem, args0]
  refine Wp.s ?_
  simp -implicitDefEqProofs [go_sem, IntWalk.i64_in (j.first + (j.sizes.length : Int)) ⟨by omega, by omega⟩]
  exact Fin.int rfl hokH (by simp) (by simp)
theorem free_cc (H : Hp) (V : List Nat) (j : Jrn) (u : Int) (h : validJ j.start j.count = true) (h1 : 0 ≤ u) (h2 : u ≤ 100000) : CC Tryz.prog 87 [.agg (stJ j u)] H V (Pu (iv (j.count - 16 - u)) H V) := by
  refine CC.of_swp Tryz.func87 rfl (by kernel_rfl) (by rw [Tryz.ntmps87]; exact len_le _ _ rfl) fun hok hokH => ?_
  clear hok
  have hv := (validJ_iff _ _).1 h
  refine sW ?_
  simp -implicitDefEqProofs [go_sem, args0]
  refine SWp.seq (SWp.drawnT [] [] (.s 0 .pl <| .s 1 .pl <| .c 2 <| .s 3 .pl <| .s 4 .pl <| .s 5 .pl <| .s 6 .pl <| .n) (by kernel_rfl) (by kernel_rfl) ?_)
  simp -implicitDefEqProofs [go_sem]
  refine ⟨_, fun H V => length_cc H V j.start j.count h, ?_⟩
  simp -implicitDefEqProofs [go_sem]
  refine Wp.s ?_
  simp -implicitDefEqProofs [go_sem, IntWalk.i64_in (j.count - 16 - u) ⟨by omega, by omega⟩]
  exact Fin.int rfl hokH (by simp) (by simp)
end Go.Proofs.YtbnkggbpocaaiaaGreatDoor
namespace Go.Proofs.YtbnkggbpocaaiaaGreatDoor
open Go.Proofs
def dvP (n i : Nat) : Nat := n / 256 ^ i
theorem dvP_0 (n : Nat) : dvP n 0 = n := Nat.div_one n
theorem dvP_succ (n i : Nat) : dvP n (i + 1) = dvP n i / 256 := by unfold dvP; rw [Nat.pow_succ, Nat.div_div_eq_div_mul]
def leN (n : Nat) : Nat → List UInt8
  | 0 => []
  | k + 1 => leN n k ++ [byt (dvP n k : Nat)]
@[simp] theorem leN_len (n : Nat) : ∀ k, (leN n k).length = k
  | 0 => rfl
  | k + 1 => by rw [leN, List.length_append, leN_len n k]; rfl
theorem leN_4 (n : Nat) : leN n 4 = le4 n := by
  have e : ∀ m : Nat, byt (m : Int) = UInt8.ofNat (m % 256) := fun m => by
    apply UInt8.toNat_inj.1
    have := byt_toNat (m : Int)
    rw [UInt8.toNat_ofNat']; omega
  simp only [leN, e, List.nil_append, List.cons_append, le4, dvP]
  rw [show (256 : Nat) ^ 0 = 1 from rfl, Nat.div_one]
theorem shr8 (n i : Nat) : shr .i64 ((dvP n i : Nat) : Int) 8 = ((dvP n (i + 1) : Nat) : Int) := by
  rw [dvP_succ]
  unfold shr
  rw [show ((dvP n i : Nat) : Int).fdiv (2 ^ (min (8 : Int).toNat IntKind.i64.bits)) = ((dvP n i / 256 : Nat) : Int) by rw [Int.fdiv_eq_ediv_of_nonneg _ (by decide)]; show ((dvP n i : Nat) : Int) / 256 = _; omega]
theorem little_cc (H : Hp) (V : List Nat) (n k : Nat) (hk : k ≤ 8) : CC Tryz.prog 170 [ci n, ci k] H V (Fr 1 (bs (leN n k)) H V) := by
  refine CC.of_swp Tryz.func170 rfl (by kernel_rfl) (by rw [Tryz.ntmps170]; exact len_le _ _ rfl) fun hok hokH => ?_
  clear hok
  refine sW ?_
  simp -implicitDefEqProofs [go_sem, args0]
  refine sW ?_
  simp -implicitDefEqProofs [go_sem]
  refine SWp.join (α := Nat) (fun v => ([(5, .sl (.own V.length v) 1 (bs (leN n k)))], H, V ++ [v])) (fun _ => True) ?_ ?_
  · refine sW ?_
    simp -implicitDefEqProofs [go_sem]
    refine SWp.block ?_
    refine SWp.loop (α := Nat × Nat) (fun x => ([(0, ci (dvP n x.1 : Nat)), (5, .sl (.own V.length x.2) 1 (bs (leN n x.1))), (6, ci k), (7, ci x.1)], H, V ++ [x.2])) (fun x => x.1 ≤ k) (fun x => k - x.1) (0, 0) (Nat.zero_le _) (Sh.tokT (by simp [go_sem, leN, dvP_0]) rfl rfl) ?_
    rintro ⟨i, v⟩ hi
    dsimp only at hi ⊢
    refine Wp.s ?_
    simp -implicitDefEqProofs [go_sem, shr8]
    refine ⟨fun h => ⟨by omega, i + 1, by omega, by omega, v + 1, Sh.forget ?_ rfl rfl⟩, fun h => ⟨v, Sh.forget ?_ rfl rfl⟩⟩
    · simp [go_sem, wrap_succ (show i ≤ 1000000000 by omega), leN]
    · obtain rfl : i = k := by omega
      simp [go_sem]
  · rintro v -
    refine Wp.s ?_
    simp -implicitDefEqProofs [go_sem]
    exact Fin.fresh rfl (okBs _ _ _) hokH (by simp)
end Go.Proofs.YtbnkggbpocaaiaaGreatDoor
namespace Go.Proofs.YtbnkggbpocaaiaaGreatDoor
open Go.Proofs
theorem sumI_snoc (l : List Int) (x : Int) : sumI (l ++ [x]) = sumI l + x := by rw [sumI, List.foldl_append]; rfl
theorem sumI_take (l : List Int) (i : Nat) (h : i < l.length) : sumI (l.take (i + 1)) = sumI (l.take i) + l[i] := by rw [List.take_succ_eq_append_getElem h, sumI_snoc]
theorem sumI_cons (x : Int) (l : List Int) : sumI (x :: l) = x + sumI l := by
  have : ∀ (l : List Int) (a : Int), l.foldl (· + ·) a = a + l.foldl (· + ·) 0 := fun l => by
    induction l with
    | nil => intro a; simp
    | cons y l ih => intro a; rw [List.foldl_cons, List.foldl_cons, ih (a + y), ih (0 + y)]; omega
  rw [sumI, List.foldl_cons, this]; simp [sumI]
theorem okSz_iff (n : Int) : okSz n = true ↔ 2 ≤ n ∧ n ≤ 1026 := by simp [okSz]
theorem sumI_app (a b : List Int) : sumI (a ++ b) = sumI a + sumI b := by
  induction a with
  | nil => simp [sumI]
  | cons x a ih => rw [List.cons_append, sumI_cons, sumI_cons, ih]; omega
theorem sumI_ge : ∀ l : List Int, l.all okSz = true → 2 * (l.length : Int) ≤ sumI l
  | [], _ => by decide
  | x :: l, h => by
    rw [List.all_cons, Bool.and_eq_true, okSz_iff] at h
    have := sumI_ge l h.2
    rw [sumI_cons, List.length_cons]; omega
theorem sumI_mono (l : List Int) (i : Nat) (h : l.all okSz = true) : sumI (l.take i) ≤ sumI l := by
  have e := sumI_app (l.take i) (l.drop i)
  rw [List.take_append_drop] at e
  have h2 : (l.drop i).all okSz = true := by
    rw [List.all_eq_true] at h ⊢; exact fun x hx => h x (List.mem_of_mem_drop hx)
  have := sumI_ge _ h2
  omega
def preJ (j : Jrn) : Bool := decide (0 ≤ j.head) && decide (j.head < j.count - 16) && decide (1 ≤ j.first) && decide (j.first ≤ 1073741824) && decide ((j.sizes.length : Int) ≤ 1073741824 - j.first)
theorem preJ_iff (j : Jrn) : preJ j = true ↔ 0 ≤ j.head ∧ j.head < j.count - 16 ∧ 1 ≤ j.first ∧ j.first ≤ 1073741824 ∧ (j.sizes.length : Int) ≤ 1073741824 - j.first := by simp only [preJ, Bool.and_eq_true, decide_eq_true_eq, and_assoc]
theorem chkJ_iff (j : Jrn) : chkJ j = true ↔ validJ j.start j.count = true ∧ preJ j = true ∧ j.sizes.all okSz = true ∧ sumI j.sizes ≤ j.count - 16 ∧ j.tail = (j.head + sumI j.sizes) % (j.count - 16) := by
  rw [preJ_iff, chkJ]
  simp only [Bool.and_eq_true, decide_eq_true_eq, and_assoc]
  constructor
  · rintro ⟨h1, h2, h3, h4, h5, h6, h7, h8, h9⟩; exact ⟨h1, h2, h3, h4, h5, by omega, h6, h7, h8⟩
  · rintro ⟨h1, h2, h3, h4, h5, h6, h7, h8, h9⟩; exact ⟨h1, h2, h3, h4, h5, h7, h8, h9, by omega⟩
theorem chkJ_f {j : Jrn} (h : ¬ (validJ j.start j.count = true ∧ preJ j = true ∧ j.sizes.all okSz = true ∧ sumI j.sizes ≤ j.count - 16 ∧ j.tail = (j.head + sumI j.sizes) % (j.count - 16))) : chkJ j = false := by
  rw [← Bool.not_eq_true, chkJ_iff]; exact h
end Go.Proofs.YtbnkggbpocaaiaaGreatDoor
namespace Go.Proofs.YtbnkggbpocaaiaaGreatDoor
open Go.Proofs
theorem stJ_raw (j : Jrn) : iv j.start :: iv j.count :: (jrC j ++ iv 0 :: List.drop 7 (jrC j ++ [iv 0])) = stJ j 0 := rfl
@[go_sem, simp] theorem stJ_drop9 (j : Jrn) (u : Int) (k : Nat) : (stJ j u).drop (9 + k) = [] := List.drop_eq_nil_of_le (by simp)
@[go_sem] theorem inA_v (S : List Nat) (u : Value) : inA S (.v u) = True := rfl
abbrev zst : List CV := [iv 0, iv 0, iv 0, iv 0, iv 0, iv 0, iv 0, .v (.slice none 0 0), iv 0]
theorem stJ_upd (j : Jrn) (u w : Int) : List.take 8 (stJ j u) ++ [iv w] = stJ j w := rfl
@[go_sem] theorem Kp_mid (H : Hp) (a x y c : Option (List CV)) : Kp [H.length, H.length + 2] (H ++ [a, x, c]) (H ++ [a, y, c]) = True := by
  refine eq_true (Kp.keep fun b hb => ?_)
  rcases List.mem_cons.1 hb with rfl | hb
  · simp
  · obtain rfl : b = H.length + 2 := by simpa using hb
    rw [hget, hget]; rfl
def XamP (j : Jrn) (H : Hp) (V : List Nat) : CV → Hp → List Nat → Prop := fun r H' V' => ∃ u, r = .tup [.agg (stJ j u), cb (chkJ j)] ∧ H = H' ∧ V = V' ∧ (chkJ j = true → u = sumI j.sizes)
def XL (j : Jrn) (i : Nat) : Prop := i ≤ j.sizes.length ∧ (j.sizes.take i).all okSz = true ∧ sumI (j.sizes.take i) ≤ j.count - 16
def bJ (j : Jrn) : Bool := preJ j && j.sizes.all okSz && decide (sumI j.sizes ≤ j.count - 16)
def XE (j : Jrn) (u : Int) : Prop := 0 ≤ u ∧ u ≤ j.count - 16 ∧ (bJ j = true → u = sumI j.sizes)
theorem XE.all {j : Jrn} {i : Nat} (h : XL j i) (hi : j.sizes.length ≤ i) : XE j (sumI (j.sizes.take i)) ∧ bJ j = preJ j := by
  obtain ⟨_, h2, h3⟩ := h
  have g := sumI_ge _ h2
  refine ⟨⟨by omega, h3, fun _ => by rw [List.take_of_length_le hi]⟩, ?_⟩
  rw [List.take_of_length_le hi] at h2 h3
  simp only [bJ, h2, h3, decide_true, Bool.and_true]
theorem XE.bad {j : Jrn} {i : Nat} (h : XL j i) (hi : i < j.sizes.length) (hb : ¬ (2 ≤ j.sizes[i] ∧ j.sizes[i] ≤ 1026 ∧ sumI (j.sizes.take i) + j.sizes[i] ≤ j.count - 16)) : XE j (sumI (j.sizes.take i)) ∧ bJ j = false := by
  obtain ⟨_, h2, h3⟩ := h
  have g := sumI_ge _ h2
  have hf : bJ j = false := by
    unfold bJ
    by_cases h : j.sizes.all okSz = true
    case neg =>
      have : j.sizes.all okSz = false := by simpa using h
      simp only [this, Bool.and_false, Bool.false_and]
    have g3 := (okSz_iff _).1 (List.all_eq_true.1 h _ (List.getElem_mem hi))
    have g4 := sumI_mono j.sizes (i + 1) h
    rw [sumI_take _ _ hi] at g4
    have : ¬ sumI j.sizes ≤ j.count - 16 := by omega
    simp only [this, decide_false, Bool.and_false]
  exact ⟨⟨by omega, h3, fun h => by rw [hf] at h; cases h⟩, hf⟩
theorem chkJ_bJ (j : Jrn) (h : validJ j.start j.count = true) : chkJ j = (bJ j && decide (j.tail = (j.head + sumI j.sizes) % (j.count - 16))) := by
  rw [Bool.eq_iff_iff, chkJ_iff]
  simp [bJ, h, and_assoc]
theorem XL.succ {j : Jrn} {i : Nat} (h : XL j i) (hi : i < j.sizes.length) (h1 : 2 ≤ j.sizes[i]) (h2 : j.sizes[i] ≤ 1026) (hb : sumI (j.sizes.take i) + j.sizes[i] ≤ j.count - 16) : XL j (i + 1) := by
  refine ⟨hi, ?_, by rw [sumI_take _ _ hi]; exact hb⟩
  rw [List.take_succ_eq_append_getElem hi, List.all_append, h.2.1]
  simp [okSz, h1, h2]
set_option maxRecDepth 8000 in
theorem examine_cc (H : Hp) (V : List Nat) (j : Jrn) (hl : j.sizes.length ≤ 1000000000) : CC Tryz.prog 86 [.agg (jrC j)] H V (XamP j H V) := by
  refine CC.of_swp Tryz.func86 rfl (by kernel_rfl) (by rw [Tryz.ntmps86]; exact len_le _ _ rfl) fun hok hokH => ?_
  clear hok
  refine sW ?_
  simp -implicitDefEqProofs [go_sem, args0]
  refine SWp.scope ?_
  refine sW ?_
  simp -implicitDefEqProofs [go_sem, stJ_raw]
  have fin : ∀ (L : Hp) (u : Int) (b : Bool), b = chkJ j → (chkJ j = true → u = sumI j.sizes) → Fin H.length V.length (XamP j H V) (.tup [.agg (stJ j u), cb b]) (H ++ L) V := fun L u b hb hu => by
    subst hb
    refine Fin.pure ⟨u, rfl, rfl, rfl, hu⟩ (by simp) (by simp) (.refl _) ?_ hokH
    rw [okV]
    simp [go_sem, okL, okV]
  refine SWp.join (α := Unit) (fun _ => ([(1, .ptr H.length 0), (2, .ptr (H.length + 1) 0), (4, .ptr (H.length + 2) 0)], H ++ [some (jrC j), some zst, some (stJ j 0)], V)) (fun _ => validJ j.start j.count = true) ?_ ?_
  · refine sW ?_
    simp -implicitDefEqProofs [go_sem]
    refine CC.mono (valid_cc _ _ _ _) ?_
    rintro _ _ _ ⟨rfl, rfl, rfl⟩
    by_cases hv : validJ j.start j.count = true
    case neg =>
      simp -implicitDefEqProofs [go_sem, hv]
      refine Wp.s ?_
      simp -implicitDefEqProofs [go_sem]
      exact fin _ 0 false (chkJ_f (fun h => hv h.1)).symm fun h => absurd ((chkJ_iff j).1 h).1 hv
    simp -implicitDefEqProofs [go_sem, hv]
    refine Wp.s ?_
    simp -implicitDefEqProofs [go_sem]
    exact Sh.forget (by simp [go_sem]) rfl rfl
  rintro _ hv
  dsimp only
  have hvi := (validJ_iff _ _).1 hv
  have nf : ∀ b, (0 ≤ j.head ∧ j.head < j.count - 16 ∧ 1 ≤ j.first ∧ j.first ≤ 1073741824 ∧ (j.sizes.length : Int) ≤ 1073741824 - j.first ↔ b = true) → b = preJ j := fun b h => by
    rw [Bool.eq_iff_iff, preJ_iff, h]
  refine SWp.join (α := Unit) (fun _ => ([(1, .ptr H.length 0), (2, .ptr (H.length + 1) 0), (4, .ptr (H.length + 2) 0), (5, cb (preJ j))], H ++ [some (jrC j), some zst, some (stJ j 0)], V)) (fun _ => True) ?_ ?_
  · refine SWp.drawnT [] [] (.s 0 .pl <| .s 1 .pl <| .s 2 .pl <| .s 3 .pl <| .s 4 .pl <| .s 5 .pl <| .s 6 .pl <| .s 7 .pl <| .s 8 .pl <| .s 9 .pl <| .s 10 .pl <| .s 11 .pl <| .s 12 .pl <| .s 13 .pl <| .s 14 .pl <| .s 15 .pl <| .s 16 .pl <| .s 17 .pl <| .s 18 .pl <| .s 19 .pl <| .s 20 .pl <| .s 21 .pl <| .s 22 .pl <| .s 23 .pl <| .s 24 .pl <| .s 25 .pl <| .s 26 .pl <| .s 27 .pl <| .s 28 .pl <| .s 29 .pl <| .s 30 .pl <| .n) (by kernel_rfl) (by kernel_rfl) ?_
    by_cases c1 : 0 ≤ j.head
    case neg =>
      simp -implicitDefEqProofs [go_sem, c1]
      exact Sh.forget (by simp [go_sem, ← nf false (by simp; omega)]) rfl rfl
    simp -implicitDefEqProofs [go_sem, c1]
    refine CC.mono (length_cc _ _ _ _ hv) ?_
    rintro _ _ _ ⟨rfl, rfl, rfl⟩
    by_cases c2 : j.head < j.count - 16
    case neg =>
      simp -implicitDefEqProofs [go_sem, c1, c2]
      exact Sh.forget (by simp [go_sem, ← nf false (by simp; omega)]) rfl rfl
    by_cases c3 : 1 ≤ j.first
    case neg =>
      simp -implicitDefEqProofs [go_sem, c1, c2, c3]
      exact Sh.forget (by simp [go_sem, ← nf false (by simp; omega)]) rfl rfl
    by_cases c4 : j.first ≤ 1073741824
    case neg =>
      simp -implicitDefEqProofs [go_sem, c1, c2, c3, c4]
      exact Sh.forget (by simp [go_sem, ← nf false (by simp; omega)]) rfl rfl
    have w0 : IntKind.i64.wrap (1073741824 - j.first) = 1073741824 - j.first := IntWalk.i64_in _ ⟨by omega, by omega⟩
    by_cases c5 : (j.sizes.length : Int) ≤ 1073741824 - j.first
    case neg =>
      simp -implicitDefEqProofs [go_sem, c1, c2, c3, c4, c5, w0]
      exact Sh.forget (by simp [go_sem, ← nf false (by simp; omega)]) rfl rfl
    simp -implicitDefEqProofs [go_sem, c1, c2, c3, c4, c5, w0]
    exact Sh.forget (by simp [go_sem, ← nf true (by simp; omega)]) rfl rfl
  rintro _ -
  dsimp only
  refine sW ?_
  simp -implicitDefEqProofs [go_sem]
  refine CC.mono (RSize_cc _ _ _) ?_
  rintro _ _ _ ⟨rfl, rfl, rfl⟩
  simp -implicitDefEqProofs [go_sem, show szR 4096 = 1026 from rfl]
  refine sW ?_
  simp -implicitDefEqProofs [go_sem]
  refine SWp.join (α := Int) (fun u => ([(1, .ptr H.length 0), (2, .ptr (H.length + 1) 0), (4, .ptr (H.length + 2) 0), (5, cb (bJ j))], H ++ [some (jrC j), some zst, some (stJ j u)], V))
    (fun u => XE j u) ?_ ?_
  · refine sW ?_
    simp -implicitDefEqProofs [go_sem]
    refine SWp.block ?_
    refine SWp.loop (α := Nat) (fun i => ([(1, .ptr H.length 0), (2, .ptr (H.length + 1) 0), (4, .ptr (H.length + 2) 0), (5, cb (preJ j)), (6, iv 1026), (51, .sl .sh 1 (j.sizes.map ic)), (52, ci j.sizes.length), (53, ci i)], H ++ [some (jrC j), some zst, some (stJ j (sumI (j.sizes.take i)))], V)) (fun i => XL j i) (fun i => j.sizes.length - i) 0 ⟨Nat.zero_le _, rfl, by show (0 : Int) ≤ _; omega⟩ (Sh.forget (by simp [go_sem, sumI]) rfl rfl) ?_
    rintro i hx
    dsimp only at hx ⊢
    have hi := hx.1
    have hs := hx.2.2
    have g1 := sumI_ge _ hx.2.1
    refine sW ?_
    simp -implicitDefEqProofs [go_sem]
    refine sW ?_
    simp -implicitDefEqProofs [go_sem]
    refine ⟨fun h => ?_, fun h => ⟨_, (XE.all hx h).1, Sh.forget (by simp [go_sem, (XE.all hx h).2]) rfl rfl⟩⟩
    refine SWp.seq (SWp.block (sW ?_))
    simp -implicitDefEqProofs [go_sem, h]
    refine SWp.seq (SWp.seq (SWp.drawnT [] [] (.s 0 .pl <| .s 1 .pl <| .s 2 .pl <| .s 3 .pl <| .s 4 .pl <| .s 5 .pl <| .s 6 .pl <| .s 7 .pl <| .s 8 .pl <| .s 9 .pl <| .s 10 .pl <| .s 11 .pl <| .s 12 .pl <| .s 13 .pl <| .s 14 .pl <| .s 15 .pl <| .s 16 .pl <| .n) (by kernel_rfl) (by kernel_rfl) ?_))
    by_cases c1 : j.sizes[i] < 2
    · simp -implicitDefEqProofs [go_sem, c1]
      refine Wp.s ?_
      simp -implicitDefEqProofs [go_sem]
      exact ⟨_, (XE.bad hx h (by omega)).1, Sh.forget (by simp [go_sem, (XE.bad hx h (by omega)).2]) rfl rfl⟩
    by_cases c2 : 1026 < j.sizes[i]
    · simp -implicitDefEqProofs [go_sem, c1, c2]
      refine Wp.s ?_
      simp -implicitDefEqProofs [go_sem]
      exact ⟨_, (XE.bad hx h (by omega)).1, Sh.forget (by simp [go_sem, (XE.bad hx h (by omega)).2]) rfl rfl⟩
    have w1 : IntKind.i64.wrap (sumI (j.sizes.take i) + j.sizes[i]) = sumI (j.sizes.take i) + j.sizes[i] := IntWalk.i64_in _ ⟨by omega, by omega⟩
    simp -implicitDefEqProofs [go_sem, c1, c2, w1]
    refine CC.mono (length_cc _ _ _ _ hv) ?_
    rintro _ _ _ ⟨rfl, rfl, rfl⟩
    by_cases c3 : j.count - 16 < sumI (j.sizes.take i) + j.sizes[i]
    · simp -implicitDefEqProofs [go_sem, c3]
      refine Wp.s ?_
      simp -implicitDefEqProofs [go_sem]
      exact ⟨_, (XE.bad hx h (by omega)).1, Sh.forget (by simp [go_sem, (XE.bad hx h (by omega)).2]) rfl rfl⟩
    simp -implicitDefEqProofs [go_sem, c3]
    refine Wp.s ?_
    simp -implicitDefEqProofs [go_sem]
    refine Wp.s ?_
    simp -implicitDefEqProofs [go_sem, w1, stJ_upd]
    refine Wp.s ?_
    simp -implicitDefEqProofs [go_sem]
    refine ⟨i + 1, XL.succ hx h (by omega) (by omega) (by omega), by omega, Sh.forget ?_ ?_ rfl⟩
    · simp [go_sem, wrap_succ (show i ≤ 1000000000 by omega)]
    · rw [sumI_take _ _ h]
  rintro u hx
  dsimp only at hx ⊢
  obtain ⟨hu1, hu2, hu⟩ := hx
  refine SWp.seq (SWp.drawnT [H.length, H.length + 2] [16] (.s 0 .pl <| .s 1 .pl <| .s 2 .pl <| .s 3 .pl <| .s 4 .ld <| .s 5 .pl <| .s 6 .ld <| .s 7 .pl <| .s 8 .ld <| .s 9 .pl <| .s 10 .pl <| .s 11 .ld <| .s 12 .pl <| .s 13 .pl <| .s 14 .pl <| .s 15 .pl <| .s 16 .st <| .s 17 .pl <| .n) (by kernel_rfl) (by kernel_rfl) ?_)
  cases hb : bJ j with
  | false =>
    simp -implicitDefEqProofs [go_sem, hb]
    refine Wp.s ?_
    simp -implicitDefEqProofs [go_sem]
    exact fin _ u false (by rw [chkJ_bJ j hv, hb]; rfl) fun h => by rw [chkJ_bJ j hv, hb] at h; cases h
  | true =>
    have hpre : preJ j = true := by
      rw [bJ, Bool.and_eq_true, Bool.and_eq_true] at hb; exact hb.1.1
    have hp := (preJ_iff j).1 hpre
    have w1 : IntKind.i64.wrap (j.head + u) = j.head + u := IntWalk.i64_in _ ⟨by omega, by omega⟩
    have w2 : IntKind.i64.wrap ((j.head + u).tmod (j.count - 16)) = (j.head + u) % (j.count - 16) := by
      rw [Int.tmod_eq_emod_of_nonneg (by omega)]
      have := Int.emod_nonneg (j.head + u) (show j.count - 16 ≠ 0 by omega)
      have := Int.emod_lt_of_pos (j.head + u) (show 0 < j.count - 16 by omega)
      exact IntWalk.i64_in _ ⟨by omega, by omega⟩
    simp -implicitDefEqProofs [go_sem, hb, w1]
    refine CC.mono (length_cc _ _ _ _ hv) ?_
    rintro _ _ _ ⟨rfl, rfl, rfl⟩
    simp -implicitDefEqProofs [go_sem]
    have t1 := Int.tmod_eq_emod_of_nonneg (b := j.count - 16) (show 0 ≤ j.head + u by omega)
    refine ⟨by omega, Wp.s ?_⟩
    simp -implicitDefEqProofs [go_sem]
    refine fin _ u _ ?_ fun _ => hu hb
    rw [chkJ_bJ j hv, hb, t1, hu hb]; simp
end Go.Proofs.YtbnkggbpocaaiaaGreatDoor
namespace Go.Proofs.YtbnkggbpocaaiaaGreatDoor
open Go.Proofs
def ckE (j : Jrn) : Nat := if chkJ j then 0 else 3
def nxJ (j : Jrn) : Int := if chkJ j then nextJ j else 0
theorem chkJ_next {j : Jrn} (h : chkJ j = true) : 1 ≤ j.first ∧ j.first + j.sizes.length ≤ 1073741824 := by
  have := (preJ_iff j).1 ((chkJ_iff j).1 h).2.1
  omega
theorem chkJ_sum {j : Jrn} (h : chkJ j = true) : 0 ≤ sumI j.sizes ∧ sumI j.sizes ≤ j.count - 16 ∧ 2 * (j.sizes.length : Int) ≤ sumI j.sizes := by
  have h := (chkJ_iff j).1 h
  have := sumI_ge _ h.2.2.1
  omega
theorem chkJ_val {j : Jrn} (h : chkJ j = true) : validJ j.start j.count = true := ((chkJ_iff j).1 h).1
theorem JCheck_cc (H : Hp) (V : List Nat) (j : Jrn) (hl : j.sizes.length ≤ 1000000000) : CC Tryz.prog 72 [.agg (jrC j)] H V (Pu (er (ckE j)) H V) := by
  refine CC.of_swp Tryz.func72 rfl (by kernel_rfl) (by rw [Tryz.ntmps72]; exact len_le _ _ rfl) fun hok hokH => ?_
  clear hok
  refine sW ?_
  simp -implicitDefEqProofs [go_sem, args0]
  refine SWp.seq (sW ?_)
  simp -implicitDefEqProofs [go_sem]
  refine CC.mono (examine_cc _ _ j hl) ?_
  rintro _ _ _ ⟨u, rfl, rfl, rfl, hu⟩
  simp -implicitDefEqProofs [go_sem]
  by_cases h : chkJ j = true
  · refine Wp.s ?_
    simp -implicitDefEqProofs [go_sem, h]
    refine Wp.s ?_
    simp -implicitDefEqProofs [go_sem]
    exact Fin.er (by rw [ckE, if_pos h]) hokH (by simp) (by simp)
  · refine Wp.s ?_
    simp -implicitDefEqProofs [go_sem, h]
    exact Fin.er (by rw [ckE, if_neg h]) hokH (by simp) (by simp)
theorem JNext_cc (H : Hp) (V : List Nat) (j : Jrn) (hl : j.sizes.length ≤ 1000000000) : CC Tryz.prog 59 [.agg (jrC j)] H V (Pu (iv (nxJ j)) H V) := by
  refine CC.of_swp Tryz.func59 rfl (by kernel_rfl) (by rw [Tryz.ntmps59]; exact len_le _ _ rfl) fun hok hokH => ?_
  clear hok
  refine sW ?_
  simp -implicitDefEqProofs [go_sem, args0]
  refine sW ?_
  simp -implicitDefEqProofs [go_sem]
  refine CC.mono (examine_cc _ _ j hl) ?_
  rintro _ _ _ ⟨u, rfl, rfl, rfl, hu⟩
  simp -implicitDefEqProofs [go_sem]
  refine SWp.seq (sW ?_)
  by_cases h : chkJ j = true
  · simp -implicitDefEqProofs [go_sem, h]
    refine Wp.s ?_
    simp -implicitDefEqProofs [go_sem]
    refine Wp.s ?_
    simp -implicitDefEqProofs [go_sem]
    refine CC.mono (next_cc _ _ j u (chkJ_next h).1 (chkJ_next h).2) ?_
    rintro _ _ _ ⟨rfl, rfl, rfl⟩
    simp -implicitDefEqProofs [go_sem]
    exact Fin.int (by rw [nxJ, if_pos h]) hokH (by simp) (by simp)
  · simp -implicitDefEqProofs [go_sem, h]
    refine Wp.s ?_
    simp -implicitDefEqProofs [go_sem]
    exact Fin.int (by rw [nxJ, if_neg h]) hokH (by simp) (by simp)
end Go.Proofs.YtbnkggbpocaaiaaGreatDoor
namespace Go.Proofs.YtbnkggbpocaaiaaGreatDoor
open Go.Proofs
theorem XL.ok {j : Jrn} (h : j.sizes.all okSz = true) {i : Nat} (hi : i < j.sizes.length) : 2 ≤ j.sizes[i] ∧ j.sizes[i] ≤ 1026 := (okSz_iff _).1 (List.all_eq_true.1 h _ (List.getElem_mem hi))
end Go.Proofs.YtbnkggbpocaaiaaGreatDoor
namespace Go.Proofs.YtbnkggbpocaaiaaGreatDoor
open Go.Proofs
theorem payload_cc (H : Hp) (V : List Nat) (h f : Int) : CC Tryz.prog 109 [iv h, iv f] H V (Pu (.sl .sh 1 (bs (superJ h f))) H V) := by
  refine CC.of_swp Tryz.func109 rfl (by kernel_rfl) (by rw [Tryz.ntmps109]; exact len_le _ _ rfl) fun hok hokH => ?_
  clear hok
  have l1 := enc_len h
  refine sW ?_
  simp -implicitDefEqProofs [go_sem, args0]
  refine sW ?_
  simp -implicitDefEqProofs [go_sem]
  refine CC.le (ys := [.sl .sh 1 (bs []), iv h]) (.cons (.nil 1 (by decide)) (.cons (.refl _) .nil)) ?_
  refine CC.mono (PutInt_cc _ _ .sh [] h (by simp)) ?_
  rintro _ _ _ ⟨v, rfl, rfl, rfl⟩
  simp -implicitDefEqProofs [go_sem]
  refine CC.mono (PutInt_cc _ _ _ (enc h) f (by omega)) ?_
  rintro _ _ _ ⟨v2, rfl, rfl, rfl⟩
  simp -implicitDefEqProofs [go_sem]
  refine Wp.s ?_
  simp -implicitDefEqProofs [go_sem]
  exact Fin.pu (.sh _ _ _) (by rw [okV]; exact ⟨trivial, okBs _ _ _⟩) hokH (by simp) (by simp)
end Go.Proofs.YtbnkggbpocaaiaaGreatDoor
namespace Go.Proofs.YtbnkggbpocaaiaaGreatDoor
open Go.Proofs
def kW (c p : Int) (l : List Sec) : Nat := min l.length (c - 16 - p).toNat
theorem wrapW_1 {s c p : Int} {l : List Sec} (h : kW c p l < l.length) : wrapW s c p l = [opW (s + 16 + p) (l.take (kW c p l)), opW (s + 16) (l.drop (kW c p l))] := by
  show opW _ _ :: (if kW c p l < l.length then _ else _) = _
  rw [if_pos h]; rfl
theorem wrapW_0 {s c p : Int} {l : List Sec} (h : ¬ kW c p l < l.length) : wrapW s c p l = [opW (s + 16 + p) (l.take (kW c p l))] := by
  show opW _ _ :: (if kW c p l < l.length then _ else _) = _
  rw [if_neg h]; rfl
theorem write_cc (H : Hp) (V : List Nat) (s c p : Int) (l : List Sec) (h : validJ s c = true) (h1 : 0 ≤ p) (h2 : p ≤ c - 16) (hl : l.length ≤ 1000000) : CC Tryz.prog 106 [.agg [iv s, iv c], iv p, secsV l] H V (Fr 3 ((wrapW s c p l).map opC) H V) := by
  refine CC.of_swp Tryz.func106 rfl (by kernel_rfl) (by rw [Tryz.ntmps106]; exact len_le _ _ rfl) fun hok hokH => ?_
  clear hok
  have hv := (validJ_iff s c).1 h
  obtain ⟨k, hk⟩ : ∃ k, k = kW c p l := ⟨_, rfl⟩
  have hkm : min (l.length : Int) (c - 16 - p) = (k : Int) := by rw [hk, kW]; omega
  have hkl : k ≤ l.length := by rw [hk, kW]; omega
  have w1 : IntKind.i64.wrap (c - 16 - p) = c - 16 - p := IntWalk.i64_in _ ⟨by omega, by omega⟩
  refine sW ?_
  simp -implicitDefEqProofs [go_sem, args0]
  refine sW ?_
  simp -implicitDefEqProofs [go_sem]
  refine CC.mono (length_cc _ _ _ _ h) ?_
  rintro _ _ _ ⟨rfl, rfl, rfl⟩
  simp -implicitDefEqProofs [go_sem, w1, hkm]
  refine SWp.seq (SWp.drawnT [] [] (.s 0 .pl <| .s 1 .pl <| .s 3 .pl <| .s 4 .pl <| .s 5 .pl <| .s 6 .pl <| .s 2 .pl <| .s 7 .pl <| .s 8 .pl <| .s 9 .pl <| .n) (by kernel_rfl) (by kernel_rfl) ?_)
  simp -implicitDefEqProofs [go_sem, hkl]
  refine CC.mono (sector_cc _ _ _ _ _ h h1 (by omega)) ?_
  rintro _ _ _ ⟨rfl, rfl, rfl⟩
  simp -implicitDefEqProofs [go_sem]
  by_cases hw : k < l.length
  case neg =>
    have hw' : ¬ (k : Int) < (l.length : Int) := by omega
    refine SWp.seq (sW ?_)
    simp -implicitDefEqProofs [go_sem, hw]
    refine Wp.s ?_
    simp -implicitDefEqProofs [go_sem]
    refine Wp.s ?_
    simp -implicitDefEqProofs [go_sem]
    rw [wrapW_0 (by rw [← hk]; exact hw), ← hk]
    refine Fin.ge (Ge.slk (ys := [opW (s + 16 + p) (l.take k)].map opC) (.cons (.cons (.refl _) (.cons (.refl _) (.cons (by rw [← List.map_take]; exact .sh _ _ _) .nil))) .nil)) ?_
    exact Fin.frtok (by decide) (.inr rfl) (by simp [go_sem, okE_ops]) hokH (by simp) (by simp)
  refine SWp.seq (sW ?_)
  simp -implicitDefEqProofs [go_sem, hw]
  refine SWp.condT (by simp [go_sem]) ?_
  refine SWp.drawnT [] [] (.s 0 .pl <| .s 1 .pl <| .s 3 .pl <| .s 4 .pl <| .s 5 .pl <| .s 2 .pl <| .s 6 .pl <| .s 7 .pl <| .s 8 .pl <| .s 9 .pl <| .n) (by kernel_rfl) (by kernel_rfl) ?_
  simp -implicitDefEqProofs [go_sem, hkl]
  refine CC.mono (sector_cc _ _ _ _ _ h (Int.le_refl 0) (by omega)) ?_
  rintro _ _ _ ⟨rfl, rfl, rfl⟩
  simp -implicitDefEqProofs [go_sem]
  refine Wp.s ?_
  simp -implicitDefEqProofs [go_sem]
  rw [wrapW_1 (by rw [← hk]; exact hw), ← hk]
  refine Fin.ge (Ge.slk (ys := [opW (s + 16 + p) (l.take k), opW (s + 16) (l.drop k)].map opC) (.cons (.cons (.refl _) (.cons (.refl _) (.cons (by rw [← List.map_take]; exact .sh _ _ _) .nil))) (.cons (.cons (.refl _) (.cons (.refl _) (.cons (by rw [← List.map_drop]; exact .refl _) .nil))) .nil))) ?_
  exact Fin.fresh rfl (by simp [go_sem, okE_ops]) hokH (by simp)
theorem jrC_take5 (j : Jrn) : List.take 5 (jrC j) = [iv j.start, iv j.count, iv j.head, iv j.tail, iv j.first] := rfl
theorem own_cc (H : Hp) (V : List Nat) (j : Jrn) (u : Int) (hl : j.sizes.length ≤ 1000000000) : CC Tryz.prog 118 [.agg (stJ j u)] H V (fun r H' V' => ∃ v, r = .agg [iv j.start, iv j.count, iv j.head, iv j.tail, iv j.first, .sl (.own V.length v) 1 (j.sizes.map ic)] ∧ H = H' ∧ V ++ [v] = V') := by
  refine CC.of_swp Tryz.func118 rfl (by kernel_rfl) (by rw [Tryz.ntmps118]; exact len_le _ _ rfl) fun hok hokH => ?_
  clear hok
  refine sW ?_
  simp -implicitDefEqProofs [go_sem, args0]
  refine sW ?_
  simp -implicitDefEqProofs [go_sem]
  refine sW ?_
  simp -implicitDefEqProofs [go_sem, jrC_take5]
  refine ⟨by omega, ?_⟩
  refine sW ?_
  simp -implicitDefEqProofs [go_sem]
  refine Wp.s ?_
  simp -implicitDefEqProofs [go_sem]
  refine Fin.cut H.length (V.length + 1) ⟨0, rfl, rfl, rfl⟩ (Nat.le_refl _) (by omega) (by simp) (by simp) (.refl _) ?_ fun b cs hb => okL_mono (Nat.le_refl _) (by omega) (hokH b cs hb)
  simp [go_sem, okL, okV, okE_ints]
end Go.Proofs.YtbnkggbpocaaiaaGreatDoor
namespace Go.Proofs.YtbnkggbpocaaiaaGreatDoor
open Go.Proofs
def jtV (x : Jrn × List Opn × Nat) : CV := .tup [.agg (jrC x.1), opsV x.2.1, er x.2.2]
theorem formatJ_no {s c : Int} (h : ¬ validJ s c = true) : formatJ s c = (zjr, [], 2) := by rw [formatJ, if_pos (by simpa using h)]
theorem superJ_01 : superJ 0 1 = [0, 1] := by rw [superJ, enc, enc, norm, norm, if_neg (by decide), if_neg (by decide), show (0 : Int).toNat = 0 from rfl, show (1 : Int).toNat = 1 from rfl, encN_lt (by decide), encN_lt (by decide)]; rfl
def fmtOps (s : Int) : List Opn := [opW s (List.replicate 16 sec0), opS, opW s (copyS 1 [0, 1]), opS]
theorem formatS_ok {s c : Int} (h : validJ s c = true) : formatS s (superJ 0 1) = (fmtOps s, 0) := by
  have hv := (validJ_iff s c).1 h
  rw [superJ_01, formatS, if_neg (by omega), if_neg (by decide)]; rfl
theorem formatJ_ok {s c : Int} (h : validJ s c = true) : formatJ s c = (⟨s, c, 0, 0, 1, []⟩, opW (s + 16) (List.replicate (c - 16).toNat sec0) :: opS :: fmtOps s, 0) := by
  rw [formatJ, if_neg (by simp [h]), formatS_ok h, if_neg (by simp)]
theorem fin_jt {H H' : Hp} {V V' : List Nat} {x : Jrn × List Opn × Nat} {a b : CV} {e : Nat} (h1 : Le a (.agg (jrC x.1))) (h2 : Le b (opsV x.2.1)) (h3 : e = x.2.2) (hokH : ∀ (b : Nat) cs, H[b]? = some (some cs) → okL H.length V.length cs) (hH : H'.take H.length = H) (hV : V'.take V.length = V) :
    Fin H.length V.length (Pu (jtV x) H V) (.tup [a, b, er e]) H' V' := by
  subst h3
  refine Fin.pu (.tup (.cons h1 (.cons h2 (.cons (.refl _) .nil)))) ?_ hokH hH hV
  rw [jtV, okV, okL, okL, okL, okL]
  simp [go_sem, okL, okV, okL_jrC, okE_ops]
abbrev zjC : List CV := [iv 0, iv 0, iv 0, iv 0, iv 0, .v (.slice none 0 0)]
theorem zj_le : Le (.agg zjC) (.agg (jrC zjr)) := .agg (.cons (.refl _) (.cons (.refl _) (.cons (.refl _) (.cons (.refl _) (.cons (.refl _) (.cons (.nil 1 (by decide)) .nil))))))
theorem LeE.app {a b : List (List CV)} {c d : List (List CV)} : LeE a b → LeE c d → LeE (a ++ c) (b ++ d)
  | .nil, h => h
  | .cons h t, g => .cons h (LeE.app t g)
theorem LeL.rfl' : ∀ l : List CV, LeL l l
  | [] => .nil
  | c :: l => .cons (.refl c) (LeL.rfl' l)
theorem LeE.rfl' : ∀ l : List (List CV), LeE l l
  | [] => .nil
  | c :: l => .cons (LeL.rfl' c) (LeE.rfl' l)
theorem LeE.sync : LeE [[iv 1, iv 0, .v (.slice none 0 0)]] ([opS].map opC) := .cons (.cons (.refl _) (.cons (.refl _) (.cons (.nil 8 (by decide)) .nil))) .nil
theorem ops_le (A B : List Opn) : LeE (A.map opC ++ [iv 1, iv 0, .v (.slice none 0 0)] :: B.map opC) ((A ++ opS :: B).map opC) := by
  rw [List.map_append, List.map_cons]
  exact LeE.app (LeE.rfl' _) (LeE.app LeE.sync (LeE.rfl' (B.map opC)))
theorem jr0_le (s c : Int) : Le (.agg [iv s, iv c, iv 0, iv 0, iv 1, .v (.slice none 0 0)]) (.agg (jrC ⟨s, c, 0, 0, 1, []⟩)) := .agg (.cons (.refl _) (.cons (.refl _) (.cons (.refl _) (.cons (.refl _) (.cons (.refl _) (.cons (.nil 1 (by decide)) .nil))))))
theorem wrapW_all {s c : Int} (h : validJ s c = true) : wrapW s c 0 (List.replicate (c - 16).toNat sec0) = [opW (s + 16) (List.replicate (c - 16).toNat sec0)] := by
  have hk : kW c 0 (List.replicate (c - 16).toNat sec0) = (c - 16).toNat := by rw [kW, List.length_replicate]; simp
  rw [wrapW_0 (by rw [hk, List.length_replicate]; omega), hk, List.take_of_length_le (by simp), Int.add_zero]
theorem call_zeros {f : FuncId} {H : Hp} {V : List Nat} {R : CV → Hp → List Nat → Prop} {xs : List CV} (b n : Nat) (hb : H[b]? = some (some (secsF (List.replicate n sec0)))) (hc : CC Tryz.prog f (xs ++ [secsV (List.replicate n sec0)]) (H.set b none) V R) : CC Tryz.prog f (xs ++ [.bsl b 0 n 8]) H V R := by
  have hch : chunks 8 n ((secsF (List.replicate n sec0)).drop 0) = (List.replicate n sec0).map secC := by
    have := chunks_secs (List.replicate n sec0)
    rwa [List.length_replicate] at this
  refine CC.let_go _ b _ hb ?_ hc
  have : ∀ xs : List CV, FyL b (secsF (List.replicate n sec0)) (xs ++ [.bsl b 0 n 8]) (xs ++ [secsV (List.replicate n sec0)]) := fun xs => by
    induction xs with
    | nil =>
      refine .cons ?_ .nil
      show Fy _ _ _ (.sl .sh 8 ((List.replicate n sec0).map secC))
      rw [← hch]
      exact .bsl _ _ _ (by simp [Nat.mul_comm])
    | cons x xs ih => exact .cons (.refl _) ih
  exact this xs
theorem Format_cc (H : Hp) (V : List Nat) (s c : Int) : CC Tryz.prog 45 [.agg [iv s, iv c]] H V (Pu (jtV (formatJ s c)) H V) := by
  refine CC.of_swp Tryz.func45 rfl (by kernel_rfl) (by rw [Tryz.ntmps45]; exact len_le _ _ rfl) fun hok hokH => ?_
  clear hok
  refine sW ?_
  simp -implicitDefEqProofs [go_sem, args0]
  refine sW ?_
  simp -implicitDefEqProofs [go_sem]
  refine SWp.seq (sW ?_)
  simp -implicitDefEqProofs [go_sem]
  refine CC.mono (valid_cc _ _ _ _) ?_
  rintro _ _ _ ⟨rfl, rfl, rfl⟩
  by_cases h : validJ s c = true
  case neg =>
    simp -implicitDefEqProofs [go_sem, h]
    refine Wp.s ?_
    simp -implicitDefEqProofs [go_sem]
    rw [formatJ_no h]
    exact fin_jt zj_le (.nil 3 (by decide)) rfl hokH (by simp) (by simp)
  have hv := (validJ_iff s c).1 h
  simp -implicitDefEqProofs [go_sem, h]
  refine Wp.s ?_
  simp -implicitDefEqProofs [go_sem]
  refine SWp.seq (SWp.drawnT [H.length + 2] [4] (.s 0 .pl <| .s 1 .ld <| .s 5 .pl <| .s 6 .pl <| .s 2 .pl <| .s 3 .pl <| .s 4 .st <| .s 7 .pl <| .s 8 .pl <| .n) (by kernel_rfl) (by kernel_rfl) ?_)
  simp -implicitDefEqProofs [go_sem]
  refine CC.mono (length_cc _ _ _ _ h) ?_
  rintro _ _ _ ⟨rfl, rfl, rfl⟩
  simp -implicitDefEqProofs [go_sem, -List.reduceReplicate]
  refine ⟨by omega, by omega, ?_⟩
  have hz := zeros_secs (c - 16).toNat
  simp only [List.map_cons, List.map_nil] at hz
  rw [hz]
  refine call_zeros (xs := [.agg [iv s, iv c], iv 0]) (H.length + 3) (c - 16).toNat (by simp) ?_
  refine CC.mono (write_cc _ _ s c 0 (List.replicate (c - 16).toNat sec0) h (Int.le_refl 0) (by omega) (by simp; omega)) ?_
  rintro _ _ _ ⟨v, rfl, rfl, rfl⟩
  rw [wrapW_all h]
  obtain ⟨A, hA⟩ : ∃ A, A = [opW (s + 16) (List.replicate (c - 16).toNat sec0)] := ⟨_, rfl⟩
  rw [← hA]
  simp -implicitDefEqProofs [go_sem]
  refine ⟨Kp.keep fun b hb => ?_, by subst hA; simp, ?_⟩
  · obtain rfl : b = H.length + 2 := by simpa using hb
    simp
  refine SWp.seq (SWp.drawnT [] [] (.s 0 .pl <| .s 1 .pl <| .s 2 .pl <| .s 3 .pl <| .s 4 .pl <| .s 5 .pl <| .s 6 .pl <| .s 7 .pl <| .s 8 .pl <| .n) (by kernel_rfl) (by kernel_rfl) ?_)
  simp -implicitDefEqProofs [go_sem]
  refine CC.mono (payload_cc _ _ _ _) ?_
  rintro _ _ _ ⟨rfl, rfl, rfl⟩
  simp -implicitDefEqProofs [go_sem]
  refine CC.mono (sFormat_cc _ _ s _ _) ?_
  rintro _ _ _ ⟨rfl, rfl, rfl⟩
  rw [formatS_ok h]
  simp -implicitDefEqProofs [go_sem, stV]
  refine SWp.seq (sW ?_)
  simp -implicitDefEqProofs [go_sem]
  refine Wp.s ?_
  simp -implicitDefEqProofs [go_sem]
  refine SWp.seq (SWp.drawnT [] [5] (.s 0 .pl <| .s 1 .pl <| .s 2 .pl <| .s 3 .pl <| .s 4 .pl <| .s 5 .st <| .s 6 .pl <| .s 7 .pl <| .n) (by kernel_rfl) (by kernel_rfl) ?_)
  simp -implicitDefEqProofs [go_sem]
  refine ⟨by subst hA; simp [fmtOps], ?_⟩
  refine Wp.s ?_
  simp -implicitDefEqProofs [go_sem]
  rw [formatJ_ok h]
  refine fin_jt (jr0_le s c) ?_ rfl hokH (by simp) (by simp)
  subst hA
  exact .sle _ _ (ops_le _ _)
theorem FyL.rfl' (b : Nat) (cs : List CV) : ∀ l : List CV, FyL b cs l l
  | [] => .nil
  | c :: l => .cons (.refl c) (FyL.rfl' b cs l)
theorem FyE.rfl' (b : Nat) (cs : List CV) : ∀ l : List (List CV), FyE b cs l l
  | [] => .nil
  | c :: l => .cons (FyL.rfl' b cs c) (FyE.rfl' b cs l)
theorem Fy.zeros (b n : Nat) : Fy b (secsF (List.replicate n sec0)) (.bsl b 0 n 8) (secsV (List.replicate n sec0)) := by
  have hch : chunks 8 n ((secsF (List.replicate n sec0)).drop 0) = (List.replicate n sec0).map secC := by
    have := chunks_secs (List.replicate n sec0)
    rwa [List.length_replicate] at this
  show Fy _ _ _ (.sl .sh 8 ((List.replicate n sec0).map secC))
  rw [← hch]
  exact .bsl _ _ _ (by simp [Nat.mul_comm])
end Go.Proofs.YtbnkggbpocaaiaaGreatDoor
namespace Go.Proofs.YtbnkggbpocaaiaaGreatDoor
open Go.Proofs
def encV : Except Nat (List Sec) → CV
  | .ok l => .tup [secsV l, er 0]
  | .error e => .tup [secsV [], er e]
theorem okV_encV (i j : Nat) (x : Except Nat (List Sec)) : okV i j (encV x) := by
  cases x <;> simp only [encV] <;> rw [okV, okL, okL, okL] <;> exact ⟨okV_secsV _ _ _, okV_er _ _ _, trivial⟩
theorem enc_bad {r : Rcd} (h : r.kind < 1 ∨ 255 < r.kind ∨ r.sq < 1 ∨ 4294967295 < r.sq) : encR r = .error 2 := by rw [encR, if_pos h]
theorem enc_long {r : Rcd} (h : ¬ (r.kind < 1 ∨ 255 < r.kind ∨ r.sq < 1 ∨ 4294967295 < r.sq)) (h2 : 4096 < r.pay.length) : encR r = .error 5 := by rw [encR, if_neg h, if_pos h2]
theorem enc_ok {r : Rcd} (h : ¬ (r.kind < 1 ∨ 255 < r.kind ∨ r.sq < 1 ∨ 4294967295 < r.sq)) (h2 : ¬ 4096 < r.pay.length) : encR r = .ok (secsR r.sq.toNat (strmR r.kind r.pay)) := by rw [encR, if_neg h, if_neg h2]
theorem leN_2 (n : Nat) : leN n 2 = [UInt8.ofNat (n % 256), UInt8.ofNat (n / 256 % 256)] := by
  have e : ∀ m : Nat, byt (m : Int) = UInt8.ofNat (m % 256) := fun m => by
    apply UInt8.toNat_inj.1
    have := byt_toNat (m : Int)
    rw [UInt8.toNat_ofNat']; omega
  simp only [leN, e, List.nil_append, List.cons_append, dvP]
  rw [show (256 : Nat) ^ 0 = 1 from rfl, Nat.div_one]
theorem body_eq (k : Int) (p : List UInt8) : bodyR k p = [byt k] ++ leN p.length 2 ++ p := by rw [leN_2]; rfl
theorem body_len (k : Int) (p : List UInt8) : (bodyR k p).length = p.length + 3 := rfl
theorem strm_len (k : Int) (p : List UInt8) : (strmR k p).length = p.length + 7 := by rw [strmR, List.length_append, body_len, le4_len]
theorem u8s_1 (x : Int) : [[CV.v (.int .u8 (IntKind.u8.wrap x))]] = bs [byt x] := by rw [wrap_u8]; rfl
theorem wrap_rn (r : Reg) : IntKind.i64.wrap (rn r) = ((r.toNat : Nat) : Int) := by
  have := r.isLt
  exact IntWalk.i64_in _ ⟨by unfold rn; omega, by unfold rn; omega⟩
theorem littleI_cc (H : Hp) (V : List Nat) (n : Int) (k : Nat) (hn : 0 ≤ n) (hk : k ≤ 8) : CC Tryz.prog 170 [iv n, ci k] H V (Fr 1 (bs (leN n.toNat k)) H V) := by
  have := little_cc H V n.toNat k hk
  rwa [Int.toNat_of_nonneg hn] at this
theorem ApS.more {j : Nat} {l : List Sec} {cv : CV} {V W : List Nat} (h : ApS j l cv V) : ApS j l cv (V ++ W) := by
  rcases h with h | ⟨k, v, h1, h2, h3⟩
  · exact .inl h
  · exact .inr ⟨k, v, h1, by rw [List.getElem?_append_left (List.getElem?_eq_some_iff.1 h2).1]; exact h2, h3⟩
theorem secR_val (sq : Nat) (st : List UInt8) (i : Nat) : (secR sq st i).val = le4 sq ++ (pcOf st 4 i ++ List.replicate (4 - (pcOf st 4 i).length) 0) := by
  refine mkSec_val ?_
  show (le4 sq ++ (pcOf st 4 i ++ List.replicate (4 - (pcOf st 4 i).length) 0)).length = 8
  have : (pcOf st 4 i).length ≤ 4 := by rw [pcOf, List.length_take]; omega
  rw [List.length_append, List.length_append, List.length_replicate, le4_len]; omega
theorem secR_cells (sq : Nat) (st : List UInt8) (i : Nat) : List.take 4 (fb (le4 sq ++ [0, 0, 0, 0])) ++ ((bs (pcOf st 4 i)).flatten ++ List.drop (4 + (pcOf st 4 i).length) (fb (le4 sq ++ [0, 0, 0, 0]))) = secC (secR sq st i) := by
  have hn : (pcOf st 4 i).length ≤ 4 := by rw [pcOf, List.length_take]; omega
  have e2 : ∀ n, n ≤ 4 → List.drop (4 + n) (fb (le4 sq ++ [0, 0, 0, 0])) = fb (List.replicate (4 - n) 0) := fun n hn => by
    have h : n = 0 ∨ n = 1 ∨ n = 2 ∨ n = 3 ∨ n = 4 := by omega
    rcases h with rfl | rfl | rfl | rfl | rfl <;> rfl
  rw [e2 _ hn, fb_flat, show List.take 4 (fb (le4 sq ++ [0, 0, 0, 0])) = fb (le4 sq) from rfl, fb_app, fb_app]
  show fb _ = fb (secR sq st i).val
  rw [secR_val]
abbrev HE (H : Hp) (r : Rcd) (st : List UInt8) (cv lp : CV) (W : Hp) : Hp :=
  H ++ (some (rcC r) :: some [cv] :: some [.sl .sh 1 (bs st)] :: some [ci 4] :: some [lp] :: W)
@[go_sem] theorem hbx_W5 (H W L : Hp) (a0 a1 a2 a3 a4 : Option (List CV)) (K : List CV → Prop) : hbx (H ++ (a0 :: a1 :: a2 :: a3 :: a4 :: (W ++ L))) (H.length + (W.length + 5)) K = hbx L 0 K := by
  unfold hbx
  have : (H ++ (a0 :: a1 :: a2 :: a3 :: a4 :: (W ++ L)))[H.length + (W.length + 5)]? = L[0]? := by
    rw [hget]
    simp only [List.getElem?_cons_succ]
    exact hget W L 0
  rw [this]
theorem secsR_n (sq : Nat) (st : List UInt8) : (List.range (nPc st.length 4)).map (secR sq st) = secsR sq st := rfl
set_option maxRecDepth 8000 in
theorem REncode_cc (H : Hp) (V : List Nat) (r : Rcd) (hl : r.pay.length ≤ 900000000) : CC Tryz.prog 117 [.agg (rcC r)] H V (Pu (encV (encR r)) H V) := by
  refine CC.of_swp0 Tryz.func117 rfl (by kernel_rfl) (by rw [Tryz.ntmps117]; exact len_le _ _ rfl) fun hok hokH => ?_
  refine SWp0.seq (SWp.s0 (Wp.s ?_))
  simp -implicitDefEqProofs [go_sem, args0]
  have bad : ∀ (e : Nat) {H' : Hp} {V' : List Nat}, encR r = .error e → H'.take H.length = H → V'.take V.length = V → Fin H.length V.length (Pu (encV (encR r)) H V) (.tup [.v (.slice none 0 0), er e]) H' V' := fun e H' V' h1 h2 h3 => by
    rw [h1]
    exact Fin.pu (.tup (.cons (.nil 8 (by decide)) (.cons (.refl _) .nil))) (okV_encV _ _ (.error e)) hokH h2 h3
  refine SWp0.seq (SWp.s0 (sW ?_))
  by_cases c1 : r.kind < 1
  · simp -implicitDefEqProofs [go_sem, c1]
    refine Wp.s ?_
    simp -implicitDefEqProofs [go_sem]
    exact bad 2 (enc_bad (.inl c1)) (by simp) (by simp)
  by_cases c2 : 255 < r.kind
  · simp -implicitDefEqProofs [go_sem, c1, c2]
    refine Wp.s ?_
    simp -implicitDefEqProofs [go_sem]
    exact bad 2 (enc_bad (.inr (.inl c2))) (by simp) (by simp)
  by_cases c3 : r.sq < 1
  · simp -implicitDefEqProofs [go_sem, c1, c2, c3]
    refine Wp.s ?_
    simp -implicitDefEqProofs [go_sem]
    exact bad 2 (enc_bad (.inr (.inr (.inl c3)))) (by simp) (by simp)
  by_cases c4 : 4294967295 < r.sq
  · simp -implicitDefEqProofs [go_sem, c1, c2, c3, c4]
    refine Wp.s ?_
    simp -implicitDefEqProofs [go_sem]
    exact bad 2 (enc_bad (.inr (.inr (.inr c4)))) (by simp) (by simp)
  have hb : ¬ (r.kind < 1 ∨ 255 < r.kind ∨ r.sq < 1 ∨ 4294967295 < r.sq) := by omega
  simp -implicitDefEqProofs [go_sem, c1, c2, c3, c4]
  refine Wp.s ?_
  simp -implicitDefEqProofs [go_sem]
  refine SWp0.seq (SWp.s0 (sW ?_))
  by_cases c5 : 4096 < r.pay.length
  · have c5' : 4096 < (r.pay.length : Int) := by omega
    simp -implicitDefEqProofs [go_sem, c5']
    refine Wp.s ?_
    simp -implicitDefEqProofs [go_sem]
    exact bad 5 (enc_long hb c5) (by simp) (by simp)
  have c5' : ¬ 4096 < (r.pay.length : Int) := by omega
  simp -implicitDefEqProofs [go_sem, c5']
  refine Wp.s ?_
  simp -implicitDefEqProofs [go_sem]
  have hE := enc_ok hb c5
  have hsl := strm_len r.kind r.pay
  refine SWp0.seq (SWp.s0 (SWp.drawnT [] [] (.s 0 .pl <| .s 1 .pl <| .s 2 .pl <| .s 3 .pl <| .s 4 .pl <| .s 5 .pl <| .s 6 .pl <| .s 7 .pl <| .s 8 .pl <| .s 9 .pl <| .n) (by kernel_rfl) (by kernel_rfl) ?_))
  simp -implicitDefEqProofs [go_sem]
  refine CC.mono (little_cc _ _ r.pay.length 2 (by decide)) ?_
  rintro _ _ _ ⟨v, rfl, rfl, rfl⟩
  simp -implicitDefEqProofs [go_sem, u8s_1]
  refine SWp0.seq (SWp.s0 (Wp.s ?_))
  simp -implicitDefEqProofs [go_sem]
  have eb : byt r.kind :: (leN r.pay.length 2 ++ r.pay) = bodyR r.kind r.pay := (body_eq _ _).symm
  refine ⟨by omega, ?_⟩
  rw [eb]
  refine SWp0.seq (SWp.s0 (Wp.s ?_))
  simp -implicitDefEqProofs [go_sem]
  refine CC.mono (Sum_cc _ _ _ (bodyR r.kind r.pay) (by rw [body_len]; omega)) ?_
  rintro _ _ _ ⟨rfl, rfl, rfl⟩
  simp -implicitDefEqProofs [go_sem, wrap_rn]
  refine CC.mono (little_cc _ _ (crc (bodyR r.kind r.pay)).toNat 4 (by decide)) ?_
  rintro _ _ _ ⟨v2, rfl, rfl, rfl⟩
  simp -implicitDefEqProofs [go_sem]
  refine ⟨by rw [body_len]; omega, ?_⟩
  rw [leN_4, show bodyR r.kind r.pay ++ le4 (crc (bodyR r.kind r.pay)).toNat = strmR r.kind r.pay from rfl]
  generalize hst : strmR r.kind r.pay = st at hE hsl ⊢
  refine SWp0.ghost (Sh.trim (T' := [(1, .ptr H.length 0), (4, .sl .sh 1 (bs st))]) (L := [some (rcC r)]) (V' := V) (by simp [go_sem]) (by simp [go_sem]) hokH (by rw [okH_some, okL_rcC]; exact ⟨trivial, trivial⟩) (Nat.le_refl _) (by simp) (by simp)) ?_
  refine SWp0.seq (SWp.s0 (Wp.s ?_))
  simp -implicitDefEqProofs [go_sem]
  refine SWp0.join (α := CV × List Nat) (fun x => ([(5, .ptr (H.length + 1) 0)], H ++ [some (rcC r), some [x.1]], x.2))
    (fun x => ApS V.length (secsR r.sq.toNat st) x.1 x.2 ∧ V.length ≤ x.2.length ∧ x.2.take V.length = V) ?_ ?_
  · refine SWp0.seq (SWp.s0 (Wp.s ?_))
    simp -implicitDefEqProofs [go_sem]
    refine CC.mono (Chunk_cc _ _ .sh st 4 (by decide) (by trivial)) ?_
    rintro _ _ _ ⟨rfl, rfl, rfl⟩
    simp -implicitDefEqProofs [go_sem]
    refine SWp0.block (SWp0.range [(1, .ptr H.length 0), (5, .ptr (H.length + 1) 0)] rfl (by simp [go_sem]) ?_)
    simp -implicitDefEqProofs [go_sem]
    generalize hbd : Code.block 1 _ = bd
    generalize has : Code.region 10 _ _ = asg
    refine CC.mono (chunk1_cc _ V _ _ _ .sh st 4 (by decide) (by decide) (by omega) (fun i G V' => ∃ cv W, ApS V.length ((List.range i).map (secR r.sq.toNat st)) cv V' ∧ V.length ≤ V'.length ∧ V'.take V.length = V ∧
      G = HE H r st cv (lpc 65 #[51] asg bd [(1, .ptr H.length 0), (5, .ptr (H.length + 1) 0)] .ready none) W)
      ⟨.v (.slice none 0 0), [], .inl ⟨rfl, rfl⟩, Nat.le_refl _, by simp, rfl⟩ ?_ ?_) ?_
    · rintro i _ V' ⟨cv, W, _, _, _, rfl⟩
      exact ⟨hget _ _ 2, hget _ _ 3⟩
    · rintro i hi _ V' ⟨cv, W, ha, hv1, hv2, rfl⟩
      refine YC.of_round (n := 65) (ps := #[51]) (bd := bd) (T := [(1, .ptr H.length 0), (5, .ptr (H.length + 1) 0)]) (hget _ _ 4) rfl (by decide) ?_
      subst hbd has
      refine Wp.s ?_
      simp -implicitDefEqProofs [go_sem, tps]
      refine SWp.block (sW ?_)
      simp -implicitDefEqProofs [go_sem]
      generalize hlp : lpc 65 #[51] _ _ _ LoopState.busy none = lp
      generalize hqq : RQ 65 #[51] _ _ _ _ _ = QQ
      refine SWp.seq (SWp.drawnT [H.length] [4] (.s 0 .pl <| .s 1 .pl <| .s 2 .ld <| .s 3 .pl <| .s 4 .st <| .n) (by kernel_rfl) (by kernel_rfl) ?_)
      simp -implicitDefEqProofs [go_sem]
      refine CC.mono (littleI_cc _ _ r.sq 4 (by omega) (by decide)) ?_
      rintro _ _ _ ⟨v3, rfl, rfl, rfl⟩
      simp -implicitDefEqProofs [go_sem, leN_4]
      have e1 : (bs (le4 r.sq.toNat)).flatten ++ List.drop (le4 r.sq.toNat).length [CV.v (.int .u8 0), CV.v (.int .u8 0), CV.v (.int .u8 0), CV.v (.int .u8 0), CV.v (.int .u8 0), CV.v (.int .u8 0), CV.v (.int .u8 0), CV.v (.int .u8 0)] = fb (le4 r.sq.toNat ++ [0, 0, 0, 0]) := by
        rw [fb_flat, le4_len]; rfl
      rw [e1]
      refine ⟨by rw [le4_len]; decide, by rw [fb_flat, fb_all], by rw [le4_len]; decide, ?_, ?_⟩
      · exact Kp.keep fun b hb => by
          obtain rfl : b = H.length := by simpa using hb
          simp
      refine sW ?_
      simp -implicitDefEqProofs [go_sem]
      rw [secR_cells]
      refine ⟨by rw [pcOf, List.length_take]; omega, by rw [fb_flat, fb_all], by rw [le4_len, pcOf, List.length_take]; omega, ?_⟩
      have ha := ha.more (W := [v3])
      have hv1 : V.length ≤ (V' ++ [v3]).length := by simp; omega
      have hv2 : (V' ++ [v3]).take V.length = V := by rw [List.take_append_of_le_length (by omega)]; exact hv2
      generalize V' ++ [v3] = V2 at ha hv1 hv2 ⊢
      rcases ha with ⟨rfl, he⟩ | ⟨k, v, rfl, hv, hk⟩
      · refine Wp.s ?_
        simp -implicitDefEqProofs [go_sem]
        rw [← hqq, ← hlp]
        refine ⟨hget _ _ 4, rfl, .sl (.own V2.length 0) 8 [secC (secR r.sq.toNat st i)], .inr ⟨V2.length, 0, ?_, by simp, hv1⟩, by simp; omega, ?_, W ++ [some (secC (secR r.sq.toNat st i))], ?_⟩
        · rw [List.map_append, he]; rfl
        · rw [List.take_append_of_le_length hv1]; exact hv2
        · simp
      · refine Wp.s ?_
        simp -implicitDefEqProofs [go_sem, hv]
        rw [← hqq, ← hlp]
        have hkv := (List.getElem?_eq_some_iff.1 hv).1
        have hi2 := nPc_le (len := st.length) (n := 4) (by decide)
        refine ⟨by omega, hget _ _ 4, rfl, .sl (.own k (v + 1)) 8 (List.map (secC ∘ secR r.sq.toNat st) (List.range i) ++ [secC (secR r.sq.toNat st i)]), .inr ⟨k, v + 1, ?_, by rw [List.getElem?_set_self hkv], hk⟩, by simpa using hv1, ?_, W ++ [some (secC (secR r.sq.toNat st i))], ?_⟩
        · rw [List.map_append, List.map_map]; rfl
        · rw [List.take_set_of_le hk]; exact hv2
        · simp
    · rintro _ _ V' ⟨cv, W, ha, hv1, hv2, rfl⟩
      refine .inl ⟨hget _ _ 4, ?_⟩
      rw [secsR_n] at ha
      refine ⟨cv, V', ⟨ha, hv1, hv2⟩, ?_⟩
      refine Sh.trim (L := [some (rcC r), some [cv]]) ?_ ?_ hokH ?_ hv1 ?_ (List.take_of_length_le (Nat.le_refl _))
      · simp [go_sem]
      · simp [go_sem]
      · rw [okH_some, okH_some, okL_rcC, okL, okL]
        exact ⟨trivial, ⟨ha.ok, trivial⟩, trivial⟩
      · simp
  · rintro ⟨cv, V'⟩ ⟨h1, h2, h3⟩
    dsimp only
    refine SWp0.seq (SWp.s0 (Wp.s ?_))
    simp -implicitDefEqProofs [go_sem, h1.one]
    refine SWp.s0 (Wp.s ?_)
    simp -implicitDefEqProofs [go_sem]
    rw [hE]
    exact Fin.pu (.tup (.cons h1.le (.cons (.refl _) .nil))) (okV_encV _ _ (.ok _)) hokH (by simp) h3
end Go.Proofs.YtbnkggbpocaaiaaGreatDoor
namespace Go.Proofs.YtbnkggbpocaaiaaGreatDoor
open Go.Proofs
end Go.Proofs.YtbnkggbpocaaiaaGreatDoor
namespace Go.Proofs.YtbnkggbpocaaiaaGreatDoor
open Go.Proofs
theorem appJ_bad {j : Jrn} {k : Int} {p : List UInt8} (h : ¬ chkJ j = true) : appJ j k p = (zjr, [], 3) := by rw [appJ, if_pos (by simpa using h)]
theorem appJ_err {j : Jrn} {k : Int} {p : List UInt8} {e : Nat} (h : chkJ j = true) (he : encR ⟨k, nextJ j, p⟩ = .error e) : appJ j k p = (zjr, [], e) := by
  rw [appJ, if_neg (by simp [h]), he]
theorem appJ_many {j : Jrn} {k : Int} {p : List UInt8} {l : List Sec} (h : chkJ j = true) (he : encR ⟨k, nextJ j, p⟩ = .ok l) (h1 : 1073741824 ≤ nextJ j) : appJ j k p = (zjr, [], 6) := by
  rw [appJ, if_neg (by simp [h]), he]; exact if_pos h1
theorem appJ_full {j : Jrn} {k : Int} {p : List UInt8} {l : List Sec} (h : chkJ j = true) (he : encR ⟨k, nextJ j, p⟩ = .ok l) (h1 : ¬ 1073741824 ≤ nextJ j) (h2 : freeJ j < l.length) : appJ j k p = (zjr, [], 11) := by
  rw [appJ, if_neg (by simp [h]), he]; exact (if_neg h1).trans (if_pos h2)
theorem appJ_ok {j : Jrn} {k : Int} {p : List UInt8} {l : List Sec} (h : chkJ j = true) (he : encR ⟨k, nextJ j, p⟩ = .ok l) (h1 : ¬ 1073741824 ≤ nextJ j) (h2 : ¬ freeJ j < l.length) :
    appJ j k p = (⟨j.start, j.count, j.head, (j.tail + l.length) % (j.count - 16), j.first, j.sizes ++ [(l.length : Int)]⟩, wrapW j.start j.count j.tail l ++ [opS], 0) := by
  rw [appJ, if_neg (by simp [h]), he]; exact (if_neg h1).trans (if_neg h2)
theorem enc_le {r : Rcd} {l : List Sec} (h : encR r = .ok l) : l.length ≤ 1100 ∧ 1 ≤ l.length := by
  rw [encR] at h
  split at h
  · cases h
  · split at h
    · cases h
    · cases h
      rw [secsR, List.length_map, List.length_range, strm_len]
      omega
theorem enc_err {r : Rcd} {e : Nat} (h : encR r = .error e) : e = 2 ∨ e = 5 := by
  rw [encR] at h
  split at h
  · cases h; exact .inl rfl
  · split at h
    · cases h; exact .inr rfl
    · cases h
theorem rc_args (k n : Int) (p : List UInt8) : [iv k, iv n, .sl .sh 1 (bs p)] = rcC ⟨k, n, p⟩ := rfl
theorem chkJ_tail {j : Jrn} (h : chkJ j = true) : 0 ≤ j.tail ∧ j.tail < j.count - 16 := by
  have h1 := (chkJ_iff j).1 h
  have hv := (validJ_iff _ _).1 h1.1
  rw [h1.2.2.2.2]
  exact ⟨Int.emod_nonneg _ (by omega), Int.emod_lt_of_pos _ (by omega)⟩
theorem wrapW_len (s c p : Int) (l : List Sec) : (wrapW s c p l).length ≤ 2 := by
  by_cases h : kW c p l < l.length
  · rw [wrapW_1 h]; exact Nat.le_refl _
  · rw [wrapW_0 h]; exact Nat.le_succ _
theorem snoc_ints (l : List Int) (n : Int) : List.map ic l ++ [[iv n]] = (l ++ [n]).map ic := by rw [List.map_append]; rfl
theorem ops_le1 (A : List Opn) : LeE (A.map opC ++ [[iv 1, iv 0, .v (.slice none 0 0)]]) ((A ++ [opS]).map opC) := by
  rw [List.map_append]
  exact LeE.app (LeE.rfl' _) LeE.sync
theorem jr_upd_le (j : Jrn) (n : Int) (tl : Int) (tk : Tk) : Le (.agg [iv j.start, iv j.count, iv j.head, iv tl, iv j.first, .sl tk 1 (List.map ic j.sizes ++ [[iv n]])]) (.agg (jrC ⟨j.start, j.count, j.head, tl, j.first, j.sizes ++ [n]⟩)) := by
  refine .agg (.cons (.refl _) (.cons (.refl _) (.cons (.refl _) (.cons (.refl _) (.cons (.refl _) (.cons ?_ .nil))))))
  rw [snoc_ints]
  exact .sh _ _ _
set_option maxRecDepth 8000 in
theorem Append_cc (H : Hp) (V : List Nat) (j : Jrn) (kind : Int) (p : List UInt8) (hl : j.sizes.length ≤ 1000000000) (hp : p.length ≤ 900000000) : CC Tryz.prog 60 [.agg (jrC j), iv kind, .sl .sh 1 (bs p)] H V (Pu (jtV (appJ j kind p)) H V) := by
  refine CC.of_swp Tryz.func60 rfl (by kernel_rfl) (by rw [Tryz.ntmps60]; exact len_le _ _ rfl) fun hok hokH => ?_
  clear hok
  refine sW ?_
  simp -implicitDefEqProofs [go_sem, args0]
  have bad : ∀ (e : Nat) {H' : Hp} {V' : List Nat}, appJ j kind p = (zjr, [], e) → H'.take H.length = H → V'.take V.length = V → Fin H.length V.length (Pu (jtV (appJ j kind p)) H V) (.tup [.agg zjC, .v (.slice none 0 0), er e]) H' V' := fun e H' V' h1 h2 h3 => by
    rw [h1]
    exact fin_jt zj_le (.nil 3 (by decide)) rfl hokH h2 h3
  refine sW ?_
  simp -implicitDefEqProofs [go_sem]
  refine CC.mono (examine_cc _ _ j hl) ?_
  rintro _ _ _ ⟨u, rfl, rfl, rfl, hu⟩
  simp -implicitDefEqProofs [go_sem]
  refine SWp.seq (sW ?_)
  by_cases h : chkJ j = true
  case neg =>
    simp -implicitDefEqProofs [go_sem, h]
    refine Wp.s ?_
    simp -implicitDefEqProofs [go_sem]
    exact bad 3 (appJ_bad h) (by simp) (by simp)
  obtain rfl := hu h
  have hn := chkJ_next h
  have hsu := chkJ_sum h
  have hva := chkJ_val h
  have hv := (validJ_iff _ _).1 hva
  have ht := chkJ_tail h
  simp -implicitDefEqProofs [go_sem, h]
  refine Wp.s ?_
  simp -implicitDefEqProofs [go_sem]
  refine sW ?_
  simp -implicitDefEqProofs [go_sem]
  refine CC.mono (next_cc _ _ j _ hn.1 hn.2) ?_
  rintro _ _ _ ⟨rfl, rfl, rfl⟩
  simp -implicitDefEqProofs [go_sem, rc_args]
  refine CC.mono (REncode_cc _ _ ⟨kind, nextJ j, p⟩ hp) ?_
  rintro _ _ _ ⟨rfl, rfl, rfl⟩
  cases he : encR ⟨kind, nextJ j, p⟩ with
  | error e =>
    have hee : ¬ e = 0 := by have := enc_err he; omega
    simp -implicitDefEqProofs [go_sem, encV]
    refine SWp.seq (SWp.block (sW ?_))
    simp -implicitDefEqProofs [go_sem, hee]
    refine Wp.s ?_
    simp -implicitDefEqProofs [go_sem]
    exact bad e (appJ_err h he) (by simp) (by simp)
  | ok l =>
    have hle := enc_le he
    simp -implicitDefEqProofs [go_sem, encV]
    refine SWp.seq (SWp.block (sW ?_))
    simp -implicitDefEqProofs [go_sem]
    refine SWp.condF (by simp [go_sem]) ?_
    refine sW ?_
    simp -implicitDefEqProofs [go_sem]
    refine CC.mono (next_cc _ _ j _ hn.1 hn.2) ?_
    rintro _ _ _ ⟨rfl, rfl, rfl⟩
    by_cases h1 : 1073741824 ≤ nextJ j
    · simp -implicitDefEqProofs [go_sem, h1]
      refine Wp.s ?_
      simp -implicitDefEqProofs [go_sem]
      exact bad 6 (appJ_many h he h1) (by simp) (by simp)
    simp -implicitDefEqProofs [go_sem, h1]
    refine SWp.condF (by simp [go_sem]) ?_
    refine sW ?_
    simp -implicitDefEqProofs [go_sem]
    refine CC.mono (free_cc _ _ j _ hva hsu.1 (by omega)) ?_
    rintro _ _ _ ⟨rfl, rfl, rfl⟩
    by_cases h2 : freeJ j < l.length
    · have h2' : j.count - 16 - sumI j.sizes < (l.length : Int) := h2
      simp -implicitDefEqProofs [go_sem, h2']
      refine Wp.s ?_
      simp -implicitDefEqProofs [go_sem]
      exact bad 11 (appJ_full h he h1 h2) (by simp) (by simp)
    have h2' : ¬ j.count - 16 - sumI j.sizes < (l.length : Int) := h2
    simp -implicitDefEqProofs [go_sem, h2']
    refine Wp.s ?_
    simp -implicitDefEqProofs [go_sem]
    refine sW ?_
    simp -implicitDefEqProofs [go_sem]
    refine CC.mono (own_cc _ _ j _ hl) ?_
    rintro _ _ _ ⟨v, rfl, rfl, rfl⟩
    simp -implicitDefEqProofs [go_sem]
    refine sW ?_
    simp -implicitDefEqProofs [go_sem]
    refine ⟨by omega, ?_⟩
    have w1 : IntKind.i64.wrap (j.tail + (l.length : Int)) = j.tail + (l.length : Int) := IntWalk.i64_in _ ⟨by omega, by omega⟩
    have t1 := Int.tmod_eq_emod_of_nonneg (b := j.count - 16) (show 0 ≤ j.tail + (l.length : Int) by omega)
    have hz : ¬ j.count - 16 = 0 := by omega
    refine SWp.seq (SWp.drawnT [] [10] (.s 0 .pl <| .s 1 .pl <| .s 2 .pl <| .s 3 .pl <| .s 4 .pl <| .s 5 .pl <| .s 6 .pl <| .s 7 .pl <| .s 8 .pl <| .s 9 .pl <| .s 10 .st <| .n) (by kernel_rfl) (by kernel_rfl) ?_)
    simp -implicitDefEqProofs [go_sem, w1]
    refine CC.mono (length_cc _ _ _ _ hva) ?_
    rintro _ _ _ ⟨rfl, rfl, rfl⟩
    simp -implicitDefEqProofs [go_sem, w1, t1, hz]
    refine SWp.seq (SWp.drawnT [H.length + 2] [11] (.s 0 .pl <| .s 1 .pl <| .s 2 .ld <| .s 3 .pl <| .s 4 .pl <| .s 5 .ld <| .s 6 .pl <| .s 8 .pl <| .s 9 .pl <| .s 7 .pl <| .s 10 .pl <| .s 11 .st <| .s 12 .pl <| .s 13 .pl <| .n) (by kernel_rfl) (by kernel_rfl) ?_)
    simp -implicitDefEqProofs [go_sem]
    refine CC.mono (write_cc _ _ j.start j.count j.tail l hva ht.1 (by omega) (by omega)) ?_
    rintro _ _ _ ⟨v2, rfl, rfl, rfl⟩
    have hA := wrapW_len j.start j.count j.tail l
    have hJ := appJ_ok h he h1 h2
    generalize wrapW j.start j.count j.tail l = A at hA hJ ⊢
    simp -implicitDefEqProofs [go_sem]
    refine ⟨by omega, Kp.keep fun b hb => ?_, Wp.s ?_⟩
    · obtain rfl : b = H.length + 2 := by simpa using hb
      rw [hget, hget]; rfl
    simp -implicitDefEqProofs [go_sem]
    rw [hJ]
    exact fin_jt (jr_upd_le j _ _ _) (.sle _ _ (ops_le1 A)) rfl hokH (by simp) (by simp)
end Go.Proofs.YtbnkggbpocaaiaaGreatDoor
namespace Go.Proofs.YtbnkggbpocaaiaaGreatDoor
open Go.Proofs
def opE (l : List Opn) : List CV := [opsV l]
@[go_sem, simp] theorem opE_len (l : List Opn) : (opE l).length = 1 := rfl
@[go_sem, simp] theorem opE_get (l : List Opn) (h : 0 < (opE l).length) : (opE l)[0] = opsV l := rfl
@[go_sem] theorem okL_opE (i j : Nat) (l : List Opn) : okL i j (opE l) = True := by simp [opE, go_sem, okL, okV, okE_ops]
@[go_sem] theorem okE_opEs (i j : Nat) (l : List (List Opn)) : okE i j (l.map opE) = True := eq_true (okE_map opE l fun e => by rw [okL_opE]; trivial)
theorem zcOp : zcTy Tryz.prog 98 = some [.int .i64 0, .int .i64 0, .slice none 0 0] := by kernel_rfl
theorem growOp_cc (H : Hp) (V : List Nat) (n : Nat) (hn : n ≤ 1000000000) : CC Tryz.prog 166 [.v (.slice none 0 0), ci n] H V (Fr 3 [] H V) := by
  refine CC.of_swp Tryz.func166 rfl (by kernel_rfl) (by rw [Tryz.ntmps166]; exact len_le _ _ rfl) fun hok hokH => ?_
  clear hok
  refine sW ?_
  simp -implicitDefEqProofs [go_sem, args0]
  refine sW ?_
  simp -implicitDefEqProofs [go_sem, show ¬ (n : Int) < 0 by omega]
  refine SWp.seq (SWp.seq ?_)
  refine SWp.opx (pre := [_, _]) (post := [_, _, _, _, _]) rfl (by intro c e; cases e) ?_
  simp -implicitDefEqProofs [go_sem]
  refine ⟨_, _, _, capnil (by rfl) (by rw [slTy38]; rfl), ?_⟩
  have w0 : IntKind.i64.wrap 0 = 0 := rfl
  have wn : IntKind.i64.wrap (n : Int) = n := IntWalk.i64_in _ ⟨by omega, by omega⟩
  simp -implicitDefEqProofs [go_sem, w0, wn]
  refine sW ?_
  rcases Nat.eq_zero_or_pos n with rfl | h0
  · simp -implicitDefEqProofs [go_sem, w0]
    refine Wp.s ?_
    simp -implicitDefEqProofs [go_sem]
    refine sW ?_
    simp -implicitDefEqProofs [go_sem]
    refine Wp.s ?_
    simp -implicitDefEqProofs [go_sem]
    exact Fin.frtok (by decide) (.inl ⟨rfl, rfl⟩) (by simp [go_sem]) hokH (by simp) (by simp)
  · have h0' : (0 : Int) < n := by omega
    simp -implicitDefEqProofs [go_sem, h0]
    refine SWp.condT rfl ?_
    refine SWp.mw (MW.app (mid := [_, _, _, _, _]) (mid2 := [_, _, _, _, _]) ?_)
    refine MW.app (mid := [_, _]) (mid2 := [_, _, _]) (MW.crun ?_)
    simp -implicitDefEqProofs [go_sem]
    refine MW.app (mid := [_]) (mid2 := [_, _]) (MW.opx rfl (by intro c e; cases e) (by simp [dOk]) (capnil (by rfl) (by rw [slTy38]; rfl)) (MW.crun ?_))
    simp -implicitDefEqProofs [go_sem]
    refine MW.app (mid := [_, _, _, _]) (mid2 := [_]) (MW.room (N := n) (k0 := 0) slTy38 (by kernel_rfl) zcOp rfl rfl rfl (by omega) (by omega) (by decide) (by decide) (MW.crun ?_))
    simp -implicitDefEqProofs [go_sem]
    refine sW ?_
    simp -implicitDefEqProofs [go_sem]
    refine Wp.s ?_
    simp -implicitDefEqProofs [go_sem]
    exact Fin.fresh rfl (by simp [go_sem]) hokH (by simp)
theorem flt_take {α : Type} {l : List (List α)} {i : Nat} (h : i < l.length) : (l.take (i + 1)).flatten = (l.take i).flatten ++ l[i] := by
  rw [List.take_succ_eq_append_getElem h, List.flatten_append]; simp
theorem flt_le {α : Type} (l : List (List α)) (i : Nat) : (l.take i).flatten.length ≤ l.flatten.length := by
  conv => rhs; rw [← List.take_append_drop i l, List.flatten_append, List.length_append]
  omega
def catO (l : List (List Opn)) : List Opn := l.flatten
def ftO (l : List (List Opn)) (i : Nat) : List Opn := (l.take i).flatten
theorem ftO_len {l : List (List Opn)} {i : Nat} (h : i < l.length) : (ftO l (i + 1)).length = (ftO l i).length + l[i].length := by
  unfold ftO; rw [flt_take h, List.length_append]
theorem ftO_step {l : List (List Opn)} {i : Nat} (h : i < l.length) : ftO l i ++ l[i] = ftO l (i + 1) := by
  unfold ftO; rw [flt_take h]
theorem ftO_le (l : List (List Opn)) (i : Nat) : (ftO l i).length ≤ (catO l).length := flt_le l i
theorem ftO_all {l : List (List Opn)} {i : Nat} (h : l.length ≤ i) : ftO l i = catO l := by unfold ftO; rw [List.take_of_length_le h]; rfl
theorem concatOp_cc (H : Hp) (V : List Nat) (tk : Tk) (l : List (List Opn)) (hl : l.length ≤ 1000000000) (hf : (catO l).length ≤ 1000000000) : CC Tryz.prog 110 [.sl tk 1 (l.map opE)] H V (Fr 3 ((catO l).map opC) H V) := by
  refine CC.of_swp Tryz.func110 rfl (by kernel_rfl) (by rw [Tryz.ntmps110]; exact len_le _ _ rfl) fun hok hokH => ?_
  clear hok
  refine sW ?_
  simp -implicitDefEqProofs [go_sem, args0]
  refine sW ?_
  simp -implicitDefEqProofs [go_sem]
  refine SWp.join (α := Unit) (fun _ => ([(0, .sl tk 1 (l.map opE)), (3, ci (catO l).length)], H, V)) (fun _ => True) ?_ ?_
  · refine sW ?_
    simp -implicitDefEqProofs [go_sem]
    refine SWp.block ?_
    refine SWp.loop (α := Nat) (fun i => ([(0, .sl tk 1 (l.map opE)), (9, .sl tk 1 (l.map opE)), (10, ci l.length), (11, ci i), (3, ci (ftO l i).length)], H, V)) (fun i => i ≤ l.length) (fun i => l.length - i) 0 (Nat.zero_le _) (Sh.forget (by simp [go_sem, ftO]) rfl rfl) ?_
    intro i hi
    dsimp only
    refine sW ?_
    simp -implicitDefEqProofs [go_sem]
    refine sW ?_
    simp -implicitDefEqProofs [go_sem]
    refine ⟨fun h => ?_, fun h => Sh.forget (by simp [go_sem, ftO_all h]) rfl rfl⟩
    have q1 := ftO_len h
    have q2 := ftO_le l (i + 1)
    refine SWp.seq (SWp.block (sW ?_))
    simp -implicitDefEqProofs [go_sem, h]
    have w1 : IntKind.i64.wrap (((ftO l i).length : Int) + (l[i].length : Int)) = ((ftO l (i + 1)).length : Int) := by rw [IntWalk.i64_in _ ⟨by omega, by omega⟩]; omega
    refine sW ?_
    simp -implicitDefEqProofs [go_sem, w1]
    refine sW ?_
    simp -implicitDefEqProofs [go_sem, show ¬ ((ftO l (i + 1)).length : Int) < 0 by omega]
    refine Wp.s ?_
    simp -implicitDefEqProofs [go_sem]
    refine Wp.s ?_
    simp -implicitDefEqProofs [go_sem]
    refine ⟨i + 1, by omega, by omega, Sh.forget ?_ rfl rfl⟩
    simp [go_sem, wrap_big (show i < 9223372036854775807 by omega)]
  · rintro _ -
    dsimp only
    refine sW ?_
    simp -implicitDefEqProofs [go_sem]
    refine CC.mono (growOp_cc _ _ _ hf) ?_
    rintro _ _ _ ⟨v, rfl, rfl, rfl⟩
    simp -implicitDefEqProofs [go_sem]
    refine SWp.join (α := Nat) (fun v => ([(6, .sl (.own V.length v) 3 ((catO l).map opC))], H, V ++ [v])) (fun _ => True) ?_ ?_
    · refine sW ?_
      simp -implicitDefEqProofs [go_sem]
      refine SWp.block ?_
      refine SWp.loop (α := Nat × Nat) (fun x => ([(25, .sl tk 1 (l.map opE)), (26, ci l.length), (27, ci x.1), (6, .sl (.own V.length x.2) 3 ((ftO l x.1).map opC))], H, V ++ [x.2])) (fun x => x.1 ≤ l.length) (fun x => l.length - x.1) (0, v) (Nat.zero_le _) (Sh.forget (by simp [go_sem, ftO]) rfl rfl) ?_
      rintro ⟨i, v⟩ hi
      dsimp only at hi ⊢
      refine sW ?_
      simp -implicitDefEqProofs [go_sem]
      refine sW ?_
      simp -implicitDefEqProofs [go_sem]
      refine ⟨fun h => ?_, fun h => ⟨v, Sh.forget (by simp [go_sem, ftO_all h]) rfl rfl⟩⟩
      have q1 := ftO_len h
      have q2 := ftO_le l (i + 1)
      refine SWp.seq (SWp.block (sW ?_))
      simp -implicitDefEqProofs [go_sem, h]
      refine Wp.s ?_
      simp -implicitDefEqProofs [go_sem]
      refine ⟨by omega, ?_⟩
      refine Wp.s ?_
      simp -implicitDefEqProofs [go_sem]
      refine ⟨i + 1, by omega, by omega, v + 1, Sh.forget ?_ rfl (by simp)⟩
      rw [← ftO_step h]
      simp [go_sem, wrap_big (show i < 9223372036854775807 by omega)]
    · rintro v -
      dsimp only
      refine sW ?_
      simp -implicitDefEqProofs [go_sem]
      refine Wp.s ?_
      simp -implicitDefEqProofs [go_sem]
      exact Fin.fresh rfl (by simp [go_sem]) hokH (by simp)
end Go.Proofs.YtbnkggbpocaaiaaGreatDoor
namespace Go.Proofs.YtbnkggbpocaaiaaGreatDoor
open Go.Proofs
end Go.Proofs.YtbnkggbpocaaiaaGreatDoor
namespace Go.Proofs.YtbnkggbpocaaiaaGreatDoor
open Go.Proofs
structure Sto where
  sizes : List Int
  jr : Jrn
  data : Int
  applied : Int
  pend : List Wr
  img : Img
def stoC (s : Sto) : List CV := [.sl .sh 1 (s.sizes.map ic), .v (.int .i64 s.jr.start), .v (.int .i64 s.jr.count), .v (.int .i64 s.jr.head), .v (.int .i64 s.jr.tail), .v (.int .i64 s.jr.first), .sl .sh 1 (s.jr.sizes.map ic), .v (.int .i64 s.data), .v (.int .i64 s.applied), .sl .sh 3 (s.pend.map wrC), .sl .sh 1 (s.img.map imE)]
@[go_sem, simp] theorem stoC_len (s : Sto) : (stoC s).length = 11 := rfl
@[go_sem, simp] theorem stoC_take (s : Sto) : (stoC s).take 11 = stoC s := rfl
@[go_sem, simp] theorem stoC_drop (s : Sto) : (stoC s).drop 11 = [] := rfl
@[go_sem, simp] theorem stoC_all (s : Sto) : allOne (stoC s) = true := rfl
@[go_sem, simp] theorem stoC_jr (s : Sto) : ((stoC s).drop 1).take 6 = jrC s.jr := rfl
@[go_sem] theorem okL_stoC (i j : Nat) (s : Sto) : okL i j (stoC s) = True := by simp [stoC, go_sem, okL, okV, okE_ints, okE_wrs, okE_ims]
def zsto : Sto := ⟨[], zjr, 0, 0, [], []⟩
def sizeV (sizes : List Int) (n : Int) : Int × Nat :=
  if sizesE sizes ≠ 0 then (0, sizesE sizes) else if n < 20 ∨ 4096 - sumI sizes < n then (0, 2) else (n + sumI sizes, 0)
def fmtV (sizes : List Int) (n : Int) : Sto × List Opn × Nat :=
  if (sizeV sizes n).2 ≠ 0 then (zsto, [], (sizeV sizes n).2)
  else (⟨sizes, (formatJ 0 n).1, n, 0, [], imOf sizes⟩, opW n (List.replicate (sumI sizes).toNat sec0) :: opS :: (formatJ 0 n).2.1, 0)
def chkV (s : Sto) : Nat :=
  if sizesE s.sizes ≠ 0 then sizesE s.sizes
  else if chkJ s.jr = false then 3
  else if s.jr.start ≠ 0 ∨ s.data ≠ s.jr.count ∨ 4096 - sumI s.sizes < s.data then 2
  else if s.applied ≠ s.jr.first - 1 ∨ s.pend.length ≠ s.jr.sizes.length then 3
  else if (apR (imOf s.sizes) s.pend).2.2 ≠ 0 then (apR (imOf s.sizes) s.pend).2.2
  else if imgSz s.img ≠ s.sizes then 22
  else if (apR s.img s.pend).2.2 ≠ 0 ∨ (apR s.img s.pend).1 ≠ s.img then 22 else 0
def writeV (s : Sto) (w : Wr) : Sto × Int × List Opn × Nat :=
  if chkV s ≠ 0 then (zsto, 0, [], chkV s)
  else if fitsS s.sizes w ≠ 0 then (zsto, 0, [], fitsS s.sizes w)
  else if (appJ s.jr 1 (encWrs [w])).2.2 ≠ 0 then (zsto, 0, [], (appJ s.jr 1 (encWrs [w])).2.2)
  else (⟨s.sizes, (appJ s.jr 1 (encWrs [w])).1, s.data, s.applied, s.pend ++ [w], ap1 s.img w⟩, nextJ s.jr, (appJ s.jr 1 (encWrs [w])).2.1, 0)
def relJ (d : Dk) (j : Jrn) (q : Int) : Jrn × List Opn × Nat :=
  if checkD d ≠ 0 then (zjr, [], checkD d) else if chkJ j = false then (zjr, [], 3)
  else if q < j.first - 1 ∨ nextJ j ≤ q then (zjr, [], 2)
  else if q = j.first - 1 then (j, [], 0)
  else
    let n := (q + 1 - j.first).toNat
    let h := (j.head + sumI (j.sizes.take n)) % (j.count - 16)
    if (storeS d j.start (superJ h (q + 1))).2 ≠ 0 then (zjr, [], (storeS d j.start (superJ h (q + 1))).2)
    else (⟨j.start, j.count, h, j.tail, q + 1, j.sizes.drop n⟩, (storeS d j.start (superJ h (q + 1))).1, 0)
def opOf (s : Sto) (w : Wr) : Opn := opW (s.data + sumI (s.sizes.take w.volume.toNat) + w.start) w.data
def flushV (d : Dk) (s : Sto) : Sto × List Opn × Nat :=
  if checkD d ≠ 0 then (zsto, [], checkD d) else if chkV s ≠ 0 then (zsto, [], chkV s)
  else if (d.stable.length : Int) < s.data + sumI s.sizes then (zsto, [], 2)
  else if s.pend.length = 0 then (s, [], 0)
  else if (relJ d s.jr (nextJ s.jr - 1)).2.2 ≠ 0 then (zsto, [], (relJ d s.jr (nextJ s.jr - 1)).2.2)
  else (⟨s.sizes, (relJ d s.jr (nextJ s.jr - 1)).1, s.data, nextJ s.jr - 1, [], s.img⟩, s.pend.map (opOf s) ++ opS :: (relJ d s.jr (nextJ s.jr - 1)).2.1, 0)
end Go.Proofs.YtbnkggbpocaaiaaGreatDoor
namespace Go.Proofs.YtbnkggbpocaaiaaGreatDoor
open Go.Proofs
def SzOk (l : List Int) : Prop := l.length ≤ 1000 ∧ ∀ n ∈ l, 0 ≤ n ∧ n ≤ 4096
theorem SzOk.of {l : List Int} (h : sizesE l = 0) : SzOk l := by
  obtain ⟨h1, h2, h3⟩ := sizesE_0 h
  exact ⟨by omega, fun n hn => by have := h3 n hn; omega⟩
theorem SzOk.take {l : List Int} (h : SzOk l) (k : Nat) : SzOk (l.take k) := ⟨by rw [List.length_take]; have := h.1; omega, fun n hn => h.2 n (List.mem_of_mem_take hn)⟩
theorem SzOk.sum {l : List Int} (h : SzOk l) : ∀ k, 0 ≤ sumI (l.take k) ∧ sumI (l.take k) ≤ 4096 * (min k l.length : Nat)
  | 0 => by simp [sumI]
  | k + 1 => by
    have ih := h.sum k
    by_cases hk : k < l.length
    · rw [List.take_succ_eq_append_getElem hk, sumI_snoc]
      have := h.2 _ (List.getElem_mem hk)
      omega
    · rw [List.take_of_length_le (by omega)] at ih ⊢
      rw [Nat.min_eq_right (by omega)] at ih ⊢
      exact ih
theorem SzOk.sum' {l : List Int} (h : SzOk l) : 0 ≤ sumI l ∧ sumI l ≤ 4096 * (l.length : Int) := by
  have := h.sum l.length
  rw [List.take_length, Nat.min_self] at this
  omega
theorem vsum_cc (H : Hp) (V : List Nat) (tk : Tk) (l : List Int) (h : SzOk l) : CC Tryz.prog 42 [.sl tk 1 (l.map ic)] H V (Pu (ci (sumI l)) H V) := by
  refine CC.of_swp Tryz.func42 rfl (by kernel_rfl) (by rw [Tryz.ntmps42]; exact len_le _ _ rfl) fun hok hokH => ?_
  clear hok
  have hl := h.1
  refine sW ?_
  simp -implicitDefEqProofs [go_sem, args0]
  refine sW ?_
  simp -implicitDefEqProofs [go_sem]
  refine SWp.join (α := Unit) (fun _ => ([(3, ci (sumI l))], H, V)) (fun _ => True) ?_ ?_
  · refine sW ?_
    simp -implicitDefEqProofs [go_sem]
    refine SWp.block ?_
    refine SWp.loop (α := Nat) (fun i => ([(3, ci (sumI (l.take i))), (6, .sl tk 1 (l.map ic)), (7, ci l.length), (8, ci i)], H, V)) (fun i => i ≤ l.length) (fun i => l.length - i) 0 (Nat.zero_le _) (Sh.forget (by simp [go_sem, sumI]) rfl rfl) ?_
    intro i hi
    dsimp only
    refine sW ?_
    simp -implicitDefEqProofs [go_sem]
    refine sW ?_
    simp -implicitDefEqProofs [go_sem]
    refine ⟨fun hi => ?_, fun hi => Sh.forget (by rw [List.take_of_length_le (by omega)]; simp [go_sem]) rfl rfl⟩
    have h1 := h.sum i
    have h2 := h.2 _ (List.getElem_mem hi)
    have hs : sumI (l.take (i + 1)) = sumI (l.take i) + l[i] := by rw [List.take_succ_eq_append_getElem hi, sumI_snoc]
    have w1 : IntKind.i64.wrap (sumI (l.take i) + l[i]) = sumI (l.take i) + l[i] := IntWalk.i64_in _ ⟨by omega, by omega⟩
    have w2 : IntKind.i64.wrap ((i : Int) + 1) = (i : Int) + 1 := IntWalk.i64_in _ ⟨by omega, by omega⟩
    refine SWp.seq (SWp.block (sW ?_))
    simp -implicitDefEqProofs [go_sem, hi]
    refine Wp.s ?_
    simp -implicitDefEqProofs [go_sem, w1]
    refine Wp.s ?_
    simp -implicitDefEqProofs [go_sem, w2]
    refine ⟨i + 1, by omega, by omega, Sh.forget (by rw [hs]; simp [go_sem]) rfl rfl⟩
  rintro _ -
  dsimp only
  refine sW ?_
  simp -implicitDefEqProofs [go_sem]
  refine Wp.s ?_
  simp -implicitDefEqProofs [go_sem]
  exact Fin.pu (.refl _) (by simp [go_sem]) hokH (by simp) (by simp)
theorem vSize_cc (H : Hp) (V : List Nat) (tk : Tk) (l : List Int) (n : Int) (hl : l.length ≤ 9223372036854775807) : CC Tryz.prog 12 [.sl tk 1 (l.map ic), ci n] H V (Pu (.tup [ci (sizeV l n).1, er (sizeV l n).2]) H V) := by
  refine CC.of_swp Tryz.func12 rfl (by kernel_rfl) (by rw [Tryz.ntmps12]; exact len_le _ _ rfl) fun hok hokH => ?_
  clear hok
  have fin : ∀ (x : Int) (e : Nat) (H' : Hp) (V' : List Nat), sizeV l n = (x, e) → H'.take H.length = H → V'.take V.length = V → Fin H.length V.length (Pu (.tup [ci (sizeV l n).1, er (sizeV l n).2]) H V) (.tup [ci x, er e]) H' V' := fun x e H' V' h1 h2 h3 => by
    rw [h1]; exact Fin.pu (.refl _) (by simp [go_sem]) hokH h2 h3
  refine sW ?_
  simp -implicitDefEqProofs [go_sem, args0]
  refine SWp.seq (sW ?_)
  simp -implicitDefEqProofs [go_sem]
  refine CC.mono (New_cc _ _ tk l hl) ?_
  rintro _ _ _ ⟨rfl, rfl, rfl⟩
  simp -implicitDefEqProofs [go_sem]
  refine sW ?_
  by_cases h0 : sizesE l = 0
  case neg =>
    simp -implicitDefEqProofs [go_sem, h0]
    refine Wp.s ?_
    simp -implicitDefEqProofs [go_sem]
    exact fin _ _ _ _ (by rw [sizeV, if_pos h0]) (by simp) (by simp)
  have hz := SzOk.of h0
  have hs := hz.sum'
  have hl8 := (sizesE_0 h0).2.1
  have w1 : IntKind.i64.wrap (4096 - sumI l) = 4096 - sumI l := IntWalk.i64_in _ ⟨by omega, by omega⟩
  simp -implicitDefEqProofs [go_sem, h0]
  refine Wp.s ?_
  simp -implicitDefEqProofs [go_sem]
  refine SWp.seq (sW ?_)
  by_cases h1 : n < 20
  · simp -implicitDefEqProofs [go_sem, h1]
    refine Wp.s ?_
    simp -implicitDefEqProofs [go_sem]
    exact fin _ _ _ _ (by rw [sizeV, if_neg (by simp [h0]), if_pos (.inl h1)]) (by simp) (by simp)
  simp -implicitDefEqProofs [go_sem, h1]
  refine CC.mono (vsum_cc _ _ tk l hz) ?_
  rintro _ _ _ ⟨rfl, rfl, rfl⟩
  by_cases h2 : 4096 - sumI l < n
  · simp -implicitDefEqProofs [go_sem, w1, h2]
    refine Wp.s ?_
    simp -implicitDefEqProofs [go_sem]
    exact fin _ _ _ _ (by rw [sizeV, if_neg (by simp [h0]), if_pos (.inr h2)]) (by simp) (by simp)
  have w2 : IntKind.i64.wrap (n + sumI l) = n + sumI l := IntWalk.i64_in _ ⟨by omega, by omega⟩
  simp -implicitDefEqProofs [go_sem, w1, h2]
  refine Wp.s ?_
  simp -implicitDefEqProofs [go_sem]
  refine sW ?_
  simp -implicitDefEqProofs [go_sem]
  refine CC.mono (vsum_cc _ _ tk l hz) ?_
  rintro _ _ _ ⟨rfl, rfl, rfl⟩
  simp -implicitDefEqProofs [go_sem, w2]
  refine Wp.s ?_
  simp -implicitDefEqProofs [go_sem]
  exact fin _ _ _ _ (by rw [sizeV, if_neg (by simp [h0]), if_neg (by omega)]) (by simp) (by simp)
theorem vsync_cc (H : Hp) (V : List Nat)  : CC Tryz.prog 48 [] H V (Pu (.agg (opC opS)) H V) := by
  refine CC.of_swp Tryz.func48 rfl (by kernel_rfl) (by rw [Tryz.ntmps48]; exact len_le _ _ rfl) fun hok hokH => ?_
  clear hok
  refine sW ?_
  simp -implicitDefEqProofs [go_sem, args0]
  refine sW ?_
  simp -implicitDefEqProofs [go_sem]
  refine Wp.s ?_
  simp -implicitDefEqProofs [go_sem]
  exact Fin.pu (r0 := .agg (opC opS)) (.agg (.cons (.refl _) (.cons (.refl _) (.cons (.nil 8 (by decide)) .nil)))) (by simp [go_sem, okL_opC]) hokH (by simp) (by simp)
theorem operations_cc (H : Hp) (V : List Nat) (t2 : Tk) (a : List Opn) (l : List (List Opn)) (hl : l.length ≤ 1000000) (hf : (catO (a :: l)).length ≤ 1000000000) : CC Tryz.prog 47 [.sl .sh 3 (a.map opC), .sl t2 1 (l.map opE)] H V (Pu (opsV (catO (a :: l))) H V) := by
  refine CC.of_swp Tryz.func47 rfl (by kernel_rfl) (by rw [Tryz.ntmps47]; exact len_le _ _ rfl) fun hok hokH => ?_
  clear hok
  refine sW ?_
  simp -implicitDefEqProofs [go_sem, args0]
  refine sW ?_
  simp -implicitDefEqProofs [go_sem]
  refine ⟨by omega, ?_⟩
  refine CC.mono (concatOp_cc _ _ (.own V.length 0) (a :: l) (by simp; omega) hf) ?_
  rintro _ _ _ ⟨v, rfl, rfl, rfl⟩
  simp -implicitDefEqProofs [go_sem]
  refine Wp.s ?_
  simp -implicitDefEqProofs [go_sem]
  exact Fin.pu (.sh _ _ _) (by simp [go_sem, okE_ops]) hokH (by simp) (by simp)
end Go.Proofs.YtbnkggbpocaaiaaGreatDoor
namespace Go.Proofs.YtbnkggbpocaaiaaGreatDoor
open Go.Proofs
theorem replay_cc (H : Hp) (V : List Nat) (tk : Tk) (l : Img) (ws : List Wr) (hl : l.length ≤ 1000000000) (hn : ws.length ≤ 1000000000) (hw : ∀ w ∈ ws, w.data.length ≤ 1000000000) : CC Tryz.prog 62 [.sl tk 1 (l.map imE), .sl .sh 3 (ws.map wrC)] H V (Pu (.tup [imV (apR l ws).1, er (apR l ws).2.2]) H V) := by
  refine CC.of_swp Tryz.func62 rfl (by kernel_rfl) (by rw [Tryz.ntmps62]; exact len_le _ _ rfl) fun hok hokH => ?_
  clear hok
  refine sW ?_
  simp -implicitDefEqProofs [go_sem, args0]
  refine sW ?_
  simp -implicitDefEqProofs [go_sem]
  refine CC.mono (imApply_cc _ _ tk l ws hl hn hw) ?_
  rintro _ _ _ ⟨rfl, rfl, rfl⟩
  simp -implicitDefEqProofs [go_sem, apV]
  refine Wp.s ?_
  simp -implicitDefEqProofs [go_sem]
  exact Fin.pu (.refl _) (by simp [go_sem, okL, okV]) hokH (by simp) (by simp)
theorem chk1_cc (H : Hp) (V : List Nat) (tk : Tk) (v : List Sec) (n : Int) : CC Tryz.prog 74 [.sl tk 8 (v.map secC), ci n] H V (Pu (cb (decide ((v.length : Int) = n))) H V) := by
  refine CC.of_swp Tryz.func74 rfl (by kernel_rfl) (by rw [Tryz.ntmps74]; exact len_le _ _ rfl) fun hok hokH => ?_
  clear hok
  refine sW ?_
  simp -implicitDefEqProofs [go_sem, args0]
  refine Wp.s ?_
  simp -implicitDefEqProofs [go_sem]
  exact Fin.pu (.refl _) (by simp [go_sem]) hokH (by simp) (by simp)
theorem imgSz_take {x : Img} {s : List Int} {i : Nat} (h : i < x.length) (h2 : i < s.length) (hp : (imgSz x).take i = s.take i) (he : (x[i].length : Int) = s[i]) : (imgSz x).take (i + 1) = s.take (i + 1) := by
  rw [List.take_succ_eq_append_getElem (by rw [imgSz_len]; exact h), List.take_succ_eq_append_getElem h2, hp, ← he]
  simp [imgSz]
theorem eqSz_cc (H : Hp) (V : List Nat) (t1 t2 : Tk) (x : Img) (s : List Int) (hl : x.length ≤ 1000000000) : CC Tryz.prog 73 [.sl t1 1 (x.map imE), .sl t2 1 (s.map ic), .fn 74 []] H V (Pu (cb (decide (imgSz x = s))) H V) := by
  refine CC.of_swp Tryz.func73 rfl (by kernel_rfl) (by rw [Tryz.ntmps73]; exact len_le _ _ rfl) fun hok hokH => ?_
  clear hok
  refine sW ?_
  simp -implicitDefEqProofs [go_sem, args0]
  refine SWp.seq (sW ?_)
  by_cases hlen : x.length = s.length
  case neg =>
    have hlen' : ¬ (x.length : Int) = (s.length : Int) := by omega
    simp -implicitDefEqProofs [go_sem, hlen']
    refine Wp.s ?_
    simp -implicitDefEqProofs [go_sem, hlen, hlen']
    exact Fin.bool (by rw [decide_eq_false]; intro e; exact hlen (by rw [← e, imgSz_len])) hokH (by simp) (by simp)
  simp -implicitDefEqProofs [go_sem, hlen]
  refine Wp.s ?_
  simp -implicitDefEqProofs [go_sem, hlen]
  refine SWp.join (α := Unit) (fun _ => ([], H, V)) (fun _ => imgSz x = s) ?_ ?_
  · refine sW ?_
    simp -implicitDefEqProofs [go_sem]
    refine SWp.block ?_
    refine SWp.loop (α := Nat) (fun i => ([(1, .sl t2 1 (s.map ic)), (2, .fn 74 []), (15, .sl t1 1 (x.map imE)), (16, ci x.length), (17, ci i)], H, V)) (fun i => i ≤ x.length ∧ (imgSz x).take i = s.take i) (fun i => x.length - i) 0 ⟨Nat.zero_le _, rfl⟩ (Sh.forget (by simp [go_sem, hlen]) rfl rfl) ?_
    rintro i ⟨hi, hp⟩
    dsimp only
    refine sW ?_
    simp -implicitDefEqProofs [go_sem]
    refine sW ?_
    simp -implicitDefEqProofs [go_sem]
    refine ⟨fun h => ?_, fun h => ⟨by rwa [List.take_of_length_le (by rw [imgSz_len]; exact h), List.take_of_length_le (by omega)] at hp, Sh.forget (by simp [go_sem]) rfl rfl⟩⟩
    have h2 : i < s.length := by omega
    refine SWp.seq (SWp.block (sW ?_))
    simp -implicitDefEqProofs [go_sem, h]
    refine sW ?_
    simp -implicitDefEqProofs [go_sem, h2]
    refine sW ?_
    simp -implicitDefEqProofs [go_sem]
    refine CC.mono (chk1_cc _ _ .sh x[i] s[i]) ?_
    rintro _ _ _ ⟨rfl, rfl, rfl⟩
    by_cases he : (x[i].length : Int) = s[i]
    · simp -implicitDefEqProofs [go_sem, he]
      refine Wp.s ?_
      simp -implicitDefEqProofs [go_sem]
      refine Wp.s ?_
      simp -implicitDefEqProofs [go_sem]
      refine ⟨i + 1, ⟨by omega, imgSz_take h h2 hp he⟩, by omega, Sh.forget ?_ rfl rfl⟩
      simp [go_sem, wrap_succ (show i ≤ 1000000000 by omega)]
    · simp -implicitDefEqProofs [go_sem, he]
      refine Wp.s ?_
      simp -implicitDefEqProofs [go_sem]
      refine Fin.bool ?_ hokH (by simp) (by simp)
      rw [decide_eq_false]
      intro e
      apply he
      have := congrArg (fun l : List Int => l[i]?) e
      simp only [imgSz, List.getElem?_map, List.getElem?_eq_getElem h, List.getElem?_eq_getElem h2, Option.map_some] at this
      exact Option.some.inj this
  · rintro _ he
    dsimp only
    refine Wp.s ?_
    simp -implicitDefEqProofs [go_sem]
    exact Fin.bool (by simp [he]) hokH (by simp) (by simp)
structure StS (s : Sto) : Prop where
  sl : s.sizes.length ≤ 1000000000
  jl : s.jr.sizes.length ≤ 1000000000
  pl : s.pend.length ≤ 1000000
  pd : ∀ w ∈ s.pend, w.data.length ≤ 1000000
  il : s.img.length ≤ 1000000
  iv : ∀ v ∈ s.img, v.length ≤ 1000000
theorem chkJ_first {j : Jrn} (h : chkJ j = true) : 1 ≤ j.first ∧ j.first ≤ 1073741824 := by
  simp only [chkJ, Bool.and_eq_true, decide_eq_true_eq] at h
  omega
theorem apI_sz : ∀ (ws : List Wr) (l : Img) (i : Nat) {y : Img} {j : Nat}, apI l ws i = (y, j, 0) → imgSz y = imgSz l
  | [], l, i, y, j, h => by rw [apI] at h; cases h; rfl
  | w :: ws, l, i, y, j, h => by
    rw [apI] at h
    split at h
    · rename_i q
      exact absurd (congrArg (fun x => x.2.2) h) q
    · rename_i q
      rw [apI_sz ws _ _ h]
      have := ap1_sz (k := l) (w := w) (by simpa using q)
      have e : ∀ x : Img, imgSz x = (x.map List.length).map (fun n : Nat => (n : Int)) := fun x => by rw [imgSz, List.map_map]; rfl
      rw [e, e, this]
theorem apR_sz {l : Img} {ws : List Wr} (h : (apR l ws).2.2 = 0) : imgSz (apR l ws).1 = imgSz l := by
  unfold apR at h ⊢
  split at h
  · rename_i q; exact absurd h q
  · rename_i q
    rw [if_neg q]
    refine apI_sz ws l 0 (j := (apI l ws 0).2.1) ?_
    generalize apI l ws 0 = z at h ⊢
    obtain ⟨a, b, d⟩ := z
    dsimp only at h ⊢
    rw [h]
theorem img_small {sz : List Int} (hs : sizesE sz = 0) {x : Img} (hx : imgSz x = sz) : x.length ≤ 1000000000 ∧ ∀ v ∈ x, v.length ≤ 1000000000 := by
  obtain ⟨h1, h2⟩ := sizes_pos (l := x) (by rw [hx]; exact hs)
  exact ⟨by omega, fun v hv => by have := (h2 v hv).2; omega⟩
structure ChkA (s : Sto) : Prop where
  j : chkJ s.jr = true
  a : ¬ (s.jr.start ≠ 0 ∨ s.data ≠ s.jr.count ∨ 4096 - sumI s.sizes < s.data)
  b : ¬ (s.applied ≠ s.jr.first - 1 ∨ s.pend.length ≠ s.jr.sizes.length)
set_option maxRecDepth 8000 in
theorem vCheck_cc (H : Hp) (V : List Nat) (s : Sto) (hs : StS s) : CC Tryz.prog 21 [.agg (stoC s)] H V (Pu (er (chkV s)) H V) := by
  refine CC.of_swp Tryz.func21 rfl (by kernel_rfl) (by rw [Tryz.ntmps21]; exact len_le _ _ rfl) fun hok hokH => ?_
  clear hok
  have fin : ∀ (e : Nat) (H' : Hp) (V' : List Nat), chkV s = e → H'.take H.length = H → V'.take V.length = V → Fin H.length V.length (Pu (er (chkV s)) H V) (er e) H' V' := fun e H' V' h1 h2 h3 => Fin.er h1 hokH h2 h3
  refine sW ?_
  simp -implicitDefEqProofs [go_sem, args0]
  refine sW ?_
  simp -implicitDefEqProofs [go_sem, stoC]
  refine CC.mono (New_cc _ _ .sh s.sizes (by have := hs.sl; omega)) ?_
  rintro _ _ _ ⟨rfl, rfl, rfl⟩
  simp -implicitDefEqProofs [go_sem]
  refine SWp.seq (sW ?_)
  by_cases h0 : sizesE s.sizes = 0
  case neg =>
    simp -implicitDefEqProofs [go_sem, h0]
    refine Wp.s ?_
    simp -implicitDefEqProofs [go_sem]
    exact fin _ _ _ (by rw [chkV, if_pos h0]) (by simp) (by simp)
  have hz := SzOk.of h0
  have hsm := hz.sum'
  have hl8 := (sizesE_0 h0).2.1
  simp -implicitDefEqProofs [go_sem, h0]
  refine Wp.s ?_
  simp -implicitDefEqProofs [go_sem]
  refine sW ?_
  simp -implicitDefEqProofs [go_sem]
  refine SWp.join (α := Unit) (fun _ => ([(1, .ptr H.length 0), (3, imV (imOf s.sizes))], H ++ [some (stoC s), some (jrC s.jr)], V)) (fun _ => ChkA s) ?_ ?_
  · refine SWp.block (sW ?_)
    simp -implicitDefEqProofs [go_sem]
    refine CC.mono (JCheck_cc _ _ s.jr hs.jl) ?_
    rintro _ _ _ ⟨rfl, rfl, rfl⟩
    by_cases hJ : chkJ s.jr = true
    case neg =>
      have hJ' : chkJ s.jr = false := by simpa using hJ
      simp -implicitDefEqProofs [go_sem, ckE, hJ']
      refine Wp.s ?_
      simp -implicitDefEqProofs [go_sem]
      exact fin _ _ _ (by rw [chkV, if_neg (by simp [h0]), if_pos hJ']) (by simp) (by simp)
    have e1 : chkV s = if s.jr.start ≠ 0 ∨ s.data ≠ s.jr.count ∨ 4096 - sumI s.sizes < s.data then 2
        else if s.applied ≠ s.jr.first - 1 ∨ s.pend.length ≠ s.jr.sizes.length then 3
        else if (apR (imOf s.sizes) s.pend).2.2 ≠ 0 then (apR (imOf s.sizes) s.pend).2.2
        else if imgSz s.img ≠ s.sizes then 22
        else if (apR s.img s.pend).2.2 ≠ 0 ∨ (apR s.img s.pend).1 ≠ s.img then 22 else 0 := by
      rw [chkV, if_neg (by simp [h0]), if_neg (by simp [hJ])]
    have hfi := chkJ_first hJ
    simp -implicitDefEqProofs [go_sem, ckE, hJ]
    refine SWp.condF (by simp [go_sem]) ?_
    refine SWp.seq (SWp.drawnT [] [] (.s 0 .pl <| .s 1 .pl <| .s 2 .pl <| .s 3 .pl <| .s 4 .pl <| .s 5 .pl <| .s 6 .pl <| .s 7 .pl <| .s 8 .pl <| .s 9 .pl <| .s 10 .pl <| .s 11 .pl <| .s 12 .pl <| .s 13 .pl <| .s 14 .pl <| .s 15 .pl <| .s 16 .pl <| .s 17 .pl <| .s 18 .pl <| .s 19 .pl <| .s 20 .pl <| .s 21 .pl <| .n) (by kernel_rfl) (by kernel_rfl) ?_)
    have w1 : IntKind.i64.wrap (4096 - sumI s.sizes) = 4096 - sumI s.sizes := IntWalk.i64_in _ ⟨by omega, by omega⟩
    have w2 : IntKind.i64.wrap (s.jr.first - 1) = s.jr.first - 1 := IntWalk.i64_in _ ⟨by omega, by omega⟩
    by_cases c1 : s.jr.start = 0
    case neg =>
      simp -implicitDefEqProofs [go_sem, c1]
      refine Wp.s ?_
      simp -implicitDefEqProofs [go_sem]
      exact fin _ _ _ (by rw [e1, if_pos (.inl c1)]) (by simp) (by simp)
    by_cases c2 : s.data = s.jr.count
    case neg =>
      simp -implicitDefEqProofs [go_sem, c1, c2]
      refine Wp.s ?_
      simp -implicitDefEqProofs [go_sem]
      exact fin _ _ _ (by rw [e1, if_pos (.inr (.inl c2))]) (by simp) (by simp)
    simp -implicitDefEqProofs [go_sem, c1, c2]
    refine CC.mono (vsum_cc _ _ .sh s.sizes hz) ?_
    rintro _ _ _ ⟨rfl, rfl, rfl⟩
    by_cases c3 : 4096 - sumI s.sizes < s.jr.count
    · simp -implicitDefEqProofs [go_sem, w1, c3]
      refine Wp.s ?_
      simp -implicitDefEqProofs [go_sem]
      exact fin _ _ _ (by rw [e1, if_pos (.inr (.inr (by rw [c2]; exact c3)))]) (by simp) (by simp)
    simp -implicitDefEqProofs [go_sem, w1, c3]
    refine SWp.condF (by simp [go_sem]) ?_
    have hb1 : ¬ (s.jr.start ≠ 0 ∨ s.data ≠ s.jr.count ∨ 4096 - sumI s.sizes < s.data) := by
      rintro (q | q | q)
      · exact q c1
      · exact q c2
      · rw [c2] at q; exact c3 q
    rw [if_neg hb1] at e1
    refine sW ?_
    by_cases c4 : s.applied = s.jr.first - 1
    case neg =>
      simp -implicitDefEqProofs [go_sem, w2, c4]
      refine Wp.s ?_
      simp -implicitDefEqProofs [go_sem]
      exact fin _ _ _ (by rw [e1, if_pos (.inl c4)]) (by simp) (by simp)
    by_cases c5 : s.pend.length = s.jr.sizes.length
    case neg =>
      have c5' : ¬ (s.pend.length : Int) = (s.jr.sizes.length : Int) := by omega
      simp -implicitDefEqProofs [go_sem, w2, c4, c5, c5']
      refine Wp.s ?_
      simp -implicitDefEqProofs [go_sem]
      exact fin _ _ _ (by rw [e1, if_pos (.inr c5)]) (by simp) (by simp)
    simp -implicitDefEqProofs [go_sem, w2, c4, c5]
    refine Wp.s ?_
    simp -implicitDefEqProofs [go_sem]
    exact ⟨⟨hJ, hb1, by rintro (q | q); exact q c4; exact q c5⟩, Sh.forget (by simp [go_sem]) (by rw [stoC, jrC, c1, c2, c4]) rfl⟩
  rintro _ ⟨hJ, hb1, hb2⟩
  dsimp only
  have e1 : chkV s = if (apR (imOf s.sizes) s.pend).2.2 ≠ 0 then (apR (imOf s.sizes) s.pend).2.2
        else if imgSz s.img ≠ s.sizes then 22
        else if (apR s.img s.pend).2.2 ≠ 0 ∨ (apR s.img s.pend).1 ≠ s.img then 22 else 0 := by
    rw [chkV, if_neg (by simp [h0]), if_neg (by simp [hJ]), if_neg hb1, if_neg hb2]
  refine SWp.seq (sW ?_)
  simp -implicitDefEqProofs [go_sem, stoC]
  refine CC.mono (replay_cc _ _ .sh (imOf s.sizes) s.pend (by rw [imOf_len]; omega) (by have := hs.pl; omega) (fun w hw => by have := hs.pd w hw; omega)) ?_
  rintro _ _ _ ⟨rfl, rfl, rfl⟩
  simp -implicitDefEqProofs [go_sem]
  refine sW ?_
  by_cases h1 : (apR (imOf s.sizes) s.pend).2.2 = 0
  case neg =>
    have h1' : ¬ (((apR (imOf s.sizes) s.pend).2.2 : Nat) : Int) = 0 := by omega
    simp -implicitDefEqProofs [go_sem, h1, h1']
    refine Wp.s ?_
    simp -implicitDefEqProofs [go_sem]
    exact fin _ _ _ (by rw [e1, if_pos h1]) (by simp) (by simp)
  rw [if_neg (by simp [h1])] at e1
  simp -implicitDefEqProofs [go_sem, h1]
  refine Wp.s ?_
  simp -implicitDefEqProofs [go_sem]
  refine SWp.seq (sW ?_)
  simp -implicitDefEqProofs [go_sem, stoC]
  refine CC.mono (eqSz_cc _ _ .sh .sh s.img s.sizes (by have := hs.il; omega)) ?_
  rintro _ _ _ ⟨rfl, rfl, rfl⟩
  by_cases h2 : imgSz s.img = s.sizes
  case neg =>
    simp -implicitDefEqProofs [go_sem, h2]
    refine Wp.s ?_
    simp -implicitDefEqProofs [go_sem]
    exact fin _ _ _ (by rw [e1, if_pos h2]) (by simp) (by simp)
  rw [if_neg (by simp [h2])] at e1
  simp -implicitDefEqProofs [go_sem, h2]
  refine Wp.s ?_
  simp -implicitDefEqProofs [go_sem]
  refine SWp.seq (sW ?_)
  simp -implicitDefEqProofs [go_sem, stoC]
  refine CC.mono (replay_cc _ _ .sh s.img s.pend (by have := hs.il; omega) (by have := hs.pl; omega) (fun w hw => by have := hs.pd w hw; omega)) ?_
  rintro _ _ _ ⟨rfl, rfl, rfl⟩
  simp -implicitDefEqProofs [go_sem]
  refine sW ?_
  by_cases h3 : (apR s.img s.pend).2.2 = 0
  case neg =>
    have h3' : ¬ (((apR s.img s.pend).2.2 : Nat) : Int) = 0 := by omega
    simp -implicitDefEqProofs [go_sem, h3, h3']
    refine Wp.s ?_
    simp -implicitDefEqProofs [go_sem]
    exact fin _ _ _ (by rw [e1, if_pos (.inl h3)]) (by simp) (by simp)
  simp -implicitDefEqProofs [go_sem, h3, stoC]
  obtain ⟨i1, i2⟩ := img_small h0 ((apR_sz h3).trans h2)
  refine CC.mono (imSame_cc _ _ .sh .sh (apR s.img s.pend).1 s.img i1 i2) ?_
  rintro _ _ _ ⟨rfl, rfl, rfl⟩
  by_cases h4 : (apR s.img s.pend).1 = s.img
  case neg =>
    simp -implicitDefEqProofs [go_sem, h4]
    refine Wp.s ?_
    simp -implicitDefEqProofs [go_sem]
    exact fin _ _ _ (by rw [e1, if_pos (.inr h4)]) (by simp) (by simp)
  simp -implicitDefEqProofs [go_sem, h4]
  refine Wp.s ?_
  simp -implicitDefEqProofs [go_sem]
  refine sW ?_
  simp -implicitDefEqProofs [go_sem]
  refine Wp.s ?_
  simp -implicitDefEqProofs [go_sem]
  exact fin _ _ _ (by rw [e1, if_neg (by rintro (q | q); exact q h3; exact q h4)]) (by simp) (by simp)
end Go.Proofs.YtbnkggbpocaaiaaGreatDoor
namespace Go.Proofs.YtbnkggbpocaaiaaGreatDoor
open Go.Proofs
theorem vcloneInt_cc (H : Hp) (V : List Nat) (tk : Tk) (xs : List Int) (hx : xs.length ≤ 1000000000) : CC Tryz.prog 46 [.sl tk 1 (xs.map ic)] H V (Pu (.sl .sh 1 (xs.map ic)) H V) := by
  refine CC.of_swp Tryz.func46 rfl (by kernel_rfl) (by rw [Tryz.ntmps46]; exact len_le _ _ rfl) fun hok hokH => Wp.s ?_
  simp -implicitDefEqProofs [go_sem, args0]
  refine ⟨⟨by omega, ?_⟩, fun h => ?_⟩
  · exact Fin.pu (.sh ..) (by simp [go_sem, okE_ints]) hokH (by simp) (by simp)
  · obtain rfl : xs = [] := by simpa using h
    exact Fin.pu (.nil 1 (by decide)) (by simp [go_sem]) hokH (by simp) (by simp)
theorem vcloneSec_cc (H : Hp) (V : List Nat) (tk : Tk) (xs : List Sec) (hx : xs.length ≤ 1000000000) : CC Tryz.prog 122 [.sl tk 8 (xs.map secC)] H V (Pu (secsV xs) H V) := by
  refine CC.of_swp Tryz.func122 rfl (by kernel_rfl) (by rw [Tryz.ntmps122]; exact len_le _ _ rfl) fun hok hokH => Wp.s ?_
  simp -implicitDefEqProofs [go_sem, args0]
  refine ⟨⟨by omega, ?_⟩, fun h => ?_⟩
  · exact Fin.pu (.sh ..) (by simp [go_sem, okE_secs]) hokH (by simp) (by simp)
  · obtain rfl : xs = [] := by simpa using h
    exact Fin.pu (.nil 8 (by decide)) (by simp [go_sem]) hokH (by simp) (by simp)
def wrU (l : List Wr) (i : Nat) : List (List CV) := (l.take i).map wrC
theorem wrU_len (l : List Wr) (i : Nat) (h : i ≤ l.length) : (wrU l i).length = i := by rw [wrU, List.length_map, List.length_take]; omega
@[go_sem] theorem wrU_0 (l : List Wr) : wrU l 0 = [] := rfl
theorem wrU_s {l : List Wr} {i : Nat} (h : i < l.length) : wrU l (i + 1) = wrU l i ++ [wrC l[i]] := by
  rw [wrU, List.take_succ_eq_append_getElem h, List.map_append]; rfl
@[go_sem] theorem wrU_all (l : List Wr) : wrU l l.length = l.map wrC := by rw [wrU, List.take_length]
@[go_sem] theorem okE_wrU (i j : Nat) (l : List Wr) (k : Nat) : okE i j (wrU l k) = True := by rw [wrU, okE_wrs]
theorem wr_put2' (w : Wr) : List.take 3 (List.take 2 (wrC w) ++ CV.sl Tk.sh 8 (List.map secC w.data) :: List.drop 3 (wrC w)) = wrC w := rfl
theorem ownWrites_cc (H : Hp) (V : List Nat) (tk : Tk) (l : List Wr) (h1 : l.length ≤ 1000000) (h2 : ∀ w ∈ l, w.data.length ≤ 1000000) : CC Tryz.prog 64 [.sl .sh 3 (l.map wrC)] H V (Fr 3 (l.map wrC) H V) := by
  refine CC.of_swp Tryz.func64 rfl (by kernel_rfl) (by rw [Tryz.ntmps64]; exact len_le _ _ rfl) fun hok hokH => ?_
  clear hok
  refine sW ?_
  simp -implicitDefEqProofs [go_sem, args0]
  refine sW ?_
  simp -implicitDefEqProofs [go_sem]
  refine SWp.join (α := Unit) (fun _ => ([(3, .sl (.own V.length l.length) 3 (l.map wrC))], H, V ++ [l.length])) (fun _ => True) ?_ ?_
  · refine sW ?_
    simp -implicitDefEqProofs [go_sem]
    refine SWp.block ?_
    refine SWp.loop (α := Nat) (fun i => ([(3, .sl (.own V.length i) 3 (wrU l i)), (6, .sl .sh 3 (l.map wrC)), (7, ci l.length), (8, ci i)], H, V ++ [i])) (fun i => i ≤ l.length) (fun i => l.length - i) 0 (Nat.zero_le _) (Sh.tokT (by simp [go_sem]) rfl rfl) ?_
    intro i hi
    dsimp only
    refine sW ?_
    simp -implicitDefEqProofs [go_sem]
    refine sW ?_
    simp -implicitDefEqProofs [go_sem]
    refine ⟨fun h => ?_, fun h => ?_⟩
    case refine_2 =>
      obtain rfl : i = l.length := by omega
      exact Sh.forget (by simp [go_sem]) rfl rfl
    have hw := h2 _ (List.getElem_mem h)
    refine SWp.seq (SWp.block (sW ?_))
    simp -implicitDefEqProofs [go_sem, h]
    refine sW ?_
    simp -implicitDefEqProofs [go_sem]
    refine CC.mono (vcloneSec_cc _ _ .sh l[i].data (by omega)) ?_
    rintro _ _ _ ⟨rfl, rfl, rfl⟩
    simp -implicitDefEqProofs [go_sem]
    refine Wp.s ?_
    simp -implicitDefEqProofs [go_sem, wrU_len _ _ hi]
    refine ⟨rfl, by omega, ?_⟩
    have w2 : IntKind.i64.wrap ((i : Int) + 1) = (i : Int) + 1 := IntWalk.i64_in _ ⟨by omega, by omega⟩
    refine Wp.s ?_
    simp -implicitDefEqProofs [go_sem, w2]
    refine ⟨i + 1, by omega, by omega, Sh.cut H.length (V.length + 1) (by simp [go_sem, wrU_s h, wr_put2']) (Nat.le_refl _) (by omega) (TOk.all (by simp [go_sem])) (fun b cs hb => okL_mono (Nat.le_refl _) (by omega) (hokH b cs hb)) (by simp) (by simp)⟩
  · rintro _ -
    dsimp only
    refine sW ?_
    simp -implicitDefEqProofs [go_sem]
    refine Wp.s ?_
    simp -implicitDefEqProofs [go_sem]
    exact Fin.fresh rfl (by simp [go_sem, okE_wrs]) hokH (by simp)
def zstC : List CV := [.v (.slice none 0 0), .v (.int .i64 0), .v (.int .i64 0), .v (.int .i64 0), .v (.int .i64 0), .v (.int .i64 0), .v (.slice none 0 0), .v (.int .i64 0), .v (.int .i64 0), .v (.slice none 0 0), .v (.slice none 0 0)]
@[go_sem, simp] theorem zstC_len : zstC.length = 11 := rfl
def stoT (s : Sto) (pv : CV) : List CV := [.sl .sh 1 (s.sizes.map ic), .v (.int .i64 s.jr.start), .v (.int .i64 s.jr.count), .v (.int .i64 s.jr.head), .v (.int .i64 s.jr.tail), .v (.int .i64 s.jr.first), .sl .sh 1 (s.jr.sizes.map ic), .v (.int .i64 s.data), .v (.int .i64 s.applied), pv, .sl .sh 1 (s.img.map imE)]
def OwnR (s : Sto) (H : Hp) (V : List Nat) : CV → Hp → List Nat → Prop := fun r H' V' => ∃ k v, r = .agg (stoT s (.sl (.own k v) 3 (s.pend.map wrC))) ∧ H = H' ∧ V'.take V.length = V ∧ V'[k]? = some v ∧ V.length ≤ k
def imU (l : Img) (i : Nat) : List (List CV) := (l.take i).map imE
theorem imU_len (l : Img) (i : Nat) (h : i ≤ l.length) : (imU l i).length = i := by rw [imU, List.length_map, List.length_take]; omega
@[go_sem] theorem imU_0 (l : Img) : imU l 0 = [] := rfl
theorem imU_s {l : Img} {i : Nat} (h : i < l.length) : imU l (i + 1) = imU l i ++ [imE l[i]] := by
  rw [imU, List.take_succ_eq_append_getElem h, List.map_append]; rfl
@[go_sem] theorem imU_all (l : Img) : imU l l.length = l.map imE := by rw [imU, List.take_length]
@[go_sem] theorem okE_imU (i j : Nat) (l : Img) (k : Nat) : okE i j (imU l k) = True := by rw [imU, okE_ims]
set_option maxRecDepth 8000 in
theorem vown_cc (H : Hp) (V : List Nat) (s : Sto) (hs : StS s) : CC Tryz.prog 63 [.agg (stoC s)] H V (OwnR s H V) := by
  refine CC.of_swp Tryz.func63 rfl (by kernel_rfl) (by rw [Tryz.ntmps63]; exact len_le _ _ rfl) fun hok hokH => ?_
  clear hok
  refine sW ?_
  simp -implicitDefEqProofs [go_sem, args0]
  refine sW ?_
  simp -implicitDefEqProofs [go_sem]
  refine SWp.join (α := Unit) (fun _ => ([(1, .ptr H.length 0), (2, .ptr (H.length + 1) 0), (3, .sl (.own V.length s.img.length) 1 (s.img.map imE))], H ++ [some (stoC s), some zstC], V ++ [s.img.length])) (fun _ => True) ?_ ?_
  · refine sW ?_
    simp -implicitDefEqProofs [go_sem, stoC]
    refine SWp.block ?_
    refine SWp.loop (α := Nat) (fun i => ([(1, .ptr H.length 0), (2, .ptr (H.length + 1) 0), (3, .sl (.own V.length i) 1 (imU s.img i)), (7, .sl .sh 1 (s.img.map imE)), (8, ci s.img.length), (9, ci i)], H ++ [some (stoC s), some zstC], V ++ [i])) (fun i => i ≤ s.img.length) (fun i => s.img.length - i) 0 (Nat.zero_le _) ?_ ?_
    · exact Sh.tokT (by simp [go_sem]) (by simp [stoC, zstC]) rfl
    intro i hi
    dsimp only
    refine sW ?_
    simp -implicitDefEqProofs [go_sem]
    refine sW ?_
    simp -implicitDefEqProofs [go_sem]
    refine ⟨fun h => ?_, fun h => ?_⟩
    case refine_2 =>
      obtain rfl : i = s.img.length := by omega
      exact Sh.forget (by simp [go_sem]) rfl rfl
    have hv := hs.iv _ (List.getElem_mem h)
    have hil := hs.il
    refine SWp.seq (SWp.block (sW ?_))
    simp -implicitDefEqProofs [go_sem, h]
    refine Wp.s ?_
    simp -implicitDefEqProofs [go_sem]
    refine CC.mono (vcloneSec_cc _ _ .sh s.img[i] (by omega)) ?_
    rintro _ _ _ ⟨rfl, rfl, rfl⟩
    simp -implicitDefEqProofs [go_sem, imU_len _ _ hi]
    refine ⟨by omega, ?_⟩
    have w2 : IntKind.i64.wrap ((i : Int) + 1) = (i : Int) + 1 := IntWalk.i64_in _ ⟨by omega, by omega⟩
    refine Wp.s ?_
    simp -implicitDefEqProofs [go_sem, w2]
    exact ⟨i + 1, by omega, by omega, Sh.forget (by simp [go_sem, imU_s h, imE]) rfl (by simp)⟩
  rintro _ -
  dsimp only
  refine SWp.seq (SWp.drawnT [] [8, 10, 12] (.s 0 .pl <| .s 1 .pl <| .s 3 .pl <| .s 4 .pl <| .s 5 .pl <| .s 2 .pl <| .s 7 .pl <| .s 6 .pl <| .s 8 .st <| .s 9 .pl <| .s 10 .st <| .s 11 .pl <| .s 12 .st <| .n) (by kernel_rfl) (by kernel_rfl) ?_)
  simp -implicitDefEqProofs [go_sem, stoC]
  refine CC.mono (vcloneInt_cc _ _ .sh s.sizes hs.sl) ?_
  rintro _ _ _ ⟨rfl, rfl, rfl⟩
  simp -implicitDefEqProofs [go_sem]
  refine CC.mono (ownWrites_cc _ _ .sh s.pend hs.pl hs.pd) ?_
  rintro _ _ _ ⟨v, rfl, rfl, rfl⟩
  simp -implicitDefEqProofs [go_sem]
  refine sW ?_
  simp -implicitDefEqProofs [go_sem]
  refine CC.mono (vcloneInt_cc _ _ .sh s.jr.sizes hs.jl) ?_
  rintro _ _ _ ⟨rfl, rfl, rfl⟩
  simp -implicitDefEqProofs [go_sem]
  refine sW ?_
  simp -implicitDefEqProofs [go_sem]
  refine Wp.s ?_
  simp -implicitDefEqProofs [go_sem]
  refine Fin.cut H.length (V.length + 2) (H'' := H) (V'' := V ++ [s.img.length, v]) (r' := .agg (stoT s (.sl (.own (V.length + 1) v) 3 (s.pend.map wrC)))) ⟨V.length + 1, v, rfl, rfl, by simp, by simp, by omega⟩ (Nat.le_refl _) (by omega) (by simp) (by simp) ?_ ?_ fun b cs hb => okL_mono (Nat.le_refl _) (by omega) (hokH b cs hb)
  · exact .agg (.cons (.refl _) (.cons (.refl _) (.cons (.refl _) (.cons (.refl _) (.cons (.refl _) (.cons (.refl _) (.cons (.refl _) (.cons (.refl _) (.cons (.refl _) (.cons (.refl _) (.cons (.sh _ _ _) .nil)))))))))))
  · simp [stoT, go_sem, okL, okV, okTk, okE_ints, okE_wrs, okE_ims]
end Go.Proofs.YtbnkggbpocaaiaaGreatDoor
namespace Go.Proofs.YtbnkggbpocaaiaaGreatDoor
open Go.Proofs
theorem vPutWrites_cc (H : Hp) (V : List Nat) (tk tk' : Tk) (l : List UInt8) (xs : List Wr) (hx : xs.length ≤ 900000000) (hl : l.length + (encWrs xs).length ≤ 900000000) :
    CC Tryz.prog 61 [.sl tk 1 (bs l), .sl tk' 3 (xs.map wrC)] H V (Pu (.sl .sh 1 (bs (l ++ encWrs xs))) H V) := by
  refine CC.of_swp Tryz.func61 rfl (by kernel_rfl) (by rw [Tryz.ntmps61]; exact len_le _ _ rfl) fun hok hokH => Wp.s ?_
  simp -implicitDefEqProofs [go_sem, args0]
  refine CC.mono (clone_cc _ _ _ _ (by simp only [bs_len]; omega)) ?_
  rintro _ _ _ ⟨v, rfl, rfl, rfl⟩
  try simp -implicitDefEqProofs [go_sem]
  refine CC.mono (putWrites_cc _ _ _ _ _ _ _ (by simp) hx hl) ?_
  rintro _ _ _ ⟨v', rfl, rfl, rfl⟩
  simp -implicitDefEqProofs [go_sem]
  exact Fin.pu (.sh _ _ _) (by simp [go_sem]) hokH (by simp) (by simp)
structure StOk (s : Sto) : Prop where
  sz : sizesE s.sizes = 0
  A : ChkA s
  e1 : (apR (imOf s.sizes) s.pend).2.2 = 0
  im : imgSz s.img = s.sizes
  e2 : (apR s.img s.pend).2.2 = 0
  e3 : (apR s.img s.pend).1 = s.img
theorem chkV_ok {s : Sto} (h : chkV s = 0) : StOk s := by
  unfold chkV at h
  split at h
  · rename_i q; exact absurd h q
  rename_i q0
  split at h
  · cases h
  rename_i q1
  split at h
  · cases h
  rename_i q2
  split at h
  · cases h
  rename_i q3
  split at h
  · rename_i q; exact absurd h q
  rename_i q4
  split at h
  · cases h
  rename_i q5
  split at h
  · cases h
  rename_i q6
  exact ⟨by simpa using q0, ⟨by simpa using q1, q2, q3⟩, by simpa using q4, by simpa using q5, Classical.byContradiction fun e => q6 (.inl e), Classical.byContradiction fun e => q6 (.inr e)⟩
theorem apR_one {l : Img} {w : Wr} (h : sizesE (imgSz l) = 0) (hf : fitsS (imgSz l) w = 0) : apR l [w] = (ap1 l w, 0, 0) := by
  rw [apR, if_neg (by simp [h]), apI, if_neg (by simp [hf]), apI]
def wtV (x : Sto × Int × List Opn × Nat) : CV := .tup [.agg (stoC x.1), ci x.2.1, opsV x.2.2.1, er x.2.2.2]
theorem okV_wtV (i j : Nat) (x : Sto × Int × List Opn × Nat) : okV i j (wtV x) := by
  rw [wtV]; simp [go_sem, okL, okV, okL_stoC, okE_ops]
theorem zsto_le : LeL zstC (stoC zsto) := .cons (.nil 1 (by decide)) (.cons (.refl _) (.cons (.refl _) (.cons (.refl _) (.cons (.refl _) (.cons (.refl _) (.cons (.nil 1 (by decide)) (.cons (.refl _) (.cons (.refl _) (.cons (.nil 3 (by decide)) (.cons (.nil 1 (by decide)) .nil))))))))))
theorem nxJ_ok {j : Jrn} (h : chkJ j = true) : nxJ j = nextJ j := by rw [nxJ, if_pos h]
theorem encW_le {w : Wr} (h : w.data.length ≤ 1000000) : (encWrs [w]).length ≤ 900000000 := by
  have h1 := enc_len ([w].length : Int)
  have h2 := enc_len w.volume
  have h3 := enc_len w.start
  have h4 := enc_len (w.data.length : Int)
  have h5 := encSecs_len w.data
  rw [encWrs, List.length_append, List.flatMap_cons, List.flatMap_nil, List.append_nil, encWr, List.length_append, List.length_append]
  omega
set_option maxRecDepth 8000 in
set_option maxHeartbeats 1600000 in
theorem vWrite_cc (H : Hp) (V : List Nat) (s : Sto) (w : Wr) (hs : StS s) (hw : w.data.length ≤ 1000000) : CC Tryz.prog 19 [.agg (stoC s), .agg (wrC w)] H V (Pu (wtV (writeV s w)) H V) := by
  refine CC.of_swp Tryz.func19 rfl (by kernel_rfl) (by rw [Tryz.ntmps19]; exact len_le _ _ rfl) fun hok hokH => ?_
  clear hok
  have bad : ∀ (e : Nat) (H' : Hp) (V' : List Nat), writeV s w = (zsto, 0, [], e) → H'.take H.length = H → V'.take V.length = V → Fin H.length V.length (Pu (wtV (writeV s w)) H V) (.tup [.agg zstC, ci 0, .v (.slice none 0 0), er e]) H' V' := fun e H' V' h1 h2 h3 => by
    rw [h1]
    exact Fin.pu (.tup (.cons (.agg zsto_le) (.cons (.refl _) (.cons (.nil 3 (by decide)) (.cons (.refl _) .nil))))) (okV_wtV _ _ _) hokH h2 h3
  refine sW ?_
  simp -implicitDefEqProofs [go_sem, args0]
  refine SWp.seq (sW ?_)
  simp -implicitDefEqProofs [go_sem]
  refine CC.mono (vCheck_cc _ _ s hs) ?_
  rintro _ _ _ ⟨rfl, rfl, rfl⟩
  simp -implicitDefEqProofs [go_sem]
  refine sW ?_
  by_cases h0 : chkV s = 0
  case neg =>
    simp -implicitDefEqProofs [go_sem, h0]
    refine Wp.s ?_
    simp -implicitDefEqProofs [go_sem]
    exact bad _ _ _ (by rw [writeV, if_pos h0]) (by simp) (by simp)
  have hok := chkV_ok h0
  simp -implicitDefEqProofs [go_sem, h0]
  refine Wp.s ?_
  simp -implicitDefEqProofs [go_sem]
  refine SWp.seq (sW ?_)
  simp -implicitDefEqProofs [go_sem, stoC]
  refine CC.mono (Fits_cc _ _ .sh s.img w (by have := hs.il; omega) (fun v hv => by have := hs.iv v hv; omega) (by omega)) ?_
  rintro _ _ _ ⟨rfl, rfl, rfl⟩
  have hfi : fitsI s.img w = fitsS s.sizes w := by rw [fitsI, hok.im, if_neg (by simp [hok.sz])]
  rw [hfi]
  simp -implicitDefEqProofs [go_sem]
  refine sW ?_
  by_cases h1 : fitsS s.sizes w = 0
  case neg =>
    simp -implicitDefEqProofs [go_sem, h1]
    refine Wp.s ?_
    simp -implicitDefEqProofs [go_sem]
    exact bad _ _ _ (by rw [writeV, if_neg (by simp [h0]), if_pos h1]) (by simp) (by simp)
  simp -implicitDefEqProofs [go_sem, h1]
  refine Wp.s ?_
  simp -implicitDefEqProofs [go_sem]
  have hJ := hok.A.j
  refine sW ?_
  simp -implicitDefEqProofs [go_sem, stoC]
  refine CC.mono (JNext_cc _ _ s.jr hs.jl) ?_
  rintro _ _ _ ⟨rfl, rfl, rfl⟩
  rw [nxJ_ok hJ]
  simp -implicitDefEqProofs [go_sem]
  refine SWp.seq (SWp.drawnT [] [11] (.s 0 .pl <| .s 1 .pl <| .s 2 .pl <| .s 3 .pl <| .c 4 <| .c 5 <| .s 6 .pl <| .s 7 .pl <| .s 8 .pl <| .s 9 .pl <| .s 10 .pl <| .s 11 .st <| .s 12 .pl <| .s 13 .pl <| .n) (by kernel_rfl) (by kernel_rfl) ?_)
  simp -implicitDefEqProofs [go_sem, stoC]
  have hel : (encWrs [w]).length ≤ 900000000 := encW_le hw
  refine ⟨_, fun H V => CC.le (ys := [.sl .sh 1 (bs []), .sl .ti 3 ([w].map wrC)]) (.cons (.nil 1 (by decide)) (.cons (.refl _) .nil)) (vPutWrites_cc H V .sh .ti [] [w] (by simp) (by simpa using hel)), ?_⟩
  rw [List.nil_append]
  simp -implicitDefEqProofs [go_sem]
  refine ⟨_, fun H V => Append_cc H V s.jr 1 (encWrs [w]) hs.jl hel, ?_⟩
  simp -implicitDefEqProofs [go_sem, jtV]
  have hwv : writeV s w = if (appJ s.jr 1 (encWrs [w])).2.2 ≠ 0 then (zsto, 0, [], (appJ s.jr 1 (encWrs [w])).2.2) else (⟨s.sizes, (appJ s.jr 1 (encWrs [w])).1, s.data, s.applied, s.pend ++ [w], ap1 s.img w⟩, nextJ s.jr, (appJ s.jr 1 (encWrs [w])).2.1, 0) := by
    rw [writeV, if_neg (by simp [h0]), if_neg (by simp [h1])]
  generalize appJ s.jr 1 (encWrs [w]) = x at hwv ⊢
  obtain ⟨j, A, e⟩ := x
  dsimp only at hwv ⊢
  refine SWp.seq (sW ?_)
  by_cases he : e = 0
  case neg =>
    have he' : ¬ (e : Int) = 0 := by omega
    simp -implicitDefEqProofs [go_sem, he, he']
    refine Wp.s ?_
    simp -implicitDefEqProofs [go_sem]
    exact bad _ _ _ (by rw [hwv, if_pos he]) (by simp) (by simp)
  subst he
  rw [if_neg (by simp)] at hwv
  simp -implicitDefEqProofs [go_sem]
  refine Wp.s ?_
  simp -implicitDefEqProofs [go_sem]
  refine sW ?_
  simp -implicitDefEqProofs [go_sem, stoC]
  refine CC.le (ys := [.sl .sh 1 (s.img.map imE), .sl .sh 3 ([w].map wrC)]) (.cons (.refl _) (.cons (.sh _ _ _) .nil)) ?_
  have hw1 : ∀ x ∈ [w], x.data.length ≤ 1000000000 := fun x hx => by
    rw [List.mem_singleton] at hx; subst hx; omega
  refine CC.mono (replay_cc _ _ .sh s.img [w] (by have := hs.il; omega) (by simp) hw1) ?_
  rintro _ _ _ ⟨rfl, rfl, rfl⟩
  rw [apR_one (by rw [hok.im]; exact hok.sz) (by rw [hok.im]; exact h1)]
  simp -implicitDefEqProofs [go_sem]
  refine SWp.seq (sW ?_)
  simp -implicitDefEqProofs [go_sem]
  refine Wp.s ?_
  simp -implicitDefEqProofs [go_sem]
  refine sW ?_
  simp -implicitDefEqProofs [go_sem, stoC]
  refine CC.mono (vown_cc _ _ s hs) ?_
  rintro _ _ V1 ⟨k, v, rfl, rfl, hV1, hV2, hV3⟩
  simp -implicitDefEqProofs [go_sem, stoT]
  refine SWp.seq (SWp.drawnT [H.length + 1] [9, 11, 13] (.s 0 .pl <| .s 1 .pl <| .s 2 .pl <| .s 3 .pl <| .s 4 .ld <| .s 5 .pl <| .s 8 .pl <| .s 6 .pl <| .s 7 .pl <| .s 9 .st <| .s 10 .pl <| .s 11 .st <| .s 12 .pl <| .s 13 .st <| .n) (by kernel_rfl) (by kernel_rfl) ?_)
  simp -implicitDefEqProofs [go_sem]
  refine CC.le (ys := [.sl .sh 3 ([w].map wrC)]) (.cons (.sh _ _ _) .nil) ?_
  refine CC.mono (ownWrites_cc _ _ .sh [w] (by simp) (fun x hx => by rw [List.mem_singleton] at hx; subst hx; exact hw)) ?_
  rintro _ _ _ ⟨v2, rfl, rfl, rfl⟩
  simp -implicitDefEqProofs [go_sem]
  have hkV : k < V1.length := (List.getElem?_eq_some_iff.1 hV2).1
  have hpl := hs.pl
  have hkp : ∀ (a b c d e e' : Option (List CV)), Kp [H.length + 1] (H ++ [a, b, c, d, e]) (H ++ [a, b, c, d, e']) := fun a b c d e e' => Kp.keep fun x hx => by
    obtain rfl : x = H.length + 1 := by simpa using hx
    rw [hget, hget]; rfl
  refine ⟨by rw [List.getElem?_append_left hkV]; exact hV2, by omega, hkp _ _ _ _ _ _, hkp _ _ _ _ _ _, hkp _ _ _ _ _ _, ?_⟩
  refine sW ?_
  simp -implicitDefEqProofs [go_sem]
  refine ⟨rfl, ?_⟩
  have hV1l : V.length ≤ V1.length := by omega
  refine Wp.s ?_
  simp -implicitDefEqProofs [go_sem]
  rw [hwv]
  have hsn : List.map wrC s.pend ++ [wrC w] = (s.pend ++ [w]).map wrC := by rw [List.map_append]; rfl
  rw [hsn]
  refine Fin.pu ?_ (okV_wtV _ _ _) hokH (by simp) (by first | (rw [List.take_set_of_le hV3, List.take_append_of_le_length hV1l]; exact hV1) | (rw [List.take_append_of_le_length (by simpa using hV1l), List.take_set_of_le hV3]; exact hV1))
  refine .tup (.cons (.agg ?_) (.cons (.refl _) (.cons (.refl _) (.cons (.refl _) .nil))))
  show LeL [.sl .sh 1 (s.sizes.map ic), .v (.int .i64 j.start), .v (.int .i64 j.count), .v (.int .i64 j.head), .v (.int .i64 j.tail), .v (.int .i64 j.first), .sl .sh 1 (j.sizes.map ic), .v (.int .i64 s.data), .v (.int .i64 s.applied), .sl (.own k (v + 1)) 3 ((s.pend ++ [w]).map wrC), .sl .sh 1 ((ap1 s.img w).map imE)] _
  exact .cons (.refl _) (.cons (.refl _) (.cons (.refl _) (.cons (.refl _) (.cons (.refl _) (.cons (.refl _) (.cons (.refl _) (.cons (.refl _) (.cons (.refl _) (.cons (.sh _ _ _) (.cons (.refl _) .nil))))))))))
end Go.Proofs.YtbnkggbpocaaiaaGreatDoor
namespace Go.Proofs.YtbnkggbpocaaiaaGreatDoor
open Go.Proofs
theorem place_cc (H : Hp) (V : List Nat) (s : Sto) (v : Nat) (h : SzOk s.sizes) (hv : v ≤ s.sizes.length) (h0 : 0 ≤ s.data) (h1 : s.data ≤ 100000) : CC Tryz.prog 83 [.agg (stoC s), ci v] H V (Pu (ci (s.data + sumI (s.sizes.take v))) H V) := by
  refine CC.of_swp Tryz.func83 rfl (by kernel_rfl) (by rw [Tryz.ntmps83]; exact len_le _ _ rfl) fun hok hokH => ?_
  clear hok
  have hs := h.sum v
  have hl := h.1
  refine sW ?_
  simp -implicitDefEqProofs [go_sem, args0]
  refine SWp.seq (SWp.drawnT [] [] (.s 0 .pl <| .s 1 .pl <| .s 2 .pl <| .s 3 .pl <| .s 4 .pl <| .s 5 .pl <| .s 6 .pl <| .s 7 .pl <| .s 8 .pl <| .n) (by kernel_rfl) (by kernel_rfl) ?_)
  simp -implicitDefEqProofs [go_sem, stoC]
  refine ⟨by omega, ?_⟩
  rw [← List.map_take]
  refine CC.mono (vsum_cc _ _ .sh (s.sizes.take v) (h.take v)) ?_
  rintro _ _ _ ⟨rfl, rfl, rfl⟩
  have w1 : IntKind.i64.wrap (s.data + sumI (s.sizes.take v)) = s.data + sumI (s.sizes.take v) := IntWalk.i64_in _ ⟨by omega, by omega⟩
  simp -implicitDefEqProofs [go_sem, w1]
  refine Wp.s ?_
  simp -implicitDefEqProofs [go_sem]
  exact Fin.pu (.refl _) (by simp [go_sem]) hokH (by simp) (by simp)
def hdU (j : Jrn) (i : Nat) : Int := (j.head + sumI (j.sizes.take i)) % (j.count - 16)
set_option maxRecDepth 8000 in
set_option maxHeartbeats 1600000 in
theorem Release_cc (H : Hp) (V : List Nat) (d : Dk) (j : Jrn) (q : Int) (hd : DkS d) (hl : j.sizes.length ≤ 1000000000) : CC Tryz.prog 84 [.agg (dkC d), .agg (jrC j), ci q] H V (Pu (jtV (relJ d j q)) H V) := by
  refine CC.of_swp Tryz.func84 rfl (by kernel_rfl) (by rw [Tryz.ntmps84]; exact len_le _ _ rfl) fun hok hokH => ?_
  clear hok
  have bad : ∀ (e : Nat) {H' : Hp} {V' : List Nat}, relJ d j q = (zjr, [], e) → H'.take H.length = H → V'.take V.length = V → Fin H.length V.length (Pu (jtV (relJ d j q)) H V) (.tup [.agg zjC, .v (.slice none 0 0), er e]) H' V' := fun e H' V' h1 h2 h3 => by
    rw [h1]
    exact fin_jt zj_le (.nil 3 (by decide)) rfl hokH h2 h3
  refine sW ?_
  simp -implicitDefEqProofs [go_sem, args0]
  refine SWp.seq (sW ?_)
  simp -implicitDefEqProofs [go_sem]
  refine CC.mono (sCheck_cc _ _ d hd) ?_
  rintro _ _ _ ⟨rfl, rfl, rfl⟩
  simp -implicitDefEqProofs [go_sem]
  refine sW ?_
  by_cases hc : checkD d = 0
  case neg =>
    simp -implicitDefEqProofs [go_sem, hc]
    refine Wp.s ?_
    simp -implicitDefEqProofs [go_sem]
    exact bad _ (by rw [relJ, if_pos hc]) (by simp) (by simp)
  simp -implicitDefEqProofs [go_sem, hc]
  refine Wp.s ?_
  simp -implicitDefEqProofs [go_sem]
  refine sW ?_
  simp -implicitDefEqProofs [go_sem]
  refine CC.mono (examine_cc _ _ j hl) ?_
  rintro _ _ _ ⟨u, rfl, rfl, rfl, hu⟩
  simp -implicitDefEqProofs [go_sem]
  refine SWp.seq (sW ?_)
  by_cases h : chkJ j = true
  case neg =>
    simp -implicitDefEqProofs [go_sem, h]
    refine Wp.s ?_
    simp -implicitDefEqProofs [go_sem]
    exact bad 3 (by rw [relJ, if_neg (by simp [hc]), if_pos (by simpa using h)]) (by simp) (by simp)
  obtain rfl := hu h
  have hn := chkJ_next h
  have hsu := chkJ_sum h
  have hva := chkJ_val h
  have hv := (validJ_iff _ _).1 hva
  have hfi := chkJ_first h
  simp -implicitDefEqProofs [go_sem, h]
  refine Wp.s ?_
  simp -implicitDefEqProofs [go_sem]
  refine SWp.seq (sW ?_)
  have w1 : IntKind.i64.wrap (j.first - 1) = j.first - 1 := IntWalk.i64_in _ ⟨by omega, by omega⟩
  by_cases c1 : q < j.first - 1
  · simp -implicitDefEqProofs [go_sem, w1, c1]
    refine Wp.s ?_
    simp -implicitDefEqProofs [go_sem]
    exact bad 2 (by rw [relJ, if_neg (by simp [hc]), if_neg (by simp [h]), if_pos (.inl c1)]) (by simp) (by simp)
  simp -implicitDefEqProofs [go_sem, w1, c1]
  refine CC.mono (next_cc _ _ j _ hn.1 hn.2) ?_
  rintro _ _ _ ⟨rfl, rfl, rfl⟩
  by_cases c2 : nextJ j ≤ q
  · simp -implicitDefEqProofs [go_sem, c2]
    refine Wp.s ?_
    simp -implicitDefEqProofs [go_sem]
    exact bad 2 (by rw [relJ, if_neg (by simp [hc]), if_neg (by simp [h]), if_pos (.inr c2)]) (by simp) (by simp)
  have hnx : nextJ j = j.first + j.sizes.length := rfl
  simp -implicitDefEqProofs [go_sem, c2]
  refine Wp.s ?_
  simp -implicitDefEqProofs [go_sem]
  refine sW ?_
  simp -implicitDefEqProofs [go_sem]
  refine CC.mono (own_cc _ _ j _ hl) ?_
  rintro _ _ _ ⟨v, rfl, rfl, rfl⟩
  obtain ⟨n, hnn⟩ := Int.eq_ofNat_of_zero_le (show 0 ≤ q - j.first + 1 by omega)
  have hnl : n ≤ j.sizes.length := by omega
  have w2 : IntKind.i64.wrap (q - j.first) = q - j.first := IntWalk.i64_in _ ⟨by omega, by omega⟩
  have w3 : IntKind.i64.wrap (q - j.first + 1) = (n : Int) := by rw [IntWalk.i64_in _ ⟨by omega, by omega⟩]; omega
  simp -implicitDefEqProofs [go_sem]
  refine sW ?_
  simp -implicitDefEqProofs [go_sem, w2, w3]
  have hrel : relJ d j q = if q = j.first - 1 then (j, [], 0) else
      if (storeS d j.start (superJ (hdU j n) (q + 1))).2 ≠ 0 then (zjr, [], (storeS d j.start (superJ (hdU j n) (q + 1))).2)
      else (⟨j.start, j.count, hdU j n, j.tail, q + 1, j.sizes.drop n⟩, (storeS d j.start (superJ (hdU j n) (q + 1))).1, 0) := by
    rw [relJ, if_neg (by simp [hc]), if_neg (by simp [h]), if_neg (by omega)]
    have : (q + 1 - j.first).toNat = n := by omega
    rw [this]; rfl
  refine SWp.seq (sW ?_)
  by_cases c3 : n = 0
  · subst c3
    simp -implicitDefEqProofs [go_sem]
    refine Wp.s ?_
    simp -implicitDefEqProofs [go_sem]
    rw [hrel, if_pos (by omega)]
    exact fin_jt (.agg (.cons (.refl _) (.cons (.refl _) (.cons (.refl _) (.cons (.refl _) (.cons (.refl _) (.cons (.sh _ _ _) .nil))))))) (.nil 3 (by decide)) rfl hokH (by simp) (by simp)
  rw [if_neg (by omega)] at hrel
  simp -implicitDefEqProofs [go_sem, c3]
  refine Wp.s ?_
  simp -implicitDefEqProofs [go_sem]
  have hjh : 0 ≤ j.head ∧ j.head < j.count - 16 := by
    have := (preJ_iff j).1 ((chkJ_iff j).1 h).2.1
    omega
  refine SWp.join (α := Unit) (fun _ => ([(3, .ptr H.length 0), (6, .ptr (H.length + 2) 0), (10, .ptr (H.length + 3) 0), (12, .ptr (H.length + 4) 0), (13, ci n)], H ++ [some (dkC d), some (jrC j), some zjC, some (stJ j (sumI j.sizes)), some [iv j.start, iv j.count, iv (hdU j n), iv j.tail, iv j.first, .sl (.own V.length v) 1 (j.sizes.map ic)]], V ++ [v])) (fun _ => True) ?_ ?_
  · refine sW ?_
    simp -implicitDefEqProofs [go_sem]
    refine ⟨by omega, ?_⟩
    refine SWp.block ?_
    refine SWp.loop (α := Nat) (fun i => ([(3, .ptr H.length 0), (6, .ptr (H.length + 2) 0), (10, .ptr (H.length + 3) 0), (12, .ptr (H.length + 4) 0), (13, ci n), (59, .sl .sh 1 ((j.sizes.take n).map ic)), (60, ci n), (61, ci i)], H ++ [some (dkC d), some (jrC j), some zjC, some (stJ j (sumI j.sizes)), some [iv j.start, iv j.count, iv (hdU j i), iv j.tail, iv j.first, .sl (.own V.length v) 1 (j.sizes.map ic)]], V ++ [v])) (fun i => i ≤ n) (fun i => n - i) 0 (Nat.zero_le _) (Sh.forget ?_ ?_ rfl) ?_
    · simp [go_sem, List.map_take, Nat.min_eq_left hnl]
    · rw [show hdU j 0 = j.head by rw [hdU, List.take_zero]; show (j.head + 0) % _ = _; rw [Int.add_zero, Int.emod_eq_of_lt hjh.1 hjh.2]]
    intro i hi
    dsimp only
    refine sW ?_
    simp -implicitDefEqProofs [go_sem]
    refine sW ?_
    simp -implicitDefEqProofs [go_sem]
    refine ⟨fun h => ?_, fun h => ?_⟩
    case refine_2 =>
      obtain rfl : i = n := by omega
      exact Sh.forget (by simp [go_sem]) rfl rfl
    have hij : i < j.sizes.length := by omega
    have hsz := (okSz_iff _).1 (List.all_eq_true.1 ((chkJ_iff j).1 ‹chkJ j = true›).2.2.1 _ (List.getElem_mem hij))
    have hL : 0 < j.count - 16 := by omega
    have hb1 := Int.emod_nonneg (j.head + sumI (j.sizes.take i)) (show j.count - 16 ≠ 0 by omega)
    have hb2 := Int.emod_lt_of_pos (j.head + sumI (j.sizes.take i)) hL
    have hnx : (hdU j i + j.sizes[i]) % (j.count - 16) = hdU j (i + 1) := by
      rw [hdU, hdU, sumI_take _ _ hij, Int.emod_add_emod, Int.add_assoc]
    have w4 : IntKind.i64.wrap (hdU j i + j.sizes[i]) = hdU j i + j.sizes[i] := IntWalk.i64_in _ ⟨by unfold hdU; omega, by unfold hdU; omega⟩
    have t4 := Int.tmod_eq_emod_of_nonneg (b := j.count - 16) (show 0 ≤ hdU j i + j.sizes[i] by unfold hdU; omega)
    have hz : ¬ j.count - 16 = 0 := by omega
    have w5 : IntKind.i64.wrap ((i : Int) + 1) = (i : Int) + 1 := IntWalk.i64_in _ ⟨by omega, by omega⟩
    refine SWp.seq (SWp.block (sW ?_))
    simp -implicitDefEqProofs [go_sem, h, hij]
    refine ⟨by first | omega | (simp; omega), ?_⟩
    refine SWp.drawnT [] [9] (.s 0 .pl <| .s 1 .pl <| .s 2 .pl <| .s 3 .pl <| .s 4 .pl <| .s 5 .pl <| .s 6 .pl <| .s 7 .pl <| .s 8 .pl <| .s 9 .st <| .n) (by kernel_rfl) (by kernel_rfl) ?_
    simp -implicitDefEqProofs [go_sem, w4]
    refine CC.mono (length_cc _ _ _ _ hva) ?_
    rintro _ _ _ ⟨rfl, rfl, rfl⟩
    simp -implicitDefEqProofs [go_sem, w4, t4, hz, hnx]
    refine Wp.s ?_
    simp -implicitDefEqProofs [go_sem, w5]
    exact ⟨i + 1, by omega, by omega, Sh.forget (by simp [go_sem]) rfl rfl⟩
  rintro _ -
  dsimp only
  refine SWp.seq (SWp.drawnT [] [9, 11] (.s 0 .pl <| .s 1 .pl <| .s 2 .pl <| .s 3 .pl <| .s 4 .pl <| .s 5 .pl <| .s 6 .pl <| .s 7 .pl <| .s 8 .pl <| .s 9 .st <| .s 10 .pl <| .s 11 .st <| .n) (by kernel_rfl) (by kernel_rfl) ?_)
  have w6 : IntKind.i64.wrap (j.first + (n : Int)) = q + 1 := by rw [IntWalk.i64_in _ ⟨by omega, by omega⟩]; omega
  simp -implicitDefEqProofs [go_sem, w6]
  refine ⟨hnl, ?_⟩
  refine SWp.seq (SWp.drawnT [] [] (.s 0 .pl <| .s 1 .pl <| .s 2 .pl <| .s 3 .pl <| .s 4 .pl <| .s 5 .pl <| .s 6 .pl <| .s 7 .pl <| .s 8 .pl <| .s 9 .pl <| .s 10 .pl <| .s 11 .pl <| .s 12 .pl <| .s 13 .pl <| .s 14 .pl <| .s 15 .pl <| .n) (by kernel_rfl) (by kernel_rfl) ?_)
  simp -implicitDefEqProofs [go_sem]
  refine CC.mono (payload_cc _ _ _ _) ?_
  rintro _ _ _ ⟨rfl, rfl, rfl⟩
  simp -implicitDefEqProofs [go_sem]
  refine CC.mono (sStore_cc _ _ d j.start .sh (superJ (hdU j n) (q + 1)) hd) ?_
  rintro _ _ _ ⟨rfl, rfl, rfl⟩
  generalize storeS d j.start (superJ (hdU j n) (q + 1)) = x at hrel ⊢
  obtain ⟨A, e⟩ := x
  dsimp only at hrel ⊢
  simp -implicitDefEqProofs [go_sem, stV]
  refine SWp.seq (sW ?_)
  by_cases he : e = 0
  case neg =>
    have he' : ¬ (e : Int) = 0 := by omega
    simp -implicitDefEqProofs [go_sem, he, he']
    refine Wp.s ?_
    simp -implicitDefEqProofs [go_sem]
    exact bad e (by rw [hrel, if_pos he]) (by simp) (by simp)
  subst he
  rw [if_neg (by simp)] at hrel
  simp -implicitDefEqProofs [go_sem]
  refine Wp.s ?_
  simp -implicitDefEqProofs [go_sem]
  refine sW ?_
  simp -implicitDefEqProofs [go_sem]
  refine Wp.s ?_
  simp -implicitDefEqProofs [go_sem]
  rw [hrel]
  refine fin_jt (.agg (.cons (.refl _) (.cons (.refl _) (.cons (.refl _) (.cons (.refl _) (.cons (.refl _) (.cons ?_ .nil))))))) (.refl _) rfl hokH (by simp) (by simp)
  rw [← List.map_drop]
  exact .sh _ _ _
end Go.Proofs.YtbnkggbpocaaiaaGreatDoor
