import Derived.Test.YtdiblbjchhjccaaDoorA12
set_option linter.unusedSimpArgs false
set_option linter.unusedVariables false
set_option linter.unusedSectionVars false
namespace Go.Proofs.YtdiblbjchhjccaaDoor
open Go.Proofs
section
variable {n nb nv : Nat} {T T' : Tm} {H : Hp} {V : List Nat}
theorem Gst.freezeY {b : Nat} {cs : List CV} (hb : H[b]? = some (some cs)) (h : ∀ p ∈ T', Fy b cs (tget T p.1) p.2) : Gst n nb nv T H V T' (H.set b none) V := fun D m w a m0 w0 V0 h1 h2 h3 hx hs => by
  cases hs.inv.live b cs hb with
  | row k c e g1 g2 g3 g4 g5 =>
    obtain ⟨hi', hx'⟩ := hs.inv.fix hb g1 g2 g3 g4
    refine ⟨_, ⟨hi', fun j => ?_, hs.size, hs.df⟩, hx.trans hx'⟩
    have ht := RelT.mono hx' hs.tm
    rcases tget_mem T' j with h1 | ⟨p, h1, rfl, h2⟩
    · rw [h1, RelV]; trivial
    · rw [h2]
      exact Fy.rel (m := { m with lim := fun j => if j = k then cs.length else m.lim j }) (k := k) g1 (by show cs.length ≤ if k = k then cs.length else m.lim k; rw [if_pos rfl]; exact Nat.le_refl _) (relC_box hx' rfl g5) (h p h1) (ht p.1)
  | obj k x g1 g2 g3 =>
    refine ⟨m, ⟨hs.inv.kill b, fun j => ?_, hs.size, hs.df⟩, hx⟩
    rcases tget_mem T' j with h1 | ⟨p, h1, rfl, h2⟩
    · rw [h1, RelV]; trivial
    · rw [h2]
      exact Fy.relO g1 g3.notRow (h p h1) (hs.tm p.1)
end
/-- What is handed back holds a box, in a slice too, which is fixed. -/
theorem Fin.frozY {nb nv : Nat} {R : CV → Hp → List Nat → Prop} {r r1 r2 : CV} {H H' : Hp} {V V' : List Nat} {b : Nat} {cs : List CV} (hR : R r2 H V) (hle : Le r r1) (hb : H'[b]? = some (some cs)) (hz : Fy b cs r1 r2)
    (hb0 : nb ≤ b) (hok : okV nb nv r2) (hokH : ∀ (b : Nat) cs, H[b]? = some (some cs) → okL nb nv cs) (hH : H'.take nb = H) (hV : V'.take nv = V) : Fin nb nv R r H' V' := by
  refine ⟨_, H, V, ?_, hR⟩
  refine Gst.trans (T' := [(0, r1)]) (H' := H') (V' := V') (Gst.forget fun p hp => ?_) ?_
  · simp at hp; subst hp; exact hle
  refine Gst.trans (T' := [(0, r2)]) (H' := H'.set b none) (V' := V') (Gst.freezeY hb fun p hp => ?_) ?_
  · simp at hp; subst hp; exact hz
  · have hH' : (H'.set b none).take nb = H := by rw [List.take_set_of_le hb0]; exact hH
    have := Gst.cut (n := 1) (nb := nb) (nv := nv) (T := [(0, r2)]) (H := H'.set b none) (V := V') nb nv (Nat.le_refl _) (Nat.le_refl _) (fun p hp => by simp at hp; subst hp; exact hok) (by rw [hH']; exact hokH)
    rwa [hH', hV] at this
def stV (x : List Opn × Nat) : CV := .tup [opsV x.1, er x.2]
theorem okV_stV (i j : Nat) (x : List Opn × Nat) : okV i j (stV x) := by
  rw [stV, okV, okL, okL, okL, opsV, okV_sh, okE_ops]
  exact ⟨trivial, okV_er _ _ _, trivial⟩
theorem fmt_fin {H : Hp} {V : List Nat} {a : Int} {p : List UInt8} (hokH : ∀ (b : Nat) cs, H[b]? = some (some cs) → okL H.length V.length cs) :
    Fin H.length V.length (Pu (stV ([opW a (List.replicate 16 sec0), opS, opW a (copyS 1 p), opS], 0)) H V)
      (.tup [.sl .ti 3 [[.v (.int .i64 0), .v (.int .i64 a), .bsl H.length 0 16 8], [.v (.int .i64 1), .v (.int .i64 0), .v (.slice none 0 0)], [.v (.int .i64 0), .v (.int .i64 a), .sl .sh 8 ((copyS 1 p).map secC)], [.v (.int .i64 1), .v (.int .i64 0), .v (.slice none 0 0)]], .v (.int .i64 0)])
      (H ++ [some (List.replicate 16 [CV.v (.int .u8 0), CV.v (.int .u8 0), CV.v (.int .u8 0), CV.v (.int .u8 0), CV.v (.int .u8 0), CV.v (.int .u8 0), CV.v (.int .u8 0), CV.v (.int .u8 0)]).flatten]) V := by
  have hz0 : (List.replicate 16 [CV.v (.int .u8 0), CV.v (.int .u8 0), CV.v (.int .u8 0), CV.v (.int .u8 0), CV.v (.int .u8 0), CV.v (.int .u8 0), CV.v (.int .u8 0), CV.v (.int .u8 0)]).flatten = secsF (List.replicate 16 sec0) := zeros_secs 16
  have hch : chunks 8 16 ((secsF (List.replicate 16 sec0)).drop 0) = (List.replicate 16 sec0).map secC := by
    have := chunks_secs (List.replicate 16 sec0)
    rwa [List.length_replicate] at this
  rw [hz0]
  have n3 : LeL [.v (.int .i64 1), .v (.int .i64 0), .v (.slice none 0 0)] [.v (.int .i64 1), .v (.int .i64 0), secsV []] := .cons (.refl _) (.cons (.refl _) (.cons (.nil 8 (by decide)) .nil))
  have r3 : ∀ x y z : CV, LeL [x, y, z] [x, y, z] := fun x y z => .cons (.refl _) (.cons (.refl _) (.cons (.refl _) .nil))
  have f3 : ∀ x y z : CV, FyL H.length (secsF (List.replicate 16 sec0)) [x, y, z] [x, y, z] := fun x y z => .cons (.refl _) (.cons (.refl _) (.cons (.refl _) .nil))
  refine Fin.frozY (b := H.length) (cs := secsF (List.replicate 16 sec0))
    (r1 := .tup [.sl .sh 3 [[.v (.int .i64 0), .v (.int .i64 a), .bsl H.length 0 16 8], [.v (.int .i64 1), .v (.int .i64 0), secsV []], [.v (.int .i64 0), .v (.int .i64 a), .sl .sh 8 ((copyS 1 p).map secC)], [.v (.int .i64 1), .v (.int .i64 0), secsV []]], .v (.int .i64 0)])
    ⟨rfl, rfl, rfl⟩ (.tup (.cons (.sle _ _ (.cons (r3 _ _ _) (.cons n3 (.cons (r3 _ _ _) (.cons n3 .nil))))) (.cons (.refl _) .nil))) (by simp) ?_ (Nat.le_refl _) (okV_stV _ _ _) hokH (by simp) (by simp)
  refine .tup (.cons (.sl _ _ (.cons (.cons (.refl _) (.cons (.refl _) (.cons ?_ .nil))) (.cons (f3 _ _ _) (.cons (f3 _ _ _) (.cons (f3 _ _ _) .nil))))) (.cons (.refl _) .nil))
  show Fy _ _ _ (.sl .sh 8 ((List.replicate 16 sec0).map secC))
  rw [← hch]
  exact .bsl _ _ _ (by simp)
theorem Format_cc (H : Hp) (V : List Nat) (a : Int) (tk : Tk) (p : List UInt8) : CC Tryd.prog 11 [ci a, .sl tk 1 (bs p)] H V (Pu (stV (formatS a p)) H V) := by
  refine CC.of_swp Tryd.func11 rfl (by kernel_rfl) (by rw [Tryd.ntmps11]; exact len_le _ _ rfl) fun hok hokH => ?_
  clear hok
  have bad : ∀ (e : Nat) {H' : Hp} {V' : List Nat}, formatS a p = ([], e) → H'.take H.length = H → V'.take V.length = V → Fin H.length V.length (Pu (stV (formatS a p)) H V) (.tup [.v (.slice none 0 0), er e]) H' V' := fun e H' V' h1 h2 h3 => by
    rw [h1]
    exact Fin.pu (.tup (.cons (.nil 3 (by decide)) (.cons (.refl _) .nil))) (okV_stV _ _ _) hokH h2 h3
  refine SWp.seq (Wp.s ?_)
  simp -implicitDefEqProofs [go_sem, args0]
  refine SWp.seq (SWp.block (SWp.seq (Wp.s ?_)))
  by_cases h1 : a < 0
  · simp -implicitDefEqProofs [go_sem, h1]
    refine Wp.s ?_
    simp -implicitDefEqProofs [go_sem]
    exact bad 2 (by rw [formatS, if_pos (.inl h1)]) (by simp) (by simp)
  by_cases h2 : 4080 < a
  · simp -implicitDefEqProofs [go_sem, h1, h2]
    refine Wp.s ?_
    simp -implicitDefEqProofs [go_sem]
    exact bad 2 (by rw [formatS, if_pos (.inr h2)]) (by simp) (by simp)
  simp -implicitDefEqProofs [go_sem, h1, h2]
  refine Wp.s ?_
  by_cases h3 : 31 < p.length
  · simp -implicitDefEqProofs [go_sem, show (31 : Int) < p.length by omega]
    exact bad 5 (by rw [formatS, if_neg (by omega), if_pos h3]) (by simp) (by simp)
  simp -implicitDefEqProofs [go_sem, show ¬ (31 : Int) < p.length by omega]
  have hF : formatS a p = ([opW a (List.replicate 16 sec0), opS, opW a (copyS 1 p), opS], 0) := by rw [formatS, if_neg (by omega), if_neg h3]
  refine SWp.seq (SWp.drawnT [] [] (.s 0 .pl <| .s 3 .pl <| .s 4 .pl <| .s 5 .pl <| .s 9 .pl <| .c 6 <| .s 7 .pl <| .s 8 .pl <| .s 1 .pl <| .s 2 .pl <| .s 10 .pl <| .s 11 .pl <| .s 12 .pl <| .n) (by kernel_rfl) (by kernel_rfl) ?_)
  simp -implicitDefEqProofs [go_sem, -List.reduceReplicate]
  refine ⟨.agg [ci 1, .sl .sh 1 (bs p), secsV (copyS 1 p)], fun H V => put_cc H V 1 tk p (by decide) (by omega), ?_⟩
  simp -implicitDefEqProofs [go_sem, -List.reduceReplicate]
  refine Wp.s ?_
  simp -implicitDefEqProofs [go_sem, -List.reduceReplicate]
  rw [hF]
  exact fmt_fin hokH
theorem rFormat_cc (H : Hp) (V : List Nat) (a : Int) (tk : Tk) (p : List UInt8) : CC Tryd.prog 12 [ci a, .sl tk 1 (bs p)] H V (Pu (stV (formatS a p)) H V) := by
  refine CC.of_swp Tryd.func12 rfl (by kernel_rfl) (by rw [Tryd.ntmps12]; exact len_le _ _ rfl) fun hok hokH => ?_
  clear hok
  have bad : ∀ (e : Nat) {H' : Hp} {V' : List Nat}, formatS a p = ([], e) → H'.take H.length = H → V'.take V.length = V → Fin H.length V.length (Pu (stV (formatS a p)) H V) (.tup [.v (.slice none 0 0), er e]) H' V' := fun e H' V' h1 h2 h3 => by
    rw [h1]
    exact Fin.pu (.tup (.cons (.nil 3 (by decide)) (.cons (.refl _) .nil))) (okV_stV _ _ _) hokH h2 h3
  refine SWp.seq (Wp.s ?_)
  simp -implicitDefEqProofs [go_sem, args0]
  refine SWp.seq (Wp.s ?_)
  by_cases h1 : a < 0
  · simp -implicitDefEqProofs [go_sem, h1]
    exact bad 2 (by rw [formatS, if_pos (.inl h1)]) (by simp) (by simp)
  by_cases h2 : 4080 < a
  · simp -implicitDefEqProofs [go_sem, h1, h2]
    exact bad 2 (by rw [formatS, if_pos (.inr h2)]) (by simp) (by simp)
  simp -implicitDefEqProofs [go_sem, h1, h2]
  refine SWp.seq (Wp.s ?_)
  simp -implicitDefEqProofs [go_sem]
  refine CC.mono (cap2_cc _ _) ?_
  rintro _ _ _ ⟨rfl, rfl, rfl⟩
  by_cases h3 : 31 < p.length
  · simp -implicitDefEqProofs [go_sem, show (31 : Int) < p.length by omega]
    exact bad 5 (by rw [formatS, if_neg (by omega), if_pos h3]) (by simp) (by simp)
  simp -implicitDefEqProofs [go_sem, show ¬ (31 : Int) < p.length by omega]
  have hF : formatS a p = ([opW a (List.replicate 16 sec0), opS, opW a (copyS 1 p), opS], 0) := by rw [formatS, if_neg (by omega), if_neg h3]
  refine SWp.seq (SWp.drawnT [] [] (.s 0 .pl <| .s 3 .pl <| .s 4 .pl <| .s 5 .pl <| .s 8 .pl <| .c 6 <| .s 7 .pl <| .s 1 .pl <| .s 2 .pl <| .s 9 .pl <| .s 10 .pl <| .s 11 .pl <| .n) (by kernel_rfl) (by kernel_rfl) ?_)
  simp -implicitDefEqProofs [go_sem, -List.reduceReplicate]
  refine ⟨secsV (copyS 1 p), fun H V => copyOf_cc H V 1 tk p (by decide) (by omega), ?_⟩
  simp -implicitDefEqProofs [go_sem, -List.reduceReplicate]
  refine Wp.s ?_
  simp -implicitDefEqProofs [go_sem, -List.reduceReplicate]
  rw [hF]
  exact fmt_fin hokH
end Go.Proofs.YtdiblbjchhjccaaDoor
namespace Go.Proofs.YtdiblbjchhjccaaDoor
open Go.Proofs
def mxS (m : Nat) (l : List Sec) : Nat := l.foldl (fun m s => max m (gn s)) m
theorem mxS_take (m : Nat) (l : List Sec) (i : Nat) (h : i < l.length) : mxS m (l.take (i + 1)) = max (mxS m (l.take i)) (gn l[i]) := foldl_take_succ _ _ _ _ h
theorem mxS_app (m : Nat) (a b : List Sec) : mxS m (a ++ b) = mxS (mxS m a) b := List.foldl_append ..
theorem topS_eq (l : List Sec) : topS l = mxS 0 l := rfl
theorem mxS_lt : ∀ (l : List Sec) (m : Nat), m < 4294967296 → mxS m l < 4294967296
  | [], m, h => h
  | s :: l, m, h => mxS_lt l (max m (gn s)) (by have := gn_lt s; omega)
theorem imax (a b : Nat) : max (a : Int) (b : Int) = ((max a b : Nat) : Int) := by omega
theorem sto_fin {H H' : Hp} {V V' : List Nat} {b : Int} {s : List Sec} (hokH : ∀ (b : Nat) cs, H[b]? = some (some cs) → okL H.length V.length cs) (hH : H'.take H.length = H) (hV : V'.take V.length = V) :
    Fin H.length V.length (Pu (stV ([opW b s, opS], 0)) H V)
      (.tup [.sl .ti 3 [[.v (.int .i64 0), .v (.int .i64 b), .sl .sh 8 (s.map secC)], [.v (.int .i64 1), .v (.int .i64 0), .v (.slice none 0 0)]], .v (.int .i64 0)]) H' V' := by
  refine Fin.pu (.tup (.cons (.sle _ _ (.cons ?_ (.cons ?_ .nil))) (.cons (.refl _) .nil))) (okV_stV _ _ ([opW b s, opS], 0)) hokH hH hV
  · exact .cons (.refl _) (.cons (.refl _) (.cons (.refl _) .nil))
  · exact .cons (.refl _) (.cons (.refl _) (.cons (.nil 8 (by decide)) .nil))
theorem Store_cc (H : Hp) (V : List Nat) (d : Dk) (a : Int) (tk : Tk) (p : List UInt8) (hl : DkS d) : CC Tryd.prog 18 [.agg (dkC d), ci a, .sl tk 1 (bs p)] H V (Pu (stV (storeS d a p)) H V) := by
  refine CC.of_swp Tryd.func18 rfl (by kernel_rfl) (by rw [Tryd.ntmps18]; exact len_le _ _ rfl) fun hok hokH => ?_
  have bad : ∀ (e : Nat) {H' : Hp} {V' : List Nat}, storeS d a p = ([], e) → H'.take H.length = H → V'.take V.length = V → Fin H.length V.length (Pu (stV (storeS d a p)) H V) (.tup [.v (.slice none 0 0), er e]) H' V' := fun e H' V' h1 h2 h3 => by
    rw [h1]
    exact Fin.pu (.tup (.cons (.nil 3 (by decide)) (.cons (.refl _) .nil))) (okV_stV _ _ _) hokH h2 h3
  refine SWp.seq (Wp.s ?_)
  simp -implicitDefEqProofs [go_sem, args0]
  refine SWp.seq (Wp.s ?_)
  simp -implicitDefEqProofs [go_sem]
  refine CC.mono (find_cc _ _ d a hl) ?_
  rintro _ _ _ ⟨rfl, rfl, rfl⟩
  by_cases he : findE d a = 0
  case neg =>
    have hV : findV d a = .tup [.agg (repC (0, []) [] ++ repC (0, []) []), ci 0, er (findE d a)] := by rw [findV, if_pos he]
    rw [hV]
    simp -implicitDefEqProofs [go_sem, repC]
    refine SWp.seq (Wp.s ?_)
    simp -implicitDefEqProofs [go_sem, he]
    exact bad _ (by rw [storeS, if_pos he]) (by simp) (by simp)
  by_cases hb : (best (findL d a)).1 = 0
  · have hV : findV d a = .tup [.agg (bothC (findL d a)), ci 0, er 9] := by rw [findV, if_neg (by simpa using he), if_pos hb]
    rw [hV]
    simp -implicitDefEqProofs [go_sem, bothC, repC]
    refine SWp.seq (Wp.s ?_)
    simp -implicitDefEqProofs [go_sem]
    exact bad 9 (by rw [storeS, if_neg (by simpa using he), if_pos hb]) (by simp) (by simp)
  have hV : findV d a = .tup [.agg (bothC (findL d a)), ci (new1 (findL d a)), er 0] := by rw [findV, if_neg (by simpa using he), if_neg hb]
  have hl16 := findL_len he
  have hat : 0 ≤ a ∧ a ≤ 1000000 := by
    unfold findE readD at he
    split at he
    · rename_i h1; exact absurd he h1
    · split at he
      · cases he
      · rename_i h1 h2
        have hq : insideB d a 16 = true := by simpa using h2
        simp only [insideB, Bool.and_eq_true, decide_eq_true_eq] at hq
        have := hl.1
        omega
  rw [hV]
  simp -implicitDefEqProofs [go_sem, bothC, repC]
  refine SWp.seq (Wp.s ?_)
  simp -implicitDefEqProofs [go_sem]
  refine SWp.seq (Wp.s ?_)
  by_cases h31 : 31 < p.length
  · simp -implicitDefEqProofs [go_sem, show (31 : Int) < p.length by omega]
    exact bad 5 (by rw [storeS, if_neg (by simpa using he), if_neg hb, if_pos h31]) (by simp) (by simp)
  simp -implicitDefEqProofs [go_sem, show ¬ (31 : Int) < p.length by omega]
  have hS : storeS d a p = if topS (findL d a) = 4294967295 then ([], 11) else ([opW (a + 8 - 8 * (new1 (findL d a) : Int)) (copyS (topS (findL d a) + 1) p), opS], 0) := by rw [storeS, if_neg (by simpa using he), if_neg hb, if_neg h31]
  generalize findL d a = l at *
  have hn : new1 l = 1 ∨ new1 l = 0 := by unfold new1; split <;> simp
  refine SWp.seq (Wp.s ?_)
  simp -implicitDefEqProofs [go_sem]
  have hBox : ∀ j, V.length ≤ j → okH (H.length + 2) j [some (dkC d), some (bothC l)] := fun j hj => by
    rw [okH_some, okH_some, okL_dkC]
    exact ⟨trivial, okL_app (okL_repC _ _ _ _) (okL_repC _ _ _ _), trivial⟩
  refine SWp.join (α := Unit) (fun _ => ([(1, ci a), (2, .sl tk 1 (bs p)), (9, ci (new1 l)), (11, ci (topS l))], H ++ [some (dkC d), some (bothC l)], V)) (fun _ => True) ?_ ?_
  · refine SWp.seq (Wp.s ?_)
    simp -implicitDefEqProofs [go_sem]
    refine SWp.block ?_
    refine SWp.loop (α := Nat) (fun i => ([(1, ci a), (2, .sl tk 1 (bs p)), (9, ci (new1 l)), (11, ci (mxS 0 (l.take (8 * i)))), (30, .agg (bothC l)), (31, ci i)], H ++ [some (dkC d), some (bothC l)], V)) (fun i => i ≤ 2) (fun i => 2 - i) 0 (by omega) (Sh.forget (by simp [go_sem, mxS, bothC, repC]) (by simp [bothC, repC]) rfl) ?_
    intro i hi
    dsimp only
    refine SWp.seq (Wp.s ?_)
    simp -implicitDefEqProofs [go_sem]
    refine SWp.seq (Wp.s ?_)
    simp -implicitDefEqProofs [go_sem]
    refine ⟨fun h => ?_, fun h => ?_⟩
    case refine_2 =>
      obtain rfl : i = 2 := by omega
      exact Sh.forget (by simp [go_sem, topS_eq, List.take_of_length_le (show l.length ≤ 8 * 2 by omega)]) rfl rfl
    have hi2 : i = 0 ∨ i = 1 := by omega
    generalize hs : (l.drop (8 * i)).take 8 = s
    have hs8 : s.length = 8 := by rw [← hs, List.length_take, List.length_drop]; omega
    have hnext : mxS (mxS 0 (l.take (8 * i))) s = mxS 0 (l.take (8 * (i + 1))) := by
      rw [← mxS_app, ← hs, ← List.take_add]
      rfl
    have hBox3 : ∀ (c : Nat × List UInt8) (j : Nat), V.length ≤ j → okH (H.length + 3) j [some (dkC d), some (bothC l), some (repC c s)] := fun c j hj => by
      rw [okH_some, okH_some, okH_some, okL_dkC]
      exact ⟨trivial, okL_app (okL_repC _ _ _ _) (okL_repC _ _ _ _), okL_repC _ _ _ _, trivial⟩
    refine SWp.seq (SWp.block (SWp.join (α := Nat × List UInt8) (fun c => ([(1, ci a), (2, .sl tk 1 (bs p)), (9, ci (new1 l)), (11, ci (mxS 0 (l.take (8 * i)))), (30, .agg (bothC l)), (31, ci i), (13, .ptr (H.length + 2) 0)], H ++ [some (dkC d), some (bothC l), some (repC c s)], V)) (fun _ => True) ?_ ?_))
    · refine Wp.s ?_
      rcases hi2 with rfl | rfl
      · simp -implicitDefEqProofs [go_sem, bothC, repC]
        refine ⟨(cA l).1, (cA l).2, Sh.forget (by simp [go_sem]) ?_ rfl⟩
        rw [← hs]; rfl
      · simp -implicitDefEqProofs [go_sem, bothC, repC]
        refine ⟨(cB l).1, (cB l).2, Sh.forget (by simp [go_sem]) ?_ rfl⟩
        rw [← hs, show (l.drop (8 * 1)).take 8 = l.drop 8 from List.take_of_length_le (by rw [List.length_drop]; omega)]
    rintro ⟨c1, c2⟩ -
    dsimp only
    refine SWp.seq (Wp.s ?_)
    simp -implicitDefEqProofs [go_sem, repC]
    refine SWp.block ?_
    refine SWp.loop (α := Nat) (fun k => ([(1, ci a), (2, .sl tk 1 (bs p)), (9, ci (new1 l)), (11, ci (mxS (mxS 0 (l.take (8 * i))) (s.take k))), (30, .agg (bothC l)), (31, ci i), (35, secsV s), (36, ci 8), (37, ci k)], H ++ [some (dkC d), some (bothC l), some (repC (c1, c2) s)], V)) (fun k => k ≤ 8) (fun k => 8 - k) 0 (by omega) (Sh.forget (by simp [go_sem, hs8, mxS]) (by simp [repC]) rfl) ?_
    intro k hk
    dsimp only
    refine SWp.seq (Wp.s ?_)
    simp -implicitDefEqProofs [go_sem]
    refine SWp.seq (Wp.s ?_)
    simp -implicitDefEqProofs [go_sem]
    refine ⟨fun hk8 => ?_, fun hk8 => ?_⟩
    case refine_2 =>
      obtain rfl : k = 8 := by omega
      refine Wp.s ?_
      simp -implicitDefEqProofs [go_sem, wrap_succ (show i ≤ 1000000000 by omega)]
      refine ⟨i + 1, by omega, by omega, Sh.trim (L := [some (dkC d), some (bothC l)]) ?_ ?_ hokH (hBox _ (Nat.le_refl _)) (Nat.le_refl _) (by simp) (by simp)⟩
      · rw [List.take_of_length_le (show s.length ≤ 8 by omega), hnext]
        simp [go_sem]
      · rw [okL, okL, okL] at hok
        simp only [TOk_cons, TOk_nil]
        exact ⟨by simp [go_sem], okV_mono (by omega) (Nat.le_refl _) hok.2.2.1, by simp [go_sem], by simp [go_sem], by rw [okV_agg]; exact okL_app (okL_repC _ _ _ _) (okL_repC _ _ _ _), by simp [go_sem], trivial⟩
    have hks : k < s.length := by omega
    refine SWp.seq (SWp.block (SWp.seq (Wp.s ?_)))
    simp -implicitDefEqProofs [go_sem, hks]
    refine Wp.s ?_
    simp -implicitDefEqProofs [go_sem]
    refine CC.mono (generation_cc _ _ _) ?_
    rintro _ _ _ ⟨rfl, rfl, rfl⟩
    simp -implicitDefEqProofs [go_sem]
    refine Wp.s ?_
    simp -implicitDefEqProofs [go_sem, wrap_succ (show k ≤ 1000000000 by omega), imax]
    refine ⟨k + 1, by omega, by omega, Sh.trim (L := [some (dkC d), some (bothC l), some (repC (c1, c2) s)]) ?_ ?_ hokH (hBox3 _ _ (Nat.le_refl _)) (Nat.le_refl _) (by simp) (by simp)⟩
    · rw [mxS_take _ _ _ hks]
      simp [go_sem, imax]
    · rw [okL, okL, okL] at hok
      simp only [TOk_cons, TOk_nil]
      exact ⟨by simp [go_sem], okV_mono (by omega) (Nat.le_refl _) hok.2.2.1, by simp [go_sem], by simp [go_sem], by rw [okV_agg]; exact okL_app (okL_repC _ _ _ _) (okL_repC _ _ _ _), by simp [go_sem], okV_secsV _ _ _, by simp [go_sem], by simp [go_sem], trivial⟩
  · rintro _ -
    dsimp only
    have htop : topS l < 4294967296 := mxS_lt _ _ (by omega)
    rw [hS]
    refine SWp.seq (Wp.s ?_)
    by_cases ht : topS l = 4294967295
    · rw [if_pos ht] at hS
      rw [← hS]
      simp -implicitDefEqProofs [go_sem, ht]
      exact bad 11 hS (by simp) (by simp)
    rw [if_neg ht]
    simp -implicitDefEqProofs [go_sem, show ¬ (topS l : Int) = 4294967295 by omega]
    refine SWp.seq (Wp.s ?_)
    have e0 : IntKind.i64.wrap (1 - (new1 l : Int)) = 1 - (new1 l : Int) := IntWalk.i64_in _ ⟨by omega, by omega⟩
    have e1 : IntKind.i64.wrap ((1 - (new1 l : Int)) * 8) = 8 - 8 * (new1 l : Int) := by rw [IntWalk.i64_in _ ⟨by omega, by omega⟩]; omega
    have e2 : IntKind.i64.wrap (a + (8 - 8 * (new1 l : Int))) = a + 8 - 8 * (new1 l : Int) := by rw [IntWalk.i64_in _ ⟨by omega, by omega⟩]; omega
    have e3 : IntKind.i64.wrap ((topS l : Int) + 1) = ((topS l + 1 : Nat) : Int) := by rw [IntWalk.i64_in _ ⟨by omega, by omega⟩]; rfl
    simp -implicitDefEqProofs [go_sem, e0]
    refine SWp.seq (Wp.s ?_)
    simp -implicitDefEqProofs [go_sem, e1, e2, e3]
    have hput := fun (H : Hp) (V : List Nat) => put_cc H V (topS l + 1) tk p (by omega) (by omega)
    rw [Int.natCast_succ] at hput
    refine CC.mono (hput _ _) ?_
    rintro _ _ _ ⟨rfl, rfl, rfl⟩
    simp -implicitDefEqProofs [go_sem]
    refine Wp.s ?_
    simp -implicitDefEqProofs [go_sem]
    exact sto_fin hokH (by simp) (by simp)
theorem rStore_cc (H : Hp) (V : List Nat) (d : Dk) (a : Int) (tk : Tk) (p : List UInt8) (hl : DkS d) : CC Tryd.prog 19 [.agg (dkC d), ci a, .sl tk 1 (bs p)] H V (Pu (stV (storeS d a p)) H V) := by
  refine CC.of_swp Tryd.func19 rfl (by kernel_rfl) (by rw [Tryd.ntmps19]; exact len_le _ _ rfl) fun hok hokH => ?_
  have bad : ∀ (e : Nat) {H' : Hp} {V' : List Nat}, storeS d a p = ([], e) → H'.take H.length = H → V'.take V.length = V → Fin H.length V.length (Pu (stV (storeS d a p)) H V) (.tup [.v (.slice none 0 0), er e]) H' V' := fun e H' V' h1 h2 h3 => by
    rw [h1]
    exact Fin.pu (.tup (.cons (.nil 3 (by decide)) (.cons (.refl _) .nil))) (okV_stV _ _ _) hokH h2 h3
  refine SWp.seq (Wp.s ?_)
  simp -implicitDefEqProofs [go_sem, args0]
  refine SWp.seq (Wp.s ?_)
  simp -implicitDefEqProofs [go_sem]
  refine CC.mono (rfind_cc _ _ d a hl) ?_
  rintro _ _ _ ⟨rfl, rfl, rfl⟩
  by_cases he : findE d a = 0
  case neg =>
    have hV : rfindV d a = rfV [] 0 (0, []) (findE d a) := by rw [rfindV, if_pos he]
    rw [hV]
    simp -implicitDefEqProofs [go_sem, rfV]
    refine SWp.seq (Wp.s ?_)
    simp -implicitDefEqProofs [go_sem, he]
    exact bad _ (by rw [storeS, if_pos he]) (by simp) (by simp)
  by_cases hb : (best (findL d a)).1 = 0
  · have hV : rfindV d a = rfV [] 0 (0, []) 9 := by rw [rfindV, if_neg (by simpa using he), if_pos hb]
    rw [hV]
    simp -implicitDefEqProofs [go_sem, rfV]
    refine SWp.seq (Wp.s ?_)
    simp -implicitDefEqProofs [go_sem]
    exact bad 9 (by rw [storeS, if_neg (by simpa using he), if_pos hb]) (by simp) (by simp)
  have hV : rfindV d a = rfV (findL d a) (new1 (findL d a)) (best (findL d a)) 0 := by rw [rfindV, if_neg (by simpa using he), if_neg hb]
  have hl16 := findL_len he
  have hat : 0 ≤ a ∧ a ≤ 1000000 := by
    unfold findE readD at he
    split at he
    · rename_i h1; exact absurd he h1
    · split at he
      · cases he
      · rename_i h1 h2
        have hq : insideB d a 16 = true := by simpa using h2
        simp only [insideB, Bool.and_eq_true, decide_eq_true_eq] at hq
        have := hl.1
        omega
  rw [hV]
  simp -implicitDefEqProofs [go_sem, rfV]
  refine SWp.seq (Wp.s ?_)
  simp -implicitDefEqProofs [go_sem]
  refine SWp.seq (Wp.s ?_)
  simp -implicitDefEqProofs [go_sem]
  refine CC.mono (cap2_cc _ _) ?_
  rintro _ _ _ ⟨rfl, rfl, rfl⟩
  by_cases h31 : 31 < p.length
  · simp -implicitDefEqProofs [go_sem, show (31 : Int) < p.length by omega]
    exact bad 5 (by rw [storeS, if_neg (by simpa using he), if_neg hb, if_pos h31]) (by simp) (by simp)
  simp -implicitDefEqProofs [go_sem, show ¬ (31 : Int) < p.length by omega]
  have hS : storeS d a p = if topS (findL d a) = 4294967295 then ([], 11) else ([opW (a + 8 - 8 * (new1 (findL d a) : Int)) (copyS (topS (findL d a) + 1) p), opS], 0) := by rw [storeS, if_neg (by simpa using he), if_neg hb, if_neg h31]
  generalize findL d a = l at *
  have hn : new1 l = 1 ∨ new1 l = 0 := by unfold new1; split <;> simp
  refine SWp.seq (Wp.s ?_)
  simp -implicitDefEqProofs [go_sem]
  refine SWp.join (α := Unit) (fun _ => ([(1, ci a), (2, .sl tk 1 (bs p)), (9, ci (new1 l)), (13, .v (.int .u32 (topS l)))], H ++ [some (dkC d)], V)) (fun _ => True) ?_ ?_
  · refine SWp.seq (Wp.s ?_)
    simp -implicitDefEqProofs [go_sem]
    refine SWp.block ?_
    refine SWp.loop (α := Nat) (fun k => ([(1, ci a), (2, .sl tk 1 (bs p)), (9, ci (new1 l)), (8, secsV l), (13, .v (.int .u32 (mxS 0 (l.take k)))), (14, ci k)], H ++ [some (dkC d)], V)) (fun k => k ≤ 16) (fun k => 16 - k) 0 (by omega) (Sh.forget (by simp [go_sem, mxS]) rfl rfl) ?_
    intro k hk
    dsimp only
    refine SWp.seq (Wp.s ?_)
    simp -implicitDefEqProofs [go_sem, hl16]
    refine ⟨fun hk8 => ?_, fun hk8 => ?_⟩
    case refine_2 =>
      obtain rfl : k = 16 := by omega
      exact Sh.forget (by simp [go_sem, topS_eq, List.take_of_length_le (show l.length ≤ 16 by omega)]) rfl rfl
    have hks : k < l.length := by omega
    refine SWp.seq (SWp.block (Wp.s ?_))
    simp -implicitDefEqProofs [go_sem, hks]
    refine CC.mono (Generation_cc _ _ _) ?_
    rintro _ _ _ ⟨rfl, rfl, rfl⟩
    simp -implicitDefEqProofs [go_sem]
    refine Wp.s ?_
    simp -implicitDefEqProofs [go_sem, wrap_succ (show k ≤ 1000000000 by omega), imax]
    refine ⟨k + 1, by omega, by omega, Sh.forget ?_ rfl rfl⟩
    rw [mxS_take _ _ _ hks]
    simp [go_sem, imax]
  · rintro _ -
    dsimp only
    have htop : topS l < 4294967296 := mxS_lt _ _ (by omega)
    rw [hS]
    refine SWp.seq (Wp.s ?_)
    by_cases ht : topS l = 4294967295
    · rw [if_pos ht] at hS
      rw [← hS]
      simp -implicitDefEqProofs [go_sem, ht]
      exact bad 11 hS (by simp) (by simp)
    rw [if_neg ht]
    simp -implicitDefEqProofs [go_sem, show ¬ (topS l : Int) = 4294967295 by omega]
    have e0 : IntKind.i64.wrap (a + 8) = a + 8 := IntWalk.i64_in _ ⟨by omega, by omega⟩
    have e1 : IntKind.i64.wrap (8 * (new1 l : Int)) = 8 * (new1 l : Int) := IntWalk.i64_in _ ⟨by omega, by omega⟩
    have e2 : IntKind.i64.wrap (a + 8 - 8 * (new1 l : Int)) = a + 8 - 8 * (new1 l : Int) := IntWalk.i64_in _ ⟨by omega, by omega⟩
    have e3 : IntKind.u32.wrap ((topS l : Int) + 1) = (topS l : Int) + 1 := by rw [IntKind.wrap_u32]; omega
    refine SWp.seq (Wp.s ?_)
    simp -implicitDefEqProofs [go_sem, e0, e1, e2, e3]
    have hput := fun (H : Hp) (V : List Nat) => copyOf_cc H V (topS l + 1) tk p (by omega) (by omega)
    rw [Int.natCast_succ] at hput
    refine CC.mono (hput _ _) ?_
    rintro _ _ _ ⟨rfl, rfl, rfl⟩
    simp -implicitDefEqProofs [go_sem]
    refine Wp.s ?_
    simp -implicitDefEqProofs [go_sem]
    exact sto_fin hokH (by simp) (by simp)
end Go.Proofs.YtdiblbjchhjccaaDoor
