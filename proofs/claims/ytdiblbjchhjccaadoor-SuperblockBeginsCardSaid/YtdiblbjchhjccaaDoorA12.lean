import Derived.Test.YtdiblbjchhjccaaDoorA11
set_option linter.unusedSimpArgs false
set_option linter.unusedVariables false
set_option linter.unusedSectionVars false
namespace Go.Proofs.YtdiblbjchhjccaaDoor
open Go.Proofs
theorem parse_cc (H : Hp) (V : List Nat) (tk : Tk) (l : List Sec) (hl : l.length = 8) : CC Tryd.prog 45 [.sl tk 8 (l.map secC)] H V (Pu (.tup [.sl .sh 1 (bs (parseS l).2), .v (.int .u32 (parseS l).1)]) H V) := by
  refine CC.of_swp Tryd.func45 rfl (by kernel_rfl) (by rw [Tryd.ntmps45]; exact len_le _ _ rfl) fun hok hokH => ?_
  have h0 : l.getD 0 sec0 = l[0] := by rw [List.getD_eq_getElem?_getD, List.getElem?_eq_getElem (by omega)]; rfl
  have hg1 : gn l[0] = g0 l := by rw [g0, h0]
  have bad : ∀ {H' : Hp} {V' : List Nat}, parseS l = (0, []) → H'.take H.length = H → V'.take V.length = V → Fin H.length V.length (Pu (.tup [.sl .sh 1 (bs (parseS l).2), .v (.int .u32 (parseS l).1)]) H V) (.tup [.v (.slice none 0 0), .v (.int .u32 0)]) H' V' := fun h1 h2 h3 => by
    rw [h1]
    exact Fin.tup2 (.nil 1 (by decide)) (.refl _) (by rw [okV_sh, okBs_t]; trivial) (by rw [okV]; trivial) hokH h2 h3
  refine SWp.seq (Wp.s ?_)
  simp -implicitDefEqProofs [go_sem, args0]
  refine SWp.seq (Wp.s ?_)
  simp -implicitDefEqProofs [go_sem, hl]
  refine CC.mono (Generation_cc _ _ _) ?_
  rintro _ _ _ ⟨rfl, rfl, rfl⟩
  simp -implicitDefEqProofs [go_sem]
  refine SWp.seq (Wp.s ?_)
  simp -implicitDefEqProofs [go_sem]
  refine SWp.join (α := CV × List Nat) (fun x => ([(4, .v (.int .u32 (g0 l))), (5, x.1)], H, x.2))
      (fun x => (∃ k v, x.1 = .sl (.own k v) 1 (bs (dataS l)) ∧ x.2[k]? = some v ∧ V.length ≤ k) ∧ V.length ≤ x.2.length ∧ x.2.take V.length = V ∧ l.all (fun s => gn s == g0 l) = true) ?_ ?_
  · refine SWp.seq (Wp.s ?_)
    simp -implicitDefEqProofs [go_sem]
    refine SWp.block ?_
    refine SWp.loop (α := Nat × CV × List Nat) (fun x => ([(0, .sl tk 8 (l.map secC)), (4, .v (.int .u32 (g0 l))), (5, x.2.1), (6, ci x.1)], H, x.2.2))
      (fun x => x.1 ≤ 8 ∧ ApB V.length (dataS (l.take x.1)) x.2.1 x.2.2 ∧ V.length ≤ x.2.2.length ∧ x.2.2.take V.length = V ∧ (l.take x.1).all (fun s => gn s == g0 l) = true) (fun x => 8 - x.1) (0, .v (.slice none 0 0), V) ⟨by omega, .inl ⟨rfl, rfl⟩, Nat.le_refl _, by simp, rfl⟩ (Sh.forget (by simp [go_sem, hg1]) rfl rfl) ?_
    rintro ⟨i, cv, V'⟩ ⟨hi, ha, hv1, hv2, hg⟩
    dsimp only at hi ha hv1 hv2 hg ⊢
    refine SWp.seq (Wp.s ?_)
    simp -implicitDefEqProofs [go_sem, hl]
    refine ⟨fun h => ?_, fun h => ?_⟩
    case refine_2 =>
      obtain rfl : i = 8 := by omega
      rw [List.take_of_length_le (by omega)] at ha hg
      rcases ha with ⟨rfl, he⟩ | ⟨k, v, rfl, hv, hk⟩
      · have := congrArg List.length he
        rw [dataS_len] at this; simp at this; omega
      · exact ⟨_, V', ⟨⟨k, v, rfl, hv, hk⟩, hv1, hv2, by simpa using hg⟩, Sh.forget (by simp [go_sem]) rfl rfl⟩
    have h8 : i < l.length := by omega
    refine SWp.seq (SWp.block (SWp.seq (Wp.s ?_)))
    simp -implicitDefEqProofs [go_sem, h8]
    refine CC.mono (Generation_cc _ _ _) ?_
    rintro _ _ _ ⟨rfl, rfl, rfl⟩
    by_cases hgi : gn l[i] = g0 l
    case neg =>
      have hp : parseS l = (0, []) := by
        rw [parseS, if_neg]
        intro hv
        rw [valid, Bool.and_eq_true] at hv
        have := List.all_eq_true.1 hv.1 _ (List.getElem_mem h8)
        exact hgi (by simpa using this)
      simp -implicitDefEqProofs [go_sem, show ¬ ((gn l[i] : Int) = g0 l) by omega]
      exact bad hp (by simp) hv2
    simp -implicitDefEqProofs [go_sem, hgi]
    have hg' : (l.take (i + 1)).all (fun s => gn s == g0 l) = true := by
      rw [List.take_succ_eq_append_getElem h8, List.all_append, hg]
      simp [hgi]
    refine Wp.s ?_
    rcases ha with ⟨rfl, he⟩ | ⟨k, v, rfl, hv, hk⟩
    · simp -implicitDefEqProofs [go_sem, secC_drop4, h8]
      have hap : ApB V.length (dataS (l.take (i + 1))) (.sl (.own V'.length 0) 1 (bs (l[i].val.drop 4))) (V' ++ [0]) := .inr ⟨V'.length, 0, by rw [dataS_succ _ _ h8, he]; rfl, by simp, hv1⟩
      refine ⟨by rw [l[i].len]; omega, Wp.s ?_⟩
      simp -implicitDefEqProofs [go_sem, wrap_succ (show i ≤ 1000000000 by omega)]
      exact ⟨i + 1, _, V' ++ [0], ⟨by omega, hap, by simp; omega, by rw [List.take_append_of_le_length hv1]; exact hv2, by simpa using hg'⟩, by omega, Sh.forget (by simp [go_sem]) rfl rfl⟩
    · simp -implicitDefEqProofs [go_sem, secC_drop4, hv, h8]
      have hkv := (List.getElem?_eq_some_iff.1 hv).1
      have hap : ApB V.length (dataS (l.take (i + 1))) (.sl (.own k (v + 1)) 1 (bs (dataS (l.take i) ++ l[i].val.drop 4))) (V'.set k (v + 1)) := .inr ⟨k, v + 1, by rw [dataS_succ _ _ h8], by rw [List.getElem?_set_self hkv], hk⟩
      refine ⟨by rw [l[i].len, dataS_len, List.length_take]; omega, Wp.s ?_⟩
      simp -implicitDefEqProofs [go_sem, wrap_succ (show i ≤ 1000000000 by omega)]
      exact ⟨i + 1, _, V'.set k (v + 1), ⟨by omega, hap, by simpa using hv1, by rw [List.take_set_of_le hk]; exact hv2, by simpa using hg'⟩, by omega, Sh.forget (by simp [go_sem]) rfl rfl⟩
  · rintro ⟨cv, V'⟩ ⟨⟨k, v, rfl, hv, hk⟩, hv1, hv2, hg⟩
    dsimp only
    have hdl : (dataS l).length = 32 := by rw [dataS_len, hl]
    have hd0 : (dataS l).getD 0 0 = (dataS l)[0] := by rw [List.getD_eq_getElem?_getD, List.getElem?_eq_getElem (by omega)]; rfl
    refine SWp.seq (Wp.s ?_)
    simp -implicitDefEqProofs [go_sem, hdl]
    have hmlt := (dataS l)[0].toNat_lt
    generalize hm : (dataS l)[0].toNat = m at *
    have hmw : IntKind.i64.wrap (m : Int) = m := IntWalk.i64_in _ ⟨by omega, by omega⟩
    rw [hmw]
    refine SWp.seq (Wp.s ?_)
    simp -implicitDefEqProofs [go_sem]
    refine CC.mono (cap2_cc _ _) ?_
    rintro _ _ _ ⟨rfl, rfl, rfl⟩
    by_cases h31 : 31 < m
    · have hp : parseS l = (0, []) := by
        rw [parseS, if_neg]
        intro hv
        rw [valid, Bool.and_eq_true, okData, hd0, hm, Bool.and_eq_true, decide_eq_true_eq] at hv
        omega
      simp -implicitDefEqProofs [go_sem, hmw, show (31 : Int) < m by omega]
      exact bad hp (by simp) hv2
    have hm1 := wrap_succ (show m ≤ 1000000000 by omega)
    simp -implicitDefEqProofs [go_sem, hmw, hm1, show ¬ (31 : Int) < m by omega, hdl]
    have hgood : zs ((dataS l).drop (m + 1)) = true → parseS l = (g0 l, ((dataS l).drop 1).take m) := fun hz => by
      rw [parseS, if_pos, pay, hd0, hm]
      rw [valid, hg, okData, hd0, hm]
      simp only [Bool.true_and, Bool.and_eq_true, decide_eq_true_eq]
      exact ⟨by omega, hz⟩
    have hbad : zs ((dataS l).drop (m + 1)) = false → parseS l = (0, []) := fun hz => by
      rw [parseS, if_neg]
      intro hv
      rw [valid, Bool.and_eq_true, okData, hd0, hm, Bool.and_eq_true] at hv
      have := hv.2.2
      rw [← zs, hz] at this; cases this
    refine SWp.join (α := Unit) (fun x => ([(4, .v (.int .u32 (g0 l))), (5, .sl (.own k v) 1 (bs (dataS l))), (7, ci m)], H, V')) (fun x => zs ((dataS l).drop (m + 1)) = true) ?_ ?_
    · refine SWp.seq (Wp.s ?_)
      simp -implicitDefEqProofs [go_sem, hm1]
      refine SWp.block ?_
      refine SWp.loop (α := Nat) (fun i => ([(4, .v (.int .u32 (g0 l))), (5, .sl (.own k v) 1 (bs (dataS l))), (7, ci m), (8, ci i)], H, V')) (fun i => i ≤ 32 ∧ zs ((dataS l).drop (m + 1)) = zs ((dataS l).drop i)) (fun i => 32 - i) (m + 1) ⟨by omega, rfl⟩ (Sh.forget (by simp [go_sem]) rfl rfl) ?_
      rintro i ⟨hi, hz⟩
      dsimp only
      refine SWp.seq (Wp.s ?_)
      simp -implicitDefEqProofs [go_sem, hdl]
      refine ⟨fun h => ?_, fun h => ?_⟩
      case refine_2 =>
        obtain rfl : i = 32 := by omega
        exact ⟨by rw [hz, List.drop_of_length_le (by omega)]; rfl, Sh.forget (by simp [go_sem]) rfl rfl⟩
      have hil : i < (dataS l).length := by omega
      refine SWp.seq (SWp.block (SWp.seq (Wp.s ?_)))
      simp -implicitDefEqProofs [go_sem, hil]
      have hdr : (dataS l).drop i = (dataS l)[i] :: (dataS l).drop (i + 1) := List.drop_eq_getElem_cons hil
      refine Wp.s ?_
      by_cases hx : (dataS l)[i] = 0
      · have hz' : zs ((dataS l).drop (m + 1)) = zs ((dataS l).drop (i + 1)) := by
          rw [hz, hdr, zs, List.all_cons, hx]; rfl
        simp -implicitDefEqProofs [go_sem, hx]
        refine Wp.s ?_
        simp -implicitDefEqProofs [go_sem, wrap_succ (show i ≤ 1000000000 by omega)]
        exact ⟨i + 1, ⟨by omega, hz'⟩, by omega, Sh.forget (by simp [go_sem]) rfl rfl⟩
      · have hz' : zs ((dataS l).drop (m + 1)) = false := by
          rw [hz, hdr, zs, List.all_cons]
          have : ((dataS l)[i] == 0) = false := by simpa using hx
          rw [this]; rfl
        have hx' : ¬ (dataS l)[i].toNat = 0 := fun e => hx (UInt8.toNat_inj.1 e)
        simp -implicitDefEqProofs [go_sem, hx']
        exact bad (hbad hz') (by simp) hv2
    · rintro _ hz
      dsimp only
      refine Wp.s ?_
      simp -implicitDefEqProofs [go_sem, hm1, hdl]
      rw [hgood hz]
      refine ⟨by omega, by omega, Fin.tup2 ?_ (.refl _) (by rw [okV_sh, okBs_t]; trivial) (by rw [okV]; trivial) hokH (by simp) hv2⟩
      refine .of_eq ?_
      rw [← List.drop_one, bs_drop, List.drop_take, Nat.add_sub_cancel]
end Go.Proofs.YtdiblbjchhjccaaDoor
namespace Go.Proofs.YtdiblbjchhjccaaDoor
open Go.Proofs
def repC (c : Nat × List UInt8) (l : List Sec) : List CV := [ci c.1, .sl .sh 1 (bs c.2), secsV l]
def bothC (l : List Sec) : List CV := repC (cA l) (l.take 8) ++ repC (cB l) (l.drop 8)
def findV (d : Dk) (a : Int) : CV :=
  if findE d a ≠ 0 then .tup [.agg (repC (0, []) [] ++ repC (0, []) []), ci 0, er (findE d a)] else
  if (best (findL d a)).1 = 0 then .tup [.agg (bothC (findL d a)), ci 0, er 9] else .tup [.agg (bothC (findL d a)), ci (new1 (findL d a)), er 0]
theorem okL_repC (i j : Nat) (c : Nat × List UInt8) (l : List Sec) : okL i j (repC c l) := by
  rw [repC, okL, okL, okL, okL]
  exact ⟨by rw [okV]; trivial, by rw [okV_sh, okBs_t]; trivial, okV_secsV _ _ _, trivial⟩
theorem okL_app {i j : Nat} : ∀ {a b : List CV}, okL i j a → okL i j b → okL i j (a ++ b)
  | [], b, _, h => h
  | x :: a, b, h, g => by rw [okL] at h; rw [List.cons_append, okL]; exact ⟨h.1, okL_app h.2 g⟩
theorem okV_findV (i j : Nat) (d : Dk) (a : Int) : okV i j (findV d a) := by
  have h : ∀ (c : List CV) (x : Int) (e : Nat), okL i j c → okV i j (.tup [.agg c, ci x, er e]) := fun c x e hc => by
    rw [okV, okL, okL, okL, okL, okV_agg]
    exact ⟨hc, by rw [okV]; trivial, okV_er _ _ _, trivial⟩
  unfold findV
  split
  · exact h _ _ _ (okL_app (okL_repC _ _ _ _) (okL_repC _ _ _ _))
  · split <;> exact h _ _ _ (okL_app (okL_repC _ _ _ _) (okL_repC _ _ _ _))
theorem findL_len {d : Dk} {a : Int} (h : findE d a = 0) : (findL d a).length = 16 := by
  unfold findE at h
  unfold findL
  unfold readD at *
  split at h
  · rename_i h1; exact absurd h h1
  · split at h
    · cases h
    · rename_i h1 h2
      rw [if_neg h1, if_neg h2]
      have hq : insideB d a 16 = true := by simpa using h2
      simp only [insideB, Bool.and_eq_true, decide_eq_true_eq] at hq
      rw [List.length_take, List.length_drop, newestD_len]
      have : (16 : Int).toNat = 16 := rfl
      omega
theorem parseS_lt (l : List Sec) : (parseS l).1 < 4294967296 := by
  unfold parseS; split
  · exact gn_lt _
  · omega
theorem find_cc (H : Hp) (V : List Nat) (d : Dk) (a : Int) (hl : DkS d) : CC Tryd.prog 31 [.agg (dkC d), ci a] H V (Pu (findV d a) H V) := by
  refine CC.of_swp Tryd.func31 rfl (by kernel_rfl) (by rw [Tryd.ntmps31]; exact len_le _ _ rfl) fun hok hokH => ?_
  clear hok
  refine SWp.seq (Wp.s ?_)
  simp -implicitDefEqProofs [go_sem, args0]
  refine SWp.seq (Wp.s ?_)
  simp -implicitDefEqProofs [go_sem]
  refine CC.mono (show CC Tryd.prog 41 _ _ _ (Pu (.tup [secsV (findL d a), er (findE d a)]) _ _) from Read_cc _ _ d ⟨a, 16⟩ hl) ?_
  rintro _ _ _ ⟨rfl, rfl, rfl⟩
  simp -implicitDefEqProofs [go_sem]
  refine SWp.seq (Wp.s ?_)
  simp -implicitDefEqProofs [go_sem]
  refine ⟨fun he => ?_, fun he => ?_⟩
  · rw [findV, if_pos he]
    exact Fin.pu (.tup (.cons (.agg (.cons (.refl _) (.cons (.nil 1 (by decide)) (.cons (.nil 8 (by decide)) (.cons (.refl _) (.cons (.nil 1 (by decide)) (.cons (.nil 8 (by decide)) .nil))))))) (.cons (.refl _) (.cons (.refl _) .nil))))
      (by have := okV_findV H.length V.length d a; rwa [findV, if_pos he] at this) hokH (by simp) (by simp)
  have hl16 := findL_len he
  have hV : findV d a = if (best (findL d a)).1 = 0 then .tup [.agg (bothC (findL d a)), ci 0, er 9] else .tup [.agg (bothC (findL d a)), ci (new1 (findL d a)), er 0] := by rw [findV, if_neg (by simpa using he)]
  have hokV := okV_findV H.length V.length d a
  generalize findL d a = l at *
  refine SWp.seq (SWp.drawnT [] [8] (.s 0 .pl <| .s 1 .pl <| .s 3 .pl <| .s 4 .pl <| .c 2 <| .c 5 <| .s 6 .pl <| .s 7 .pl <| .s 8 .st <| .n) (by kernel_rfl) (by kernel_rfl) ?_)
  simp -implicitDefEqProofs [go_sem, hl16]
  refine ⟨.agg (repC (cA l) (l.take 8)), fun H V => ?_, ?_⟩
  · show CC Tryd.prog 42 [.sl .sh 8 ((l.map secC).take 8)] H V _
    rw [← List.map_take]
    exact get_cc H V .sh (l.take 8) (by rw [List.length_take]; omega)
  simp -implicitDefEqProofs [go_sem]
  refine ⟨.agg (repC (cB l) (l.drop 8)), fun H V => ?_, ?_⟩
  · show CC Tryd.prog 42 [.sl .sh 8 ((l.map secC).drop 8)] H V _
    rw [← List.map_drop]
    exact get_cc H V .sh (l.drop 8) (by rw [List.length_drop]; omega)
  simp -implicitDefEqProofs [go_sem, repC]
  refine SWp.seq (Wp.s ?_)
  simp -implicitDefEqProofs [go_sem]
  rw [hV] at hokV
  rw [hV]
  refine SWp.seq (Wp.s ?_)
  by_cases hlt : (cA l).1 < (cB l).1
  · have hb : (best l).1 = (cB l).1 := by rw [best, if_pos hlt]
    have hn : new1 l = 1 := by rw [new1, if_pos hlt]
    have h0 : ¬ (cB l).1 = 0 := by omega
    rw [hb, if_neg h0, hn] at hokV
    rw [hb, if_neg h0, hn]
    simp -implicitDefEqProofs [go_sem, show ((cA l).1 : Int) < (cB l).1 by omega]
    refine SWp.seq (Wp.s ?_)
    simp -implicitDefEqProofs [go_sem, h0]
    refine Wp.s ?_
    simp -implicitDefEqProofs [go_sem]
    exact Fin.pu (.refl _) hokV hokH (by simp) (by simp)
  · have hb : (best l).1 = (cA l).1 := by rw [best, if_neg hlt]
    have hn : new1 l = 0 := by rw [new1, if_neg hlt]
    rw [hb, hn] at hokV
    rw [hb, hn]
    simp -implicitDefEqProofs [go_sem, show ¬ ((cA l).1 : Int) < (cB l).1 by omega]
    refine SWp.seq (Wp.s ?_)
    by_cases h0 : (cA l).1 = 0
    · rw [if_pos h0] at hokV
      rw [if_pos h0]
      simp -implicitDefEqProofs [go_sem, h0]
      refine Fin.pu (.of_eq ?_) hokV hokH (by simp) (by simp)
      simp [bothC, repC, h0]
    · rw [if_neg h0] at hokV
      rw [if_neg h0]
      simp -implicitDefEqProofs [go_sem, h0]
      refine Wp.s ?_
      simp -implicitDefEqProofs [go_sem]
      exact Fin.pu (.refl _) hokV hokH (by simp) (by simp)
end Go.Proofs.YtdiblbjchhjccaaDoor
namespace Go.Proofs.YtdiblbjchhjccaaDoor
open Go.Proofs
def rfV (l : List Sec) (n : Nat) (c : Nat × List UInt8) (e : Nat) : CV := .tup [secsV l, ci n, .sl .sh 1 (bs c.2), .v (.int .u32 c.1), er e]
def rfindV (d : Dk) (a : Int) : CV :=
  if findE d a ≠ 0 then rfV [] 0 (0, []) (findE d a) else if (best (findL d a)).1 = 0 then rfV [] 0 (0, []) 9 else rfV (findL d a) (new1 (findL d a)) (best (findL d a)) 0
theorem okV_rfV (i j : Nat) (l : List Sec) (n : Nat) (c : Nat × List UInt8) (e : Nat) : okV i j (rfV l n c e) := by
  rw [rfV, okV, okL, okL, okL, okL, okL, okL]
  exact ⟨okV_secsV _ _ _, by rw [okV]; trivial, by rw [okV_sh, okBs_t]; trivial, by rw [okV]; trivial, okV_er _ _ _, trivial⟩
theorem rfind_cc (H : Hp) (V : List Nat) (d : Dk) (a : Int) (hl : DkS d) : CC Tryd.prog 33 [.agg (dkC d), ci a] H V (Pu (rfindV d a) H V) := by
  refine CC.of_swp Tryd.func33 rfl (by kernel_rfl) (by rw [Tryd.ntmps33]; exact len_le _ _ rfl) fun hok hokH => ?_
  clear hok
  have bad : ∀ (e : Nat) {H' : Hp} {V' : List Nat}, rfindV d a = rfV [] 0 (0, []) e → H'.take H.length = H → V'.take V.length = V → Fin H.length V.length (Pu (rfindV d a) H V) (.tup [.v (.slice none 0 0), .v (.int .i64 0), .v (.slice none 0 0), .v (.int .u32 0), er e]) H' V' := fun e H' V' h1 h2 h3 => by
    rw [h1]
    exact Fin.pu (.tup (.cons (.nil 8 (by decide)) (.cons (.refl _) (.cons (.nil 1 (by decide)) (.cons (.refl _) (.cons (.refl _) .nil)))))) (okV_rfV _ _ _ _ _ _) hokH h2 h3
  have hl1 := hl.1
  refine SWp.seq (Wp.s ?_)
  simp -implicitDefEqProofs [go_sem, args0]
  refine SWp.seq (Wp.s ?_)
  simp -implicitDefEqProofs [go_sem]
  refine CC.mono (rCheck_cc _ _ d hl) ?_
  rintro _ _ _ ⟨rfl, rfl, rfl⟩
  simp -implicitDefEqProofs [go_sem]
  refine ⟨fun hc => ?_, fun hc => ?_⟩
  · have he : findE d a = checkD d := by rw [findE, readD, if_pos hc]
    exact bad (checkD d) (by rw [rfindV, he, if_pos hc]) (by simp) (by simp)
  refine SWp.seq (Wp.s ?_)
  have out : ∀ {H' : Hp} {V' : List Nat}, insideB d a 16 = false → H'.take H.length = H → V'.take V.length = V → Fin H.length V.length (Pu (rfindV d a) H V) (.tup [.v (.slice none 0 0), .v (.int .i64 0), .v (.slice none 0 0), .v (.int .u32 0), .v (.int .i64 2)]) H' V' := fun h1 h2 h3 => by
    have he : findE d a = 2 := by rw [findE, readD, if_neg (by simp [hc]), if_pos h1]
    exact bad 2 (by rw [rfindV, he, if_pos (by decide)]) h2 h3
  by_cases h1 : a < 0
  · simp -implicitDefEqProofs [go_sem, h1]
    exact out (inside_f (.inl h1)) (by simp) (by simp)
  by_cases h2 : (d.stable.length : Int) - 16 < a
  · simp -implicitDefEqProofs [go_sem, h1, h2, IntWalk.i64_in ((d.stable.length : Int) - 16) ⟨by omega, by omega⟩]
    exact out (inside_f (by omega)) (by simp) (by simp)
  simp -implicitDefEqProofs [go_sem, h1, h2, IntWalk.i64_in ((d.stable.length : Int) - 16) ⟨by omega, by omega⟩]
  have he : findE d a = 0 := by
    rw [findE, readD, if_neg (by simp [hc]), if_neg]
    rw [Bool.not_eq_false]
    simp only [insideB, Bool.and_eq_true, decide_eq_true_eq]
    omega
  have hl16 := findL_len he
  have hV : rfindV d a = if (best (findL d a)).1 = 0 then rfV [] 0 (0, []) 9 else rfV (findL d a) (new1 (findL d a)) (best (findL d a)) 0 := by rw [rfindV, if_neg (by simpa using he)]
  refine SWp.seq (Wp.s ?_)
  simp -implicitDefEqProofs [go_sem]
  refine CC.mono (show CC Tryd.prog 44 _ _ _ (Pu (.tup [secsV (findL d a), er (findE d a)]) _ _) from rRead_cc _ _ d ⟨a, 16⟩ hl) ?_
  rintro _ _ _ ⟨rfl, rfl, rfl⟩
  generalize findL d a = l at *
  simp -implicitDefEqProofs [go_sem]
  refine SWp.seq (Wp.s ?_)
  simp -implicitDefEqProofs [go_sem, hl16]
  rw [← List.map_take]
  refine CC.mono (parse_cc _ _ .sh (l.take 8) (by rw [List.length_take]; omega)) ?_
  rintro _ _ _ ⟨rfl, rfl, rfl⟩
  simp -implicitDefEqProofs [go_sem]
  refine SWp.seq (Wp.s ?_)
  simp -implicitDefEqProofs [go_sem, hl16]
  rw [← List.map_drop]
  refine CC.mono (parse_cc _ _ .sh (l.drop 8) (by rw [List.length_drop]; omega)) ?_
  rintro _ _ _ ⟨rfl, rfl, rfl⟩
  simp -implicitDefEqProofs [go_sem]
  rw [hV]
  have bad9 : ∀ {H' : Hp} {V' : List Nat}, H'.take H.length = H → V'.take V.length = V → (best l).1 = 0 → Fin H.length V.length (Pu (if (best l).1 = 0 then rfV [] 0 (0, []) 9 else rfV l (new1 l) (best l) 0) H V) (.tup [.v (.slice none 0 0), .v (.int .i64 0), .v (.slice none 0 0), .v (.int .u32 0), .v (.int .i64 9)]) H' V' := fun h2 h3 h => by
    rw [if_pos h]
    exact Fin.pu (.tup (.cons (.nil 8 (by decide)) (.cons (.refl _) (.cons (.nil 1 (by decide)) (.cons (.refl _) (.cons (.refl _) .nil)))))) (okV_rfV _ _ _ _ _ _) hokH h2 h3
  have good : ∀ {H' : Hp} {V' : List Nat} (n : Int) (c : Nat × List UInt8), H'.take H.length = H → V'.take V.length = V → n = new1 l → c = best l → c.1 ≠ 0 → Fin H.length V.length (Pu (if (best l).1 = 0 then rfV [] 0 (0, []) 9 else rfV l (new1 l) (best l) 0) H V) (.tup [secsV l, .v (.int .i64 n), .sl .sh 1 (bs c.2), .v (.int .u32 c.1), .v (.int .i64 0)]) H' V' := fun n c h2 h3 h4 h5 h => by
    subst h4 h5
    rw [if_neg h]
    exact Fin.pu (.refl _) (okV_rfV _ _ _ _ _ _) hokH h2 h3
  have hA : parseS (l.take 8) = cA l := rfl
  have hB : parseS (l.drop 8) = cB l := rfl
  have hbest : best l = if (cA l).1 < (cB l).1 then cB l else cA l := rfl
  have hnew : new1 l = if (cA l).1 < (cB l).1 then 1 else 0 := rfl
  rw [hA, hB]
  generalize cA l = A at *
  generalize cB l = B at *
  refine SWp.seq (Wp.s ?_)
  by_cases hz : A.1 = 0 ∧ B.1 = 0
  · simp -implicitDefEqProofs [go_sem, hz.1, hz.2]
    refine bad9 (by simp) (by simp) ?_
    rw [hbest]; split
    · exact hz.2
    · exact hz.1
  by_cases hlt : A.1 < B.1
  · rw [if_pos hlt] at hbest hnew
    have hB0 : ¬ B.1 = 0 := by omega
    by_cases hA0 : A.1 = 0
    · simp -implicitDefEqProofs [go_sem, hA0, hB0]
      refine SWp.seq (Wp.s ?_)
      simp -implicitDefEqProofs [go_sem, show 0 < B.1 by omega]
      exact good 1 B (by simp) (by simp) (by rw [hnew]; rfl) hbest.symm hB0
    · simp -implicitDefEqProofs [go_sem, hA0]
      refine SWp.seq (Wp.s ?_)
      simp -implicitDefEqProofs [go_sem, hlt]
      exact good 1 B (by simp) (by simp) (by rw [hnew]; rfl) hbest.symm hB0
  · rw [if_neg hlt] at hbest hnew
    have hA0 : ¬ A.1 = 0 := by omega
    simp -implicitDefEqProofs [go_sem, hA0]
    refine SWp.seq (Wp.s ?_)
    simp -implicitDefEqProofs [go_sem, hlt]
    refine Wp.s ?_
    simp -implicitDefEqProofs [go_sem]
    exact good 0 A (by simp) (by simp) (by rw [hnew]; rfl) hbest.symm hA0
end Go.Proofs.YtdiblbjchhjccaaDoor
namespace Go.Proofs.YtdiblbjchhjccaaDoor
open Go.Proofs
def ldV (x : List UInt8 × Nat × Nat) : CV := .tup [.sl .sh 1 (bs x.1), ci x.2.1, er x.2.2]
theorem okV_ldV (i j : Nat) (x : List UInt8 × Nat × Nat) : okV i j (ldV x) := by
  rw [ldV, okV, okL, okL, okL, okL]
  exact ⟨by rw [okV_sh, okBs_t]; trivial, by rw [okV]; trivial, okV_er _ _ _, trivial⟩
theorem best_eq (l : List Sec) : best l = if new1 l = 1 then cB l else cA l := by
  unfold best new1; split <;> rfl
theorem pay_len (l : List Sec) : (parseS l).2.length ≤ 256 := by
  unfold parseS; split
  · rw [pay, List.length_take]
    have := ((dataS l).getD 0 0).toNat_lt
    omega
  · exact Nat.zero_le _
theorem Load_cc (H : Hp) (V : List Nat) (d : Dk) (a : Int) (hl : DkS d) : CC Tryd.prog 15 [.agg (dkC d), ci a] H V (Pu (ldV (loadS d a)) H V) := by
  refine CC.of_swp Tryd.func15 rfl (by kernel_rfl) (by rw [Tryd.ntmps15]; exact len_le _ _ rfl) fun hok hokH => ?_
  clear hok
  have bad : ∀ (e : Nat) {H' : Hp} {V' : List Nat}, loadS d a = ([], 0, e) → H'.take H.length = H → V'.take V.length = V → Fin H.length V.length (Pu (ldV (loadS d a)) H V) (.tup [.v (.slice none 0 0), .v (.int .i64 0), er e]) H' V' := fun e H' V' h1 h2 h3 => by
    rw [h1]
    exact Fin.pu (.tup (.cons (.nil 1 (by decide)) (.cons (.refl _) (.cons (.refl _) .nil)))) (okV_ldV _ _ _) hokH h2 h3
  refine SWp.seq (Wp.s ?_)
  simp -implicitDefEqProofs [go_sem, args0]
  refine SWp.seq (Wp.s ?_)
  simp -implicitDefEqProofs [go_sem]
  refine CC.mono (find_cc _ _ d a hl) ?_
  rintro _ _ _ ⟨rfl, rfl, rfl⟩
  by_cases he : findE d a = 0
  case neg =>
    have hV : findV d a = .tup [.agg (repC (0, []) [] ++ repC (0, []) []), ci 0, er (findE d a)] := by rw [findV, if_pos he]
    rw [hV]
    simp -implicitDefEqProofs [go_sem, repC]
    refine Wp.s ?_
    simp -implicitDefEqProofs [go_sem, he]
    exact bad _ (by rw [loadS, if_pos he]) (by simp) (by simp)
  by_cases hb : (best (findL d a)).1 = 0
  · have hV : findV d a = .tup [.agg (bothC (findL d a)), ci 0, er 9] := by rw [findV, if_neg (by simpa using he), if_pos hb]
    rw [hV]
    simp -implicitDefEqProofs [go_sem, bothC, repC]
    refine Wp.s ?_
    simp -implicitDefEqProofs [go_sem]
    exact bad 9 (by rw [loadS, if_neg (by simpa using he), if_pos hb]) (by simp) (by simp)
  have hV : findV d a = .tup [.agg (bothC (findL d a)), ci (new1 (findL d a)), er 0] := by rw [findV, if_neg (by simpa using he), if_neg hb]
  have hL : loadS d a = ((best (findL d a)).2, (best (findL d a)).1, 0) := by rw [loadS, if_neg (by simpa using he), if_neg hb]
  rw [hV, hL]
  clear bad hV hL hb
  generalize findL d a = l at *
  simp -implicitDefEqProofs [go_sem, bothC, repC]
  refine SWp.seq (Wp.s ?_)
  simp -implicitDefEqProofs [go_sem]
  refine SWp.seq (SWp.drawnL [0, 1, 2, 3, 4, 6, 7, 8, 9, 10, 5, 11, 12, 13] (by kernel_rfl) (by kernel_rfl) rfl ?_)
  have hn : new1 l = 1 ∨ new1 l = 0 := by unfold new1; split <;> simp
  have hbe := best_eq l
  rcases hn with hn | hn
  · rw [hn] at hbe
    rw [hn]
    simp -implicitDefEqProofs [go_sem]
    refine CC.mono (cloneBy_cc _ _ .sh _ (by rw [bs_len]; have : (cB l).2.length ≤ 256 := pay_len _; omega)) ?_
    rintro _ _ _ ⟨v, rfl, rfl, rfl⟩
    simp -implicitDefEqProofs [go_sem]
    refine Wp.s ?_
    simp -implicitDefEqProofs [go_sem]
    rw [hbe]
    exact Fin.pu (.tup (.cons (.sh _ _ _) (.cons (.refl _) (.cons (.refl _) .nil)))) (okV_ldV _ _ _) hokH (by simp) (by simp)
  · rw [hn] at hbe
    rw [hn]
    simp -implicitDefEqProofs [go_sem]
    refine CC.mono (cloneBy_cc _ _ .sh _ (by rw [bs_len]; have : (cA l).2.length ≤ 256 := pay_len _; omega)) ?_
    rintro _ _ _ ⟨v, rfl, rfl, rfl⟩
    simp -implicitDefEqProofs [go_sem]
    refine Wp.s ?_
    simp -implicitDefEqProofs [go_sem]
    rw [hbe]
    exact Fin.pu (.tup (.cons (.sh _ _ _) (.cons (.refl _) (.cons (.refl _) .nil)))) (okV_ldV _ _ _) hokH (by simp) (by simp)
theorem rLoad_cc (H : Hp) (V : List Nat) (d : Dk) (a : Int) (hl : DkS d) : CC Tryd.prog 16 [.agg (dkC d), ci a] H V (Pu (ldV (loadS d a)) H V) := by
  refine CC.of_swp Tryd.func16 rfl (by kernel_rfl) (by rw [Tryd.ntmps16]; exact len_le _ _ rfl) fun hok hokH => ?_
  clear hok
  refine SWp.seq (Wp.s ?_)
  simp -implicitDefEqProofs [go_sem, args0]
  refine SWp.seq (Wp.s ?_)
  simp -implicitDefEqProofs [go_sem]
  refine CC.mono (rfind_cc _ _ d a hl) ?_
  rintro _ _ _ ⟨rfl, rfl, rfl⟩
  have go : ∀ (l : List Sec) (n : Nat) (c : Nat × List UInt8) (e : Nat), rfindV d a = rfV l n c e → loadS d a = (c.2, c.1, e) → c.1 < 4294967296 → rfindV d a = rfV l n c e := fun _ _ _ _ h _ _ => h
  have key : ∃ (l : List Sec) (n : Nat) (c : Nat × List UInt8) (e : Nat), rfindV d a = rfV l n c e ∧ loadS d a = (c.2, c.1, e) ∧ c.1 < 4294967296 := by
    unfold rfindV loadS
    split
    · exact ⟨_, _, _, _, rfl, rfl, by decide⟩
    · split
      · exact ⟨_, _, _, _, rfl, rfl, by decide⟩
      · exact ⟨_, _, _, _, rfl, rfl, by
          unfold best; split <;> exact parseS_lt _⟩
  obtain ⟨l, n, c, e, h1, h2, h3⟩ := key
  rw [h1, h2]
  have w : IntKind.i64.wrap (c.1 : Int) = c.1 := IntWalk.i64_in _ ⟨by omega, by omega⟩
  simp -implicitDefEqProofs [go_sem, rfV]
  refine SWp.seq (Wp.s ?_)
  simp -implicitDefEqProofs [go_sem, w]
  refine Wp.s ?_
  simp -implicitDefEqProofs [go_sem]
  exact Fin.pu (.refl _) (okV_ldV _ _ (c.2, c.1, e)) hokH (by simp) (by simp)
end Go.Proofs.YtdiblbjchhjccaaDoor
