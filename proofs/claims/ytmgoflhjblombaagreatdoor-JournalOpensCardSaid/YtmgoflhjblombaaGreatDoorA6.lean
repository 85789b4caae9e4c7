import Derived.Test.YtmgoflhjblombaaGreatDoorA5
import Derived.ChangeKeysEq
import Derived.Test.YtmgoflhjblombaaGreatDoorA4
import Derived.WalkSmall
set_option linter.unusedSimpArgs false
set_option linter.unusedVariables false
set_option linter.unusedSectionVars false
namespace Go.Proofs.YtmgoflhjblombaaGreatDoor
open Go.Proofs
theorem sparse_cc (H : Hp) (V : List Nat) (tk : Tk) (l : List Sec) (hl : l.length = 8) : CC Tryz.prog 108 [.sl tk 8 (l.map secC)] H V (Pu (.tup [.sl .sh 1 (bs (parseS l).2), .v (.int .u32 (parseS l).1)]) H V) := by
  refine CC.of_swp Tryz.func108 rfl (by kernel_rfl) (by rw [Tryz.ntmps108]; exact len_le _ _ rfl) fun hok hokH => ?_
  have h0 : l.getD 0 sec0 = l[0] := by rw [List.getD_eq_getElem?_getD, List.getElem?_eq_getElem (by omega)]; rfl
  have hg1 : gn l[0] = g0 l := by rw [g0, h0]
  have bad : ∀ {H' : Hp} {V' : List Nat}, parseS l = (0, []) → H'.take H.length = H → V'.take V.length = V → Fin H.length V.length (Pu (.tup [.sl .sh 1 (bs (parseS l).2), .v (.int .u32 (parseS l).1)]) H V) (.tup [.v (.slice none 0 0), .v (.int .u32 0)]) H' V' := fun h1 h2 h3 => by
    rw [h1]
    exact Fin.tup2 (.nil 1 (by decide)) (.refl _) (by rw [okV_sh, okBs_t]; trivial) (by rw [okV]; trivial) hokH h2 h3
  refine SWp.seq (Wp.s ?_)
  simp -implicitDefEqProofs [go_sem, args0]
  refine SWp.seq (Wp.s ?_)
  simp -implicitDefEqProofs [go_sem, hl]
  refine CC.mono (sGeneration_cc _ _ _) ?_
  rintro _ _ _ ⟨rfl, rfl, rfl⟩
  simp -implicitDefEqProofs [go_sem]
  refine SWp.seq (Wp.s ?_)
  simp -implicitDefEqProofs [go_sem]
  refine SWp.join (α := CV × List Nat) (fun x => ([(4, .v (.int .u32 (g0 l))), (5, x.1)], H, x.2))
      (fun x => (∃ k v, x.1 = .sl (.own k v) 1 (bs (dataS l)) ∧ x.2[k]? = some v ∧ V.length ≤ k) ∧ V.length ≤ x.2.length ∧ x.2.take V.length = V ∧ l.all (fun s => gn s == g0 l) = true) ?_ ?_
  · refine SWp.seq (Wp.s ?_)
    simp -implicitDefEqProofs [go_sem]
    refine SWp.block ?_
    refine SWp.loop (α := Nat × CV × List Nat) (fun x => ([(0, .sl tk 8 (l.map secC)), (4, .v (.int .u32 (g0 l))), (5, x.2.1), (6, ci x.1)], H, x.2.2))
      (fun x => x.1 ≤ 8 ∧ ApB V.length (dataS (l.take x.1)) x.2.1 x.2.2 ∧ V.length ≤ x.2.2.length ∧ x.2.2.take V.length = V ∧ (l.take x.1).all (fun s => gn s == g0 l) = true) (fun x => 8 - x.1) (0, .v (.slice none 0 0), V) ⟨by omega, .inl ⟨rfl, rfl⟩, Nat.le_refl _, by simp, rfl⟩ (Sh.forget (by simp -implicitDefEqProofs [go_sem, hg1]) rfl rfl) ?_
    rintro ⟨i, cv, V'⟩ ⟨hi, ha, hv1, hv2, hg⟩
    dsimp only at hi ha hv1 hv2 hg ⊢
    refine SWp.seq (Wp.s ?_)
    simp -implicitDefEqProofs [go_sem, hl]
    refine ⟨fun h => ?_, fun h => ?_⟩
    case refine_2 =>
      obtain rfl : i = 8 := by omega
      rw [List.take_of_length_le (by omega)] at ha hg
      rcases ha with ⟨rfl, he⟩ | ⟨k, v, rfl, hv, hk⟩
      · have := congrArg List.length he
        rw [dataS_len] at this; simp at this; omega
      · exact ⟨_, V', ⟨⟨k, v, rfl, hv, hk⟩, hv1, hv2, by simpa using hg⟩, Sh.forget (by simp -implicitDefEqProofs [go_sem]) rfl rfl⟩
    have h8 : i < l.length := by omega
    refine SWp.seq (SWp.block (SWp.seq (Wp.s ?_)))
    simp -implicitDefEqProofs [go_sem, h8]
    refine CC.mono (sGeneration_cc _ _ _) ?_
    rintro _ _ _ ⟨rfl, rfl, rfl⟩
    by_cases hgi : gn l[i] = g0 l
    case neg =>
      have hp : parseS l = (0, []) := by
        rw [parseS, if_neg]
        intro hv
        rw [valid, Bool.and_eq_true] at hv
        have := List.all_eq_true.1 hv.1 _ (List.getElem_mem h8)
        exact hgi (by simpa using this)
      simp -implicitDefEqProofs [go_sem, show ¬ ((gn l[i] : Int) = g0 l) by omega]
      exact bad hp (by simp) hv2
    simp -implicitDefEqProofs [go_sem, hgi]
    have hg' : (l.take (i + 1)).all (fun s => gn s == g0 l) = true := by
      rw [List.take_succ_eq_append_getElem h8, List.all_append, hg]
      simp [hgi]
    refine Wp.s ?_
    rcases ha with ⟨rfl, he⟩ | ⟨k, v, rfl, hv, hk⟩
    · simp -implicitDefEqProofs [go_sem, secC_drop4, h8]
      have hap : ApB V.length (dataS (l.take (i + 1))) (.sl (.own V'.length 0) 1 (bs (l[i].val.drop 4))) (V' ++ [0]) := .inr ⟨V'.length, 0, by rw [dataS_succ _ _ h8, he]; rfl, by simp, hv1⟩
      refine ⟨by rw [l[i].len]; omega, Wp.s ?_⟩
      simp -implicitDefEqProofs [go_sem, wrap_succ (show i ≤ 1000000000 by omega)]
      exact ⟨i + 1, _, V' ++ [0], ⟨by omega, hap, by simp; omega, by rw [List.take_append_of_le_length hv1]; exact hv2, by simpa using hg'⟩, by omega, Sh.forget (by simp -implicitDefEqProofs [go_sem]) rfl rfl⟩
    · simp -implicitDefEqProofs [go_sem, secC_drop4, hv, h8]
      have hkv := (List.getElem?_eq_some_iff.1 hv).1
      have hap : ApB V.length (dataS (l.take (i + 1))) (.sl (.own k (v + 1)) 1 (bs (dataS (l.take i) ++ l[i].val.drop 4))) (V'.set k (v + 1)) := .inr ⟨k, v + 1, by rw [dataS_succ _ _ h8], by rw [List.getElem?_set_self hkv], hk⟩
      refine ⟨by rw [l[i].len, dataS_len, List.length_take]; omega, Wp.s ?_⟩
      simp -implicitDefEqProofs [go_sem, wrap_succ (show i ≤ 1000000000 by omega)]
      exact ⟨i + 1, _, V'.set k (v + 1), ⟨by omega, hap, by simpa using hv1, by rw [List.take_set_of_le hk]; exact hv2, by simpa using hg'⟩, by omega, Sh.forget (by simp -implicitDefEqProofs [go_sem]) rfl rfl⟩
  · rintro ⟨cv, V'⟩ ⟨⟨k, v, rfl, hv, hk⟩, hv1, hv2, hg⟩
    dsimp only
    have hdl : (dataS l).length = 32 := by rw [dataS_len, hl]
    have hd0 : (dataS l).getD 0 0 = (dataS l)[0] := by rw [List.getD_eq_getElem?_getD, List.getElem?_eq_getElem (by omega)]; rfl
    refine SWp.seq (Wp.s ?_)
    simp -implicitDefEqProofs [go_sem, hdl]
    have hmlt := (dataS l)[0].toNat_lt
    generalize hm : (dataS l)[0].toNat = m at *
    have hmw : IntKind.i64.wrap (m : Int) = m := IntWalk.i64_in _ ⟨by omega, by omega⟩
    rw [hmw]
    refine SWp.seq (Wp.s ?_)
    simp -implicitDefEqProofs [go_sem]
    refine CC.mono (scap2_cc _ _) ?_
    rintro _ _ _ ⟨rfl, rfl, rfl⟩
    by_cases h31 : 31 < m
    · have hp : parseS l = (0, []) := by
        rw [parseS, if_neg]
        intro hv
        rw [valid, Bool.and_eq_true, okData, hd0, hm, Bool.and_eq_true, decide_eq_true_eq] at hv
        omega
      simp -implicitDefEqProofs [go_sem, hmw, show (31 : Int) < m by omega]
      exact bad hp (by simp) hv2
    have hm1 := wrap_succ (show m ≤ 1000000000 by omega)
    simp -implicitDefEqProofs [go_sem, hmw, hm1, show ¬ (31 : Int) < m by omega, hdl]
    have hgood : zs ((dataS l).drop (m + 1)) = true → parseS l = (g0 l, ((dataS l).drop 1).take m) := fun hz => by
      rw [parseS, if_pos, pay, hd0, hm]
      rw [valid, hg, okData, hd0, hm]
      simp only [Bool.true_and, Bool.and_eq_true, decide_eq_true_eq]
      exact ⟨by omega, hz⟩
    have hbad : zs ((dataS l).drop (m + 1)) = false → parseS l = (0, []) := fun hz => by
      rw [parseS, if_neg]
      intro hv
      rw [valid, Bool.and_eq_true, okData, hd0, hm, Bool.and_eq_true] at hv
      have := hv.2.2
      rw [← zs, hz] at this; cases this
    refine SWp.join (α := Unit) (fun x => ([(4, .v (.int .u32 (g0 l))), (5, .sl (.own k v) 1 (bs (dataS l))), (7, ci m)], H, V')) (fun x => zs ((dataS l).drop (m + 1)) = true) ?_ ?_
    · refine SWp.seq (Wp.s ?_)
      simp -implicitDefEqProofs [go_sem, hm1]
      refine SWp.block ?_
      refine SWp.loop (α := Nat) (fun i => ([(4, .v (.int .u32 (g0 l))), (5, .sl (.own k v) 1 (bs (dataS l))), (7, ci m), (8, ci i)], H, V')) (fun i => i ≤ 32 ∧ zs ((dataS l).drop (m + 1)) = zs ((dataS l).drop i)) (fun i => 32 - i) (m + 1) ⟨by omega, rfl⟩ (Sh.forget (by simp -implicitDefEqProofs [go_sem]) rfl rfl) ?_
      rintro i ⟨hi, hz⟩
      dsimp only
      refine SWp.seq (Wp.s ?_)
      simp -implicitDefEqProofs [go_sem, hdl]
      refine ⟨fun h => ?_, fun h => ?_⟩
      case refine_2 =>
        obtain rfl : i = 32 := by omega
        exact ⟨by rw [hz, List.drop_of_length_le (by omega)]; rfl, Sh.forget (by simp -implicitDefEqProofs [go_sem]) rfl rfl⟩
      have hil : i < (dataS l).length := by omega
      refine SWp.seq (SWp.block (SWp.seq (Wp.s ?_)))
      simp -implicitDefEqProofs [go_sem, hil]
      have hdr : (dataS l).drop i = (dataS l)[i] :: (dataS l).drop (i + 1) := List.drop_eq_getElem_cons hil
      refine Wp.s ?_
      by_cases hx : (dataS l)[i] = 0
      · have hz' : zs ((dataS l).drop (m + 1)) = zs ((dataS l).drop (i + 1)) := by
          rw [hz, hdr, zs, List.all_cons, hx]; rfl
        simp -implicitDefEqProofs [go_sem, hx]
        refine Wp.s ?_
        simp -implicitDefEqProofs [go_sem, wrap_succ (show i ≤ 1000000000 by omega)]
        exact ⟨i + 1, ⟨by omega, hz'⟩, by omega, Sh.forget (by simp -implicitDefEqProofs [go_sem]) rfl rfl⟩
      · have hz' : zs ((dataS l).drop (m + 1)) = false := by
          rw [hz, hdr, zs, List.all_cons]
          have : ((dataS l)[i] == 0) = false := by simpa using hx
          rw [this]; rfl
        have hx' : ¬ (dataS l)[i].toNat = 0 := fun e => hx (UInt8.toNat_inj.1 e)
        simp -implicitDefEqProofs [go_sem, hx']
        exact bad (hbad hz') (by simp) hv2
    · rintro _ hz
      dsimp only
      refine Wp.s ?_
      simp -implicitDefEqProofs [go_sem, hm1, hdl]
      rw [hgood hz]
      refine ⟨by omega, by omega, Fin.tup2 ?_ (.refl _) (by rw [okV_sh, okBs_t]; trivial) (by rw [okV]; trivial) hokH (by simp) hv2⟩
      refine .of_eq ?_
      rw [← List.drop_one, bs_drop, List.drop_take, Nat.add_sub_cancel]
end Go.Proofs.YtmgoflhjblombaaGreatDoor
namespace Go.Proofs.YtmgoflhjblombaaGreatDoor
open Go.Proofs
def repC (c : Nat × List UInt8) (l : List Sec) : List CV := [ci c.1, .sl .sh 1 (bs c.2), secsV l]
def bothC (l : List Sec) : List CV := repC (cA l) (l.take 8) ++ repC (cB l) (l.drop 8)
def findV (d : Dk) (a : Int) : CV :=
  if findE d a ≠ 0 then .tup [.agg (repC (0, []) [] ++ repC (0, []) []), ci 0, er (findE d a)] else
  if (best (findL d a)).1 = 0 then .tup [.agg (bothC (findL d a)), ci 0, er 9] else .tup [.agg (bothC (findL d a)), ci (new1 (findL d a)), er 0]
theorem okL_repC (i j : Nat) (c : Nat × List UInt8) (l : List Sec) : okL i j (repC c l) := by
  rw [repC, okL, okL, okL, okL]
  exact ⟨by rw [okV]; trivial, by rw [okV_sh, okBs_t]; trivial, okV_secsV _ _ _, trivial⟩
theorem okL_app {i j : Nat} : ∀ {a b : List CV}, okL i j a → okL i j b → okL i j (a ++ b)
  | [], b, _, h => h
  | x :: a, b, h, g => by rw [okL] at h; rw [List.cons_append, okL]; exact ⟨h.1, okL_app h.2 g⟩
theorem okV_findV (i j : Nat) (d : Dk) (a : Int) : okV i j (findV d a) := by
  have h : ∀ (c : List CV) (x : Int) (e : Nat), okL i j c → okV i j (.tup [.agg c, ci x, er e]) := fun c x e hc => by
    rw [okV, okL, okL, okL, okL, okV_agg]
    exact ⟨hc, by rw [okV]; trivial, okV_er _ _ _, trivial⟩
  unfold findV
  split
  · exact h _ _ _ (okL_app (okL_repC _ _ _ _) (okL_repC _ _ _ _))
  · split <;> exact h _ _ _ (okL_app (okL_repC _ _ _ _) (okL_repC _ _ _ _))
theorem findL_len {d : Dk} {a : Int} (h : findE d a = 0) : (findL d a).length = 16 := by
  unfold findE at h
  unfold findL
  unfold readD at *
  split at h
  · rename_i h1; exact absurd h h1
  · split at h
    · cases h
    · rename_i h1 h2
      rw [if_neg h1, if_neg h2]
      have hq : insideB d a 16 = true := by simpa using h2
      simp only [insideB, Bool.and_eq_true, decide_eq_true_eq] at hq
      rw [List.length_take, List.length_drop, newestD_len]
      have : (16 : Int).toNat = 16 := rfl
      omega
theorem parseS_lt (l : List Sec) : (parseS l).1 < 4294967296 := by
  unfold parseS; split
  · exact gn_lt _
  · omega
theorem sfind_cc (H : Hp) (V : List Nat) (d : Dk) (a : Int) (hl : DkS d) : CC Tryz.prog 82 [.agg (dkC d), ci a] H V (Pu (findV d a) H V) := by
  refine CC.of_swp Tryz.func82 rfl (by kernel_rfl) (by rw [Tryz.ntmps82]; exact len_le _ _ rfl) fun hok hokH => ?_
  clear hok
  refine SWp.seq (Wp.s ?_)
  simp -implicitDefEqProofs [go_sem, args0]
  refine SWp.seq (Wp.s ?_)
  simp -implicitDefEqProofs [go_sem]
  refine CC.mono (show CC Tryz.prog 29 _ _ _ (Pu (.tup [secsV (findL d a), er (findE d a)]) _ _) from sRead_cc _ _ d ⟨a, 16⟩ hl) ?_
  rintro _ _ _ ⟨rfl, rfl, rfl⟩
  simp -implicitDefEqProofs [go_sem]
  refine SWp.seq (Wp.s ?_)
  simp -implicitDefEqProofs [go_sem]
  refine ⟨fun he => ?_, fun he => ?_⟩
  · rw [findV, if_pos he]
    exact Fin.pu (.tup (.cons (.agg (.cons (.refl _) (.cons (.nil 1 (by decide)) (.cons (.nil 8 (by decide)) (.cons (.refl _) (.cons (.nil 1 (by decide)) (.cons (.nil 8 (by decide)) .nil))))))) (.cons (.refl _) (.cons (.refl _) .nil))))
      (by have := okV_findV H.length V.length d a; rwa [findV, if_pos he] at this) hokH (by simp) (by simp)
  have hl16 := findL_len he
  have hV : findV d a = if (best (findL d a)).1 = 0 then .tup [.agg (bothC (findL d a)), ci 0, er 9] else .tup [.agg (bothC (findL d a)), ci (new1 (findL d a)), er 0] := by rw [findV, if_neg (by simpa using he)]
  have hokV := okV_findV H.length V.length d a
  generalize findL d a = l at *
  refine SWp.seq (SWp.drawnT [] [8] (.s 0 .pl <| .s 1 .pl <| .s 3 .pl <| .s 4 .pl <| .c 2 <| .c 5 <| .s 6 .pl <| .s 7 .pl <| .s 8 .st <| .n) (by kernel_rfl) (by kernel_rfl) ?_)
  simp -implicitDefEqProofs [go_sem, hl16]
  refine ⟨.agg (repC (cA l) (l.take 8)), fun H V => ?_, ?_⟩
  · show CC Tryz.prog 101 [.sl .sh 8 ((l.map secC).take 8)] H V _
    rw [← List.map_take]
    exact sget_cc H V .sh (l.take 8) (by rw [List.length_take]; omega)
  simp -implicitDefEqProofs [go_sem]
  refine ⟨.agg (repC (cB l) (l.drop 8)), fun H V => ?_, ?_⟩
  · show CC Tryz.prog 101 [.sl .sh 8 ((l.map secC).drop 8)] H V _
    rw [← List.map_drop]
    exact sget_cc H V .sh (l.drop 8) (by rw [List.length_drop]; omega)
  simp -implicitDefEqProofs [go_sem, repC]
  refine SWp.seq (Wp.s ?_)
  simp -implicitDefEqProofs [go_sem]
  rw [hV] at hokV
  rw [hV]
  refine SWp.seq (Wp.s ?_)
  by_cases hlt : (cA l).1 < (cB l).1
  · have hb : (best l).1 = (cB l).1 := by rw [best, if_pos hlt]
    have hn : new1 l = 1 := by rw [new1, if_pos hlt]
    have h0 : ¬ (cB l).1 = 0 := by omega
    rw [hb, if_neg h0, hn] at hokV
    rw [hb, if_neg h0, hn]
    simp -implicitDefEqProofs [go_sem, show ((cA l).1 : Int) < (cB l).1 by omega]
    refine SWp.seq (Wp.s ?_)
    simp -implicitDefEqProofs [go_sem, h0]
    refine Wp.s ?_
    simp -implicitDefEqProofs [go_sem]
    exact Fin.pu (.refl _) hokV hokH (by simp) (by simp)
  · have hb : (best l).1 = (cA l).1 := by rw [best, if_neg hlt]
    have hn : new1 l = 0 := by rw [new1, if_neg hlt]
    rw [hb, hn] at hokV
    rw [hb, hn]
    simp -implicitDefEqProofs [go_sem, show ¬ ((cA l).1 : Int) < (cB l).1 by omega]
    refine SWp.seq (Wp.s ?_)
    by_cases h0 : (cA l).1 = 0
    · rw [if_pos h0] at hokV
      rw [if_pos h0]
      simp -implicitDefEqProofs [go_sem, h0]
      refine Fin.pu (.of_eq ?_) hokV hokH (by simp) (by simp)
      simp [bothC, repC, h0]
    · rw [if_neg h0] at hokV
      rw [if_neg h0]
      simp -implicitDefEqProofs [go_sem, h0]
      refine Wp.s ?_
      simp -implicitDefEqProofs [go_sem]
      exact Fin.pu (.refl _) hokV hokH (by simp) (by simp)
end Go.Proofs.YtmgoflhjblombaaGreatDoor
namespace Go.Proofs.YtmgoflhjblombaaGreatDoor
open Go.Proofs
def rfV (l : List Sec) (n : Nat) (c : Nat × List UInt8) (e : Nat) : CV := .tup [secsV l, ci n, .sl .sh 1 (bs c.2), .v (.int .u32 c.1), er e]
def rfindV (d : Dk) (a : Int) : CV :=
  if findE d a ≠ 0 then rfV [] 0 (0, []) (findE d a) else if (best (findL d a)).1 = 0 then rfV [] 0 (0, []) 9 else rfV (findL d a) (new1 (findL d a)) (best (findL d a)) 0
theorem okV_rfV (i j : Nat) (l : List Sec) (n : Nat) (c : Nat × List UInt8) (e : Nat) : okV i j (rfV l n c e) := by
  rw [rfV, okV, okL, okL, okL, okL, okL, okL]
  exact ⟨okV_secsV _ _ _, by rw [okV]; trivial, by rw [okV_sh, okBs_t]; trivial, by rw [okV]; trivial, okV_er _ _ _, trivial⟩
theorem srfind_cc (H : Hp) (V : List Nat) (d : Dk) (a : Int) (hl : DkS d) : CC Tryz.prog 89 [.agg (dkC d), ci a] H V (Pu (rfindV d a) H V) := by
  refine CC.of_swp Tryz.func89 rfl (by kernel_rfl) (by rw [Tryz.ntmps89]; exact len_le _ _ rfl) fun hok hokH => ?_
  clear hok
  have bad : ∀ (e : Nat) {H' : Hp} {V' : List Nat}, rfindV d a = rfV [] 0 (0, []) e → H'.take H.length = H → V'.take V.length = V → Fin H.length V.length (Pu (rfindV d a) H V) (.tup [.v (.slice none 0 0), .v (.int .i64 0), .v (.slice none 0 0), .v (.int .u32 0), er e]) H' V' := fun e H' V' h1 h2 h3 => by
    rw [h1]
    exact Fin.pu (.tup (.cons (.nil 8 (by decide)) (.cons (.refl _) (.cons (.nil 1 (by decide)) (.cons (.refl _) (.cons (.refl _) .nil)))))) (okV_rfV _ _ _ _ _ _) hokH h2 h3
  have hl1 := hl.1
  refine SWp.seq (Wp.s ?_)
  simp -implicitDefEqProofs [go_sem, args0]
  refine SWp.seq (Wp.s ?_)
  simp -implicitDefEqProofs [go_sem]
  refine CC.mono (srCheck_cc _ _ d hl) ?_
  rintro _ _ _ ⟨rfl, rfl, rfl⟩
  simp -implicitDefEqProofs [go_sem]
  refine ⟨fun hc => ?_, fun hc => ?_⟩
  · have he : findE d a = checkD d := by rw [findE, readD, if_pos hc]
    exact bad (checkD d) (by rw [rfindV, he, if_pos hc]) (by simp) (by simp)
  refine SWp.seq (Wp.s ?_)
  have out : ∀ {H' : Hp} {V' : List Nat}, insideB d a 16 = false → H'.take H.length = H → V'.take V.length = V → Fin H.length V.length (Pu (rfindV d a) H V) (.tup [.v (.slice none 0 0), .v (.int .i64 0), .v (.slice none 0 0), .v (.int .u32 0), .v (.int .i64 2)]) H' V' := fun h1 h2 h3 => by
    have he : findE d a = 2 := by rw [findE, readD, if_neg (by simp [hc]), if_pos h1]
    exact bad 2 (by rw [rfindV, he, if_pos (by decide)]) h2 h3
  by_cases h1 : a < 0
  · simp -implicitDefEqProofs [go_sem, h1]
    exact out (inside_f (.inl h1)) (by simp) (by simp)
  by_cases h2 : (d.stable.length : Int) - 16 < a
  · simp -implicitDefEqProofs [go_sem, h1, h2, IntWalk.i64_in ((d.stable.length : Int) - 16) ⟨by omega, by omega⟩]
    exact out (inside_f (by omega)) (by simp) (by simp)
  simp -implicitDefEqProofs [go_sem, h1, h2, IntWalk.i64_in ((d.stable.length : Int) - 16) ⟨by omega, by omega⟩]
  have he : findE d a = 0 := by
    rw [findE, readD, if_neg (by simp [hc]), if_neg]
    rw [Bool.not_eq_false]
    simp only [insideB, Bool.and_eq_true, decide_eq_true_eq]
    omega
  have hl16 := findL_len he
  have hV : rfindV d a = if (best (findL d a)).1 = 0 then rfV [] 0 (0, []) 9 else rfV (findL d a) (new1 (findL d a)) (best (findL d a)) 0 := by rw [rfindV, if_neg (by simpa using he)]
  refine SWp.seq (Wp.s ?_)
  simp -implicitDefEqProofs [go_sem]
  refine CC.mono (show CC Tryz.prog 39 _ _ _ (Pu (.tup [secsV (findL d a), er (findE d a)]) _ _) from srRead_cc _ _ d ⟨a, 16⟩ hl) ?_
  rintro _ _ _ ⟨rfl, rfl, rfl⟩
  generalize findL d a = l at *
  simp -implicitDefEqProofs [go_sem]
  refine SWp.seq (Wp.s ?_)
  simp -implicitDefEqProofs [go_sem, hl16]
  rw [← List.map_take]
  refine CC.mono (sparse_cc _ _ .sh (l.take 8) (by rw [List.length_take]; omega)) ?_
  rintro _ _ _ ⟨rfl, rfl, rfl⟩
  simp -implicitDefEqProofs [go_sem]
  refine SWp.seq (Wp.s ?_)
  simp -implicitDefEqProofs [go_sem, hl16]
  rw [← List.map_drop]
  refine CC.mono (sparse_cc _ _ .sh (l.drop 8) (by rw [List.length_drop]; omega)) ?_
  rintro _ _ _ ⟨rfl, rfl, rfl⟩
  simp -implicitDefEqProofs [go_sem]
  rw [hV]
  have bad9 : ∀ {H' : Hp} {V' : List Nat}, H'.take H.length = H → V'.take V.length = V → (best l).1 = 0 → Fin H.length V.length (Pu (if (best l).1 = 0 then rfV [] 0 (0, []) 9 else rfV l (new1 l) (best l) 0) H V) (.tup [.v (.slice none 0 0), .v (.int .i64 0), .v (.slice none 0 0), .v (.int .u32 0), .v (.int .i64 9)]) H' V' := fun h2 h3 h => by
    rw [if_pos h]
    exact Fin.pu (.tup (.cons (.nil 8 (by decide)) (.cons (.refl _) (.cons (.nil 1 (by decide)) (.cons (.refl _) (.cons (.refl _) .nil)))))) (okV_rfV _ _ _ _ _ _) hokH h2 h3
  have good : ∀ {H' : Hp} {V' : List Nat} (n : Int) (c : Nat × List UInt8), H'.take H.length = H → V'.take V.length = V → n = new1 l → c = best l → c.1 ≠ 0 → Fin H.length V.length (Pu (if (best l).1 = 0 then rfV [] 0 (0, []) 9 else rfV l (new1 l) (best l) 0) H V) (.tup [secsV l, .v (.int .i64 n), .sl .sh 1 (bs c.2), .v (.int .u32 c.1), .v (.int .i64 0)]) H' V' := fun n c h2 h3 h4 h5 h => by
    subst h4 h5
    rw [if_neg h]
    exact Fin.pu (.refl _) (okV_rfV _ _ _ _ _ _) hokH h2 h3
  have hA : parseS (l.take 8) = cA l := rfl
  have hB : parseS (l.drop 8) = cB l := rfl
  have hbest : best l = if (cA l).1 < (cB l).1 then cB l else cA l := rfl
  have hnew : new1 l = if (cA l).1 < (cB l).1 then 1 else 0 := rfl
  rw [hA, hB]
  generalize cA l = A at *
  generalize cB l = B at *
  refine SWp.seq (Wp.s ?_)
  by_cases hz : A.1 = 0 ∧ B.1 = 0
  · simp -implicitDefEqProofs [go_sem, hz.1, hz.2]
    refine bad9 (by simp) (by simp) ?_
    rw [hbest]; split
    · exact hz.2
    · exact hz.1
  by_cases hlt : A.1 < B.1
  · rw [if_pos hlt] at hbest hnew
    have hB0 : ¬ B.1 = 0 := by omega
    by_cases hA0 : A.1 = 0
    · simp -implicitDefEqProofs [go_sem, hA0, hB0]
      refine SWp.seq (Wp.s ?_)
      simp -implicitDefEqProofs [go_sem, show 0 < B.1 by omega]
      exact good 1 B (by simp) (by simp) (by rw [hnew]; rfl) hbest.symm hB0
    · simp -implicitDefEqProofs [go_sem, hA0]
      refine SWp.seq (Wp.s ?_)
      simp -implicitDefEqProofs [go_sem, hlt]
      exact good 1 B (by simp) (by simp) (by rw [hnew]; rfl) hbest.symm hB0
  · rw [if_neg hlt] at hbest hnew
    have hA0 : ¬ A.1 = 0 := by omega
    simp -implicitDefEqProofs [go_sem, hA0]
    refine SWp.seq (Wp.s ?_)
    simp -implicitDefEqProofs [go_sem, hlt]
    refine Wp.s ?_
    simp -implicitDefEqProofs [go_sem]
    exact good 0 A (by simp) (by simp) (by rw [hnew]; rfl) hbest.symm hA0
end Go.Proofs.YtmgoflhjblombaaGreatDoor
namespace Go.Proofs.YtmgoflhjblombaaGreatDoor
open Go.Proofs
def ldV (x : List UInt8 × Nat × Nat) : CV := .tup [.sl .sh 1 (bs x.1), ci x.2.1, er x.2.2]
theorem okV_ldV (i j : Nat) (x : List UInt8 × Nat × Nat) : okV i j (ldV x) := by
  rw [ldV, okV, okL, okL, okL, okL]
  exact ⟨by rw [okV_sh, okBs_t]; trivial, by rw [okV]; trivial, okV_er _ _ _, trivial⟩
theorem best_eq (l : List Sec) : best l = if new1 l = 1 then cB l else cA l := by
  unfold best new1; split <;> rfl
theorem pay_len (l : List Sec) : (parseS l).2.length ≤ 256 := by
  unfold parseS; split
  · rw [pay, List.length_take]
    have := ((dataS l).getD 0 0).toNat_lt
    omega
  · exact Nat.zero_le _
theorem sLoad_cc (H : Hp) (V : List Nat) (d : Dk) (a : Int) (hl : DkS d) : CC Tryz.prog 57 [.agg (dkC d), ci a] H V (Pu (ldV (loadS d a)) H V) := by
  refine CC.of_swp Tryz.func57 rfl (by kernel_rfl) (by rw [Tryz.ntmps57]; exact len_le _ _ rfl) fun hok hokH => ?_
  clear hok
  have bad : ∀ (e : Nat) {H' : Hp} {V' : List Nat}, loadS d a = ([], 0, e) → H'.take H.length = H → V'.take V.length = V → Fin H.length V.length (Pu (ldV (loadS d a)) H V) (.tup [.v (.slice none 0 0), .v (.int .i64 0), er e]) H' V' := fun e H' V' h1 h2 h3 => by
    rw [h1]
    exact Fin.pu (.tup (.cons (.nil 1 (by decide)) (.cons (.refl _) (.cons (.refl _) .nil)))) (okV_ldV _ _ _) hokH h2 h3
  refine SWp.seq (Wp.s ?_)
  simp -implicitDefEqProofs [go_sem, args0]
  refine SWp.seq (Wp.s ?_)
  simp -implicitDefEqProofs [go_sem]
  refine CC.mono (sfind_cc _ _ d a hl) ?_
  rintro _ _ _ ⟨rfl, rfl, rfl⟩
  by_cases he : findE d a = 0
  case neg =>
    have hV : findV d a = .tup [.agg (repC (0, []) [] ++ repC (0, []) []), ci 0, er (findE d a)] := by rw [findV, if_pos he]
    rw [hV]
    simp -implicitDefEqProofs [go_sem, repC]
    refine Wp.s ?_
    simp -implicitDefEqProofs [go_sem, he]
    exact bad _ (by rw [loadS, if_pos he]) (by simp) (by simp)
  by_cases hb : (best (findL d a)).1 = 0
  · have hV : findV d a = .tup [.agg (bothC (findL d a)), ci 0, er 9] := by rw [findV, if_neg (by simpa using he), if_pos hb]
    rw [hV]
    simp -implicitDefEqProofs [go_sem, bothC, repC]
    refine Wp.s ?_
    simp -implicitDefEqProofs [go_sem]
    exact bad 9 (by rw [loadS, if_neg (by simpa using he), if_pos hb]) (by simp) (by simp)
  have hV : findV d a = .tup [.agg (bothC (findL d a)), ci (new1 (findL d a)), er 0] := by rw [findV, if_neg (by simpa using he), if_neg hb]
  have hL : loadS d a = ((best (findL d a)).2, (best (findL d a)).1, 0) := by rw [loadS, if_neg (by simpa using he), if_neg hb]
  rw [hV, hL]
  clear bad hV hL hb
  generalize findL d a = l at *
  simp -implicitDefEqProofs [go_sem, bothC, repC]
  refine SWp.seq (Wp.s ?_)
  simp -implicitDefEqProofs [go_sem]
  refine SWp.seq (SWp.drawnL [0, 1, 2, 3, 4, 6, 7, 8, 9, 10, 5, 11, 12, 13] (by kernel_rfl) (by kernel_rfl) rfl ?_)
  have hn : new1 l = 1 ∨ new1 l = 0 := by unfold new1; split <;> simp
  have hbe := best_eq l
  rcases hn with hn | hn
  · rw [hn] at hbe
    rw [hn]
    simp -implicitDefEqProofs [go_sem]
    refine CC.mono (scloneBy_cc _ _ .sh _ (by rw [bs_len]; have : (cB l).2.length ≤ 256 := pay_len _; omega)) ?_
    rintro _ _ _ ⟨v, rfl, rfl, rfl⟩
    simp -implicitDefEqProofs [go_sem]
    refine Wp.s ?_
    simp -implicitDefEqProofs [go_sem]
    rw [hbe]
    exact Fin.pu (.tup (.cons (.sh _ _ _) (.cons (.refl _) (.cons (.refl _) .nil)))) (okV_ldV _ _ _) hokH (by simp) (by simp)
  · rw [hn] at hbe
    rw [hn]
    simp -implicitDefEqProofs [go_sem]
    refine CC.mono (scloneBy_cc _ _ .sh _ (by rw [bs_len]; have : (cA l).2.length ≤ 256 := pay_len _; omega)) ?_
    rintro _ _ _ ⟨v, rfl, rfl, rfl⟩
    simp -implicitDefEqProofs [go_sem]
    refine Wp.s ?_
    simp -implicitDefEqProofs [go_sem]
    rw [hbe]
    exact Fin.pu (.tup (.cons (.sh _ _ _) (.cons (.refl _) (.cons (.refl _) .nil)))) (okV_ldV _ _ _) hokH (by simp) (by simp)
theorem srLoad_cc (H : Hp) (V : List Nat) (d : Dk) (a : Int) (hl : DkS d) : CC Tryz.prog 66 [.agg (dkC d), ci a] H V (Pu (ldV (loadS d a)) H V) := by
  refine CC.of_swp Tryz.func66 rfl (by kernel_rfl) (by rw [Tryz.ntmps66]; exact len_le _ _ rfl) fun hok hokH => ?_
  clear hok
  refine SWp.seq (Wp.s ?_)
  simp -implicitDefEqProofs [go_sem, args0]
  refine SWp.seq (Wp.s ?_)
  simp -implicitDefEqProofs [go_sem]
  refine CC.mono (srfind_cc _ _ d a hl) ?_
  rintro _ _ _ ⟨rfl, rfl, rfl⟩
  have go : ∀ (l : List Sec) (n : Nat) (c : Nat × List UInt8) (e : Nat), rfindV d a = rfV l n c e → loadS d a = (c.2, c.1, e) → c.1 < 4294967296 → rfindV d a = rfV l n c e := fun _ _ _ _ h _ _ => h
  have key : ∃ (l : List Sec) (n : Nat) (c : Nat × List UInt8) (e : Nat), rfindV d a = rfV l n c e ∧ loadS d a = (c.2, c.1, e) ∧ c.1 < 4294967296 := by
    unfold rfindV loadS
    split
    · exact ⟨_, _, _, _, rfl, rfl, by decide⟩
    · split
      · exact ⟨_, _, _, _, rfl, rfl, by decide⟩
      · exact ⟨_, _, _, _, rfl, rfl, by
          unfold best; split <;> exact parseS_lt _⟩
  obtain ⟨l, n, c, e, h1, h2, h3⟩ := key
  rw [h1, h2]
  have w : IntKind.i64.wrap (c.1 : Int) = c.1 := IntWalk.i64_in _ ⟨by omega, by omega⟩
  simp -implicitDefEqProofs [go_sem, rfV]
  refine SWp.seq (Wp.s ?_)
  simp -implicitDefEqProofs [go_sem, w]
  refine Wp.s ?_
  simp -implicitDefEqProofs [go_sem]
  exact Fin.pu (.refl _) (okV_ldV _ _ (c.2, c.1, e)) hokH (by simp) (by simp)
end Go.Proofs.YtmgoflhjblombaaGreatDoor
namespace Go.Proofs.YtmgoflhjblombaaGreatDoor
open Go.Proofs
section
variable {n nb nv : Nat} {T T' : Tm} {H : Hp} {V : List Nat}
end
def stV (x : List Opn × Nat) : CV := .tup [opsV x.1, er x.2]
theorem okV_stV (i j : Nat) (x : List Opn × Nat) : okV i j (stV x) := by
  rw [stV, okV, okL, okL, okL, opsV, okV_sh, okE_ops]
  exact ⟨trivial, okV_er _ _ _, trivial⟩
theorem fmt_fin {H : Hp} {V : List Nat} {a : Int} {p : List UInt8} (hokH : ∀ (b : Nat) cs, H[b]? = some (some cs) → okL H.length V.length cs) :
    Fin H.length V.length (Pu (stV ([opW a (List.replicate 16 sec0), opS, opW a (copyS 1 p), opS], 0)) H V)
      (.tup [.sl .ti 3 [[.v (.int .i64 0), .v (.int .i64 a), .bsl H.length 0 16 8], [.v (.int .i64 1), .v (.int .i64 0), .v (.slice none 0 0)], [.v (.int .i64 0), .v (.int .i64 a), .sl .sh 8 ((copyS 1 p).map secC)], [.v (.int .i64 1), .v (.int .i64 0), .v (.slice none 0 0)]], .v (.int .i64 0)])
      (H ++ [some (List.replicate 16 [CV.v (.int .u8 0), CV.v (.int .u8 0), CV.v (.int .u8 0), CV.v (.int .u8 0), CV.v (.int .u8 0), CV.v (.int .u8 0), CV.v (.int .u8 0), CV.v (.int .u8 0)]).flatten]) V := by
  have hz0 : (List.replicate 16 [CV.v (.int .u8 0), CV.v (.int .u8 0), CV.v (.int .u8 0), CV.v (.int .u8 0), CV.v (.int .u8 0), CV.v (.int .u8 0), CV.v (.int .u8 0), CV.v (.int .u8 0)]).flatten = secsF (List.replicate 16 sec0) := zeros_secs 16
  have hch : chunks 8 16 ((secsF (List.replicate 16 sec0)).drop 0) = (List.replicate 16 sec0).map secC := by
    have := chunks_secs (List.replicate 16 sec0)
    rwa [List.length_replicate] at this
  rw [hz0]
  have n3 : LeL [.v (.int .i64 1), .v (.int .i64 0), .v (.slice none 0 0)] [.v (.int .i64 1), .v (.int .i64 0), secsV []] := .cons (.refl _) (.cons (.refl _) (.cons (.nil 8 (by decide)) .nil))
  have r3 : ∀ x y z : CV, LeL [x, y, z] [x, y, z] := fun x y z => .cons (.refl _) (.cons (.refl _) (.cons (.refl _) .nil))
  have f3 : ∀ x y z : CV, FyL H.length (secsF (List.replicate 16 sec0)) [x, y, z] [x, y, z] := fun x y z => .cons (.refl _) (.cons (.refl _) (.cons (.refl _) .nil))
  refine Fin.frozY (b := H.length) (cs := secsF (List.replicate 16 sec0))
    (r1 := .tup [.sl .sh 3 [[.v (.int .i64 0), .v (.int .i64 a), .bsl H.length 0 16 8], [.v (.int .i64 1), .v (.int .i64 0), secsV []], [.v (.int .i64 0), .v (.int .i64 a), .sl .sh 8 ((copyS 1 p).map secC)], [.v (.int .i64 1), .v (.int .i64 0), secsV []]], .v (.int .i64 0)])
    ⟨rfl, rfl, rfl⟩ (.tup (.cons (.sle _ _ (.cons (r3 _ _ _) (.cons n3 (.cons (r3 _ _ _) (.cons n3 .nil))))) (.cons (.refl _) .nil))) (by simp) ?_ (Nat.le_refl _) (okV_stV _ _ _) hokH (by simp) (by simp)
  refine .tup (.cons (.sl _ _ (.cons (.cons (.refl _) (.cons (.refl _) (.cons ?_ .nil))) (.cons (f3 _ _ _) (.cons (f3 _ _ _) (.cons (f3 _ _ _) .nil))))) (.cons (.refl _) .nil))
  show Fy _ _ _ (.sl .sh 8 ((List.replicate 16 sec0).map secC))
  rw [← hch]
  exact .bsl _ _ _ (by simp)
theorem sFormat_cc (H : Hp) (V : List Nat) (a : Int) (tk : Tk) (p : List UInt8) : CC Tryz.prog 72 [ci a, .sl tk 1 (bs p)] H V (Pu (stV (formatS a p)) H V) := by
  refine CC.of_swp Tryz.func72 rfl (by kernel_rfl) (by rw [Tryz.ntmps72]; exact len_le _ _ rfl) fun hok hokH => ?_
  clear hok
  have bad : ∀ (e : Nat) {H' : Hp} {V' : List Nat}, formatS a p = ([], e) → H'.take H.length = H → V'.take V.length = V → Fin H.length V.length (Pu (stV (formatS a p)) H V) (.tup [.v (.slice none 0 0), er e]) H' V' := fun e H' V' h1 h2 h3 => by
    rw [h1]
    exact Fin.pu (.tup (.cons (.nil 3 (by decide)) (.cons (.refl _) .nil))) (okV_stV _ _ _) hokH h2 h3
  refine SWp.seq (Wp.s ?_)
  simp -implicitDefEqProofs [go_sem, args0]
  refine SWp.seq (SWp.block (SWp.seq (Wp.s ?_)))
  by_cases h1 : a < 0
  · simp -implicitDefEqProofs [go_sem, h1]
    refine Wp.s ?_
    simp -implicitDefEqProofs [go_sem]
    exact bad 2 (by rw [formatS, if_pos (.inl h1)]) (by simp) (by simp)
  by_cases h2 : 4080 < a
  · simp -implicitDefEqProofs [go_sem, h1, h2]
    refine Wp.s ?_
    simp -implicitDefEqProofs [go_sem]
    exact bad 2 (by rw [formatS, if_pos (.inr h2)]) (by simp) (by simp)
  simp -implicitDefEqProofs [go_sem, h1, h2]
  refine Wp.s ?_
  by_cases h3 : 31 < p.length
  · simp -implicitDefEqProofs [go_sem, show (31 : Int) < p.length by omega]
    exact bad 5 (by rw [formatS, if_neg (by omega), if_pos h3]) (by simp) (by simp)
  simp -implicitDefEqProofs [go_sem, show ¬ (31 : Int) < p.length by omega]
  have hF : formatS a p = ([opW a (List.replicate 16 sec0), opS, opW a (copyS 1 p), opS], 0) := by rw [formatS, if_neg (by omega), if_neg h3]
  refine SWp.seq (SWp.drawnT [] [] (.s 0 .pl <| .s 3 .pl <| .s 4 .pl <| .s 5 .pl <| .s 9 .pl <| .c 6 <| .s 7 .pl <| .s 8 .pl <| .s 1 .pl <| .s 2 .pl <| .s 10 .pl <| .s 11 .pl <| .s 12 .pl <| .n) (by kernel_rfl) (by kernel_rfl) ?_)
  simp -implicitDefEqProofs [go_sem, -List.reduceReplicate]
  refine ⟨.agg [ci 1, .sl .sh 1 (bs p), secsV (copyS 1 p)], fun H V => sput_cc H V 1 tk p (by decide) (by omega), ?_⟩
  simp -implicitDefEqProofs [go_sem, -List.reduceReplicate]
  refine Wp.s ?_
  simp -implicitDefEqProofs [go_sem, -List.reduceReplicate]
  rw [hF]
  exact fmt_fin hokH
end Go.Proofs.YtmgoflhjblombaaGreatDoor
namespace Go.Proofs.YtmgoflhjblombaaGreatDoor
open Go.Proofs
def mxS (m : Nat) (l : List Sec) : Nat := l.foldl (fun m s => max m (gn s)) m
theorem mxS_take (m : Nat) (l : List Sec) (i : Nat) (h : i < l.length) : mxS m (l.take (i + 1)) = max (mxS m (l.take i)) (gn l[i]) := foldl_take_succ _ _ _ _ h
theorem mxS_app (m : Nat) (a b : List Sec) : mxS m (a ++ b) = mxS (mxS m a) b := List.foldl_append ..
theorem topS_eq (l : List Sec) : topS l = mxS 0 l := rfl
theorem mxS_lt : ∀ (l : List Sec) (m : Nat), m < 4294967296 → mxS m l < 4294967296
  | [], m, h => h
  | s :: l, m, h => mxS_lt l (max m (gn s)) (by have := gn_lt s; omega)
theorem imax (a b : Nat) : max (a : Int) (b : Int) = ((max a b : Nat) : Int) := by omega
theorem sto_fin {H H' : Hp} {V V' : List Nat} {b : Int} {s : List Sec} (hokH : ∀ (b : Nat) cs, H[b]? = some (some cs) → okL H.length V.length cs) (hH : H'.take H.length = H) (hV : V'.take V.length = V) :
    Fin H.length V.length (Pu (stV ([opW b s, opS], 0)) H V)
      (.tup [.sl .ti 3 [[.v (.int .i64 0), .v (.int .i64 b), .sl .sh 8 (s.map secC)], [.v (.int .i64 1), .v (.int .i64 0), .v (.slice none 0 0)]], .v (.int .i64 0)]) H' V' := by
  refine Fin.pu (.tup (.cons (.sle _ _ (.cons ?_ (.cons ?_ .nil))) (.cons (.refl _) .nil))) (okV_stV _ _ ([opW b s, opS], 0)) hokH hH hV
  · exact .cons (.refl _) (.cons (.refl _) (.cons (.refl _) .nil))
  · exact .cons (.refl _) (.cons (.refl _) (.cons (.nil 8 (by decide)) .nil))
theorem sStore_cc (H : Hp) (V : List Nat) (d : Dk) (a : Int) (tk : Tk) (p : List UInt8) (hl : DkS d) : CC Tryz.prog 110 [.agg (dkC d), ci a, .sl tk 1 (bs p)] H V (Pu (stV (storeS d a p)) H V) := by
  refine CC.of_swp Tryz.func110 rfl (by kernel_rfl) (by rw [Tryz.ntmps110]; exact len_le _ _ rfl) fun hok hokH => ?_
  have bad : ∀ (e : Nat) {H' : Hp} {V' : List Nat}, storeS d a p = ([], e) → H'.take H.length = H → V'.take V.length = V → Fin H.length V.length (Pu (stV (storeS d a p)) H V) (.tup [.v (.slice none 0 0), er e]) H' V' := fun e H' V' h1 h2 h3 => by
    rw [h1]
    exact Fin.pu (.tup (.cons (.nil 3 (by decide)) (.cons (.refl _) .nil))) (okV_stV _ _ _) hokH h2 h3
  refine SWp.seq (Wp.s ?_)
  simp -implicitDefEqProofs [go_sem, args0]
  refine SWp.seq (Wp.s ?_)
  simp -implicitDefEqProofs [go_sem]
  refine CC.mono (sfind_cc _ _ d a hl) ?_
  rintro _ _ _ ⟨rfl, rfl, rfl⟩
  by_cases he : findE d a = 0
  case neg =>
    have hV : findV d a = .tup [.agg (repC (0, []) [] ++ repC (0, []) []), ci 0, er (findE d a)] := by rw [findV, if_pos he]
    rw [hV]
    simp -implicitDefEqProofs [go_sem, repC]
    refine SWp.seq (Wp.s ?_)
    simp -implicitDefEqProofs [go_sem, he]
    exact bad _ (by rw [storeS, if_pos he]) (by simp) (by simp)
  by_cases hb : (best (findL d a)).1 = 0
  · have hV : findV d a = .tup [.agg (bothC (findL d a)), ci 0, er 9] := by rw [findV, if_neg (by simpa using he), if_pos hb]
    rw [hV]
    simp -implicitDefEqProofs [go_sem, bothC, repC]
    refine SWp.seq (Wp.s ?_)
    simp -implicitDefEqProofs [go_sem]
    exact bad 9 (by rw [storeS, if_neg (by simpa using he), if_pos hb]) (by simp) (by simp)
  have hV : findV d a = .tup [.agg (bothC (findL d a)), ci (new1 (findL d a)), er 0] := by rw [findV, if_neg (by simpa using he), if_neg hb]
  have hl16 := findL_len he
  have hat : 0 ≤ a ∧ a ≤ 1000000 := by
    unfold findE readD at he
    split at he
    · rename_i h1; exact absurd he h1
    · split at he
      · cases he
      · rename_i h1 h2
        have hq : insideB d a 16 = true := by simpa using h2
        simp only [insideB, Bool.and_eq_true, decide_eq_true_eq] at hq
        have := hl.1
        omega
  rw [hV]
  simp -implicitDefEqProofs [go_sem, bothC, repC]
  refine SWp.seq (Wp.s ?_)
  simp -implicitDefEqProofs [go_sem]
  refine SWp.seq (Wp.s ?_)
  by_cases h31 : 31 < p.length
  · simp -implicitDefEqProofs [go_sem, show (31 : Int) < p.length by omega]
    exact bad 5 (by rw [storeS, if_neg (by simpa using he), if_neg hb, if_pos h31]) (by simp) (by simp)
  simp -implicitDefEqProofs [go_sem, show ¬ (31 : Int) < p.length by omega]
  have hS : storeS d a p = if topS (findL d a) = 4294967295 then ([], 11) else ([opW (a + 8 - 8 * (new1 (findL d a) : Int)) (copyS (topS (findL d a) + 1) p), opS], 0) := by rw [storeS, if_neg (by simpa using he), if_neg hb, if_neg h31]
  generalize findL d a = l at *
  have hn : new1 l = 1 ∨ new1 l = 0 := by unfold new1; split <;> simp
  refine SWp.seq (Wp.s ?_)
  simp -implicitDefEqProofs [go_sem]
  have hBox : ∀ j, V.length ≤ j → okH (H.length + 2) j [some (dkC d), some (bothC l)] := fun j hj => by
    rw [okH_some, okH_some, okL_dkC]
    exact ⟨trivial, okL_app (okL_repC _ _ _ _) (okL_repC _ _ _ _), trivial⟩
  refine SWp.join (α := Unit) (fun _ => ([(1, ci a), (2, .sl tk 1 (bs p)), (9, ci (new1 l)), (11, ci (topS l))], H ++ [some (dkC d), some (bothC l)], V)) (fun _ => True) ?_ ?_
  · refine SWp.seq (Wp.s ?_)
    simp -implicitDefEqProofs [go_sem]
    refine SWp.block ?_
    refine SWp.loop (α := Nat) (fun i => ([(1, ci a), (2, .sl tk 1 (bs p)), (9, ci (new1 l)), (11, ci (mxS 0 (l.take (8 * i)))), (30, .agg (bothC l)), (31, ci i)], H ++ [some (dkC d), some (bothC l)], V)) (fun i => i ≤ 2) (fun i => 2 - i) 0 (by omega) (Sh.forget (by simp -implicitDefEqProofs [go_sem, mxS, bothC, repC]) (by simp [bothC, repC]) rfl) ?_
    intro i hi
    dsimp only
    refine SWp.seq (Wp.s ?_)
    simp -implicitDefEqProofs [go_sem]
    refine SWp.seq (Wp.s ?_)
    simp -implicitDefEqProofs [go_sem]
    refine ⟨fun h => ?_, fun h => ?_⟩
    case refine_2 =>
      obtain rfl : i = 2 := by omega
      exact Sh.forget (by simp -implicitDefEqProofs [go_sem, topS_eq, List.take_of_length_le (show l.length ≤ 8 * 2 by omega)]) rfl rfl
    have hi2 : i = 0 ∨ i = 1 := by omega
    generalize hs : (l.drop (8 * i)).take 8 = s
    have hs8 : s.length = 8 := by rw [← hs, List.length_take, List.length_drop]; omega
    have hnext : mxS (mxS 0 (l.take (8 * i))) s = mxS 0 (l.take (8 * (i + 1))) := by
      rw [← mxS_app, ← hs, ← List.take_add]
      rfl
    have hBox3 : ∀ (c : Nat × List UInt8) (j : Nat), V.length ≤ j → okH (H.length + 3) j [some (dkC d), some (bothC l), some (repC c s)] := fun c j hj => by
      rw [okH_some, okH_some, okH_some, okL_dkC]
      exact ⟨trivial, okL_app (okL_repC _ _ _ _) (okL_repC _ _ _ _), okL_repC _ _ _ _, trivial⟩
    refine SWp.seq (SWp.block (SWp.join (α := Nat × List UInt8) (fun c => ([(1, ci a), (2, .sl tk 1 (bs p)), (9, ci (new1 l)), (11, ci (mxS 0 (l.take (8 * i)))), (30, .agg (bothC l)), (31, ci i), (13, .ptr (H.length + 2) 0)], H ++ [some (dkC d), some (bothC l), some (repC c s)], V)) (fun _ => True) ?_ ?_))
    · refine Wp.s ?_
      rcases hi2 with rfl | rfl
      · simp -implicitDefEqProofs [go_sem, bothC, repC]
        refine ⟨(cA l).1, (cA l).2, Sh.forget (by simp -implicitDefEqProofs [go_sem]) ?_ rfl⟩
        rw [← hs]; rfl
      · simp -implicitDefEqProofs [go_sem, bothC, repC]
        refine ⟨(cB l).1, (cB l).2, Sh.forget (by simp -implicitDefEqProofs [go_sem]) ?_ rfl⟩
        rw [← hs, show (l.drop (8 * 1)).take 8 = l.drop 8 from List.take_of_length_le (by rw [List.length_drop]; omega)]
    rintro ⟨c1, c2⟩ -
    dsimp only
    refine SWp.seq (Wp.s ?_)
    simp -implicitDefEqProofs [go_sem, repC]
    refine SWp.block ?_
    refine SWp.loop (α := Nat) (fun k => ([(1, ci a), (2, .sl tk 1 (bs p)), (9, ci (new1 l)), (11, ci (mxS (mxS 0 (l.take (8 * i))) (s.take k))), (30, .agg (bothC l)), (31, ci i), (35, secsV s), (36, ci 8), (37, ci k)], H ++ [some (dkC d), some (bothC l), some (repC (c1, c2) s)], V)) (fun k => k ≤ 8) (fun k => 8 - k) 0 (by omega) (Sh.forget (by simp -implicitDefEqProofs [go_sem, hs8, mxS]) (by simp [repC]) rfl) ?_
    intro k hk
    dsimp only
    refine SWp.seq (Wp.s ?_)
    simp -implicitDefEqProofs [go_sem]
    refine SWp.seq (Wp.s ?_)
    simp -implicitDefEqProofs [go_sem]
    refine ⟨fun hk8 => ?_, fun hk8 => ?_⟩
    case refine_2 =>
      obtain rfl : k = 8 := by omega
      refine Wp.s ?_
      simp -implicitDefEqProofs [go_sem, wrap_succ (show i ≤ 1000000000 by omega)]
      refine ⟨i + 1, by omega, by omega, Sh.trim (L := [some (dkC d), some (bothC l)]) ?_ ?_ hokH (hBox _ (Nat.le_refl _)) (Nat.le_refl _) (by simp) (by simp)⟩
      · rw [List.take_of_length_le (show s.length ≤ 8 by omega), hnext]
        simp -implicitDefEqProofs [go_sem]
      · rw [okL, okL, okL] at hok
        simp only [TOk_cons, TOk_nil]
        exact ⟨by simp -implicitDefEqProofs [go_sem], okV_mono (by omega) (Nat.le_refl _) hok.2.2.1, by simp -implicitDefEqProofs [go_sem], by simp -implicitDefEqProofs [go_sem], by rw [okV_agg]; exact okL_app (okL_repC _ _ _ _) (okL_repC _ _ _ _), by simp -implicitDefEqProofs [go_sem], trivial⟩
    have hks : k < s.length := by omega
    refine SWp.seq (SWp.block (SWp.seq (Wp.s ?_)))
    simp -implicitDefEqProofs [go_sem, hks]
    refine Wp.s ?_
    simp -implicitDefEqProofs [go_sem]
    refine CC.mono (sgeneration_cc _ _ _) ?_
    rintro _ _ _ ⟨rfl, rfl, rfl⟩
    simp -implicitDefEqProofs [go_sem]
    refine Wp.s ?_
    simp -implicitDefEqProofs [go_sem, wrap_succ (show k ≤ 1000000000 by omega), imax]
    refine ⟨k + 1, by omega, by omega, Sh.trim (L := [some (dkC d), some (bothC l), some (repC (c1, c2) s)]) ?_ ?_ hokH (hBox3 _ _ (Nat.le_refl _)) (Nat.le_refl _) (by simp) (by simp)⟩
    · rw [mxS_take _ _ _ hks]
      simp -implicitDefEqProofs [go_sem, imax]
    · rw [okL, okL, okL] at hok
      simp only [TOk_cons, TOk_nil]
      exact ⟨by simp -implicitDefEqProofs [go_sem], okV_mono (by omega) (Nat.le_refl _) hok.2.2.1, by simp -implicitDefEqProofs [go_sem], by simp -implicitDefEqProofs [go_sem], by rw [okV_agg]; exact okL_app (okL_repC _ _ _ _) (okL_repC _ _ _ _), by simp -implicitDefEqProofs [go_sem], okV_secsV _ _ _, by simp -implicitDefEqProofs [go_sem], by simp -implicitDefEqProofs [go_sem], trivial⟩
  · rintro _ -
    dsimp only
    have htop : topS l < 4294967296 := mxS_lt _ _ (by omega)
    rw [hS]
    refine SWp.seq (Wp.s ?_)
    by_cases ht : topS l = 4294967295
    · rw [if_pos ht] at hS
      rw [← hS]
      simp -implicitDefEqProofs [go_sem, ht]
      exact bad 11 hS (by simp) (by simp)
    rw [if_neg ht]
    simp -implicitDefEqProofs [go_sem, show ¬ (topS l : Int) = 4294967295 by omega]
    refine SWp.seq (Wp.s ?_)
    have e0 : IntKind.i64.wrap (1 - (new1 l : Int)) = 1 - (new1 l : Int) := IntWalk.i64_in _ ⟨by omega, by omega⟩
    have e1 : IntKind.i64.wrap ((1 - (new1 l : Int)) * 8) = 8 - 8 * (new1 l : Int) := by rw [IntWalk.i64_in _ ⟨by omega, by omega⟩]; omega
    have e2 : IntKind.i64.wrap (a + (8 - 8 * (new1 l : Int))) = a + 8 - 8 * (new1 l : Int) := by rw [IntWalk.i64_in _ ⟨by omega, by omega⟩]; omega
    have e3 : IntKind.i64.wrap ((topS l : Int) + 1) = ((topS l + 1 : Nat) : Int) := by rw [IntWalk.i64_in _ ⟨by omega, by omega⟩]; rfl
    simp -implicitDefEqProofs [go_sem, e0]
    refine SWp.seq (Wp.s ?_)
    simp -implicitDefEqProofs [go_sem, e1, e2, e3]
    have hput := fun (H : Hp) (V : List Nat) => sput_cc H V (topS l + 1) tk p (by omega) (by omega)
    rw [Int.natCast_succ] at hput
    refine CC.mono (hput _ _) ?_
    rintro _ _ _ ⟨rfl, rfl, rfl⟩
    simp -implicitDefEqProofs [go_sem]
    refine Wp.s ?_
    simp -implicitDefEqProofs [go_sem]
    exact sto_fin hokH (by simp) (by simp)
end Go.Proofs.YtmgoflhjblombaaGreatDoor
namespace Go.Proofs.YtmgoflhjblombaaGreatDoor
open Go.Proofs
@[go_sem] theorem azTy3 : azTy Tryz.prog 3 = true := by kernel_rfl
/-- A step of the laws with crashes. -/
structure Stp where
  payload : List UInt8
  after : UInt8
  choices : List Int
def stpC (x : Stp) : List CV := [.sl .sh 1 (bs x.payload), .v (.int .u8 (x.after.toNat : Int)), .sl .sh 1 (x.choices.map ic)]
@[go_sem, simp] theorem stpC_len (x : Stp) : (stpC x).length = 3 := by rw [stpC]; rfl
@[go_sem, simp] theorem stpC_take (x : Stp) : (stpC x).take 3 = stpC x := rfl
@[go_sem, simp] theorem stpC_all (x : Stp) : allOne (stpC x) = true := rfl
@[go_sem, simp] theorem stpC_0 (x : Stp) (h : 0 < (stpC x).length) : (stpC x)[0] = CV.sl .sh 1 (bs x.payload) := rfl
@[go_sem, simp] theorem stpC_1 (x : Stp) (h : 1 < (stpC x).length) : (stpC x)[1] = CV.v (.int .u8 (x.after.toNat : Int)) := rfl
@[go_sem, simp] theorem stpC_2 (x : Stp) (h : 2 < (stpC x).length) : (stpC x)[2] = CV.sl .sh 1 (x.choices.map ic) := rfl
def bigS (x : Stp) : Bool := decide (31 < x.payload.length) || decide (40 < x.choices.length)
def smallL (l : List Stp) : Bool := !l.any bigS && decide (l.length ≤ 12)
def beginR (l : List Sec) (p : List UInt8) : Dk × Bool :=
  ((runR ⟨l ++ List.replicate 30 sec0, []⟩ (formatS 5 p).1).1, decide ((formatS 5 p).2 = 0) && decide ((runR ⟨l ++ List.replicate 30 sec0, []⟩ (formatS 5 p).1).2.2 = 0))
theorem fmt_tot (a : Int) (p : List UInt8) : tot (formatS a p).1 ≤ 24 ∧ (formatS a p).1.length ≤ 4 := by
  unfold formatS
  split
  · exact ⟨by simp [tot], by simp⟩
  · split
    · exact ⟨by simp [tot], by simp⟩
    · exact ⟨by simp [tot, opW, opS, copyS_len], by simp⟩
/-- A decision, and the rest of the choices. -/
def DecR (len n : Nat) (H : Hp) (V : List Nat) : CV → Hp → List Nat → Prop := fun r H' V' => ∃ (k : Nat) (l' : List Int), (k < n ∧ l'.length ≤ len) ∧ r = .tup [ci k, .sl .sh 1 (l'.map ic)] ∧ H = H' ∧ V = V'
/-- The rest of the choices, and a decision. -/
theorem sdecide_cc (H : Hp) (V : List Nat) (tk : Tk) (l : List Int) (n : Nat) (h0 : 0 < n) (hn : n ≤ 2000000) : CC Tryz.prog 113 [.sl tk 1 (l.map ic), ci n] H V (DecR l.length n H V) := by
  refine CC.of_swp Tryz.func113 rfl (by kernel_rfl) (by rw [Tryz.ntmps113]; exact len_le _ _ rfl) fun hok hokH => ?_
  clear hok
  have fin : ∀ (k : Nat) (l' : List Int) (c : CV) {H' : Hp} {V' : List Nat}, k < n ∧ l'.length ≤ l.length → Le c (.sl .sh 1 (l'.map ic)) → H'.take H.length = H → V'.take V.length = V → Fin H.length V.length (DecR l.length n H V) (.tup [ci k, c]) H' V' := fun k l' c H' V' hk hc h1 h2 =>
    Fin.pure ⟨k, l', hk, rfl, rfl, rfl⟩ h1 h2 (.tup (.cons (.refl _) (.cons hc .nil))) (by rw [okV]; simp -implicitDefEqProofs [go_sem, okE_ints]) hokH
  refine SWp.seq (Wp.s ?_)
  simp -implicitDefEqProofs [go_sem, args0]
  refine SWp.seq (Wp.s ?_)
  by_cases hl : l = []
  · subst hl
    simp -implicitDefEqProofs [go_sem]
    exact fin 0 [] _ ⟨h0, Nat.le_refl _⟩ (.nil 1 (by decide)) (by simp) (by simp)
  have hlp : 0 < l.length := List.length_pos_iff.2 hl
  simp -implicitDefEqProofs [go_sem, hl, show ¬ l.length = 0 by omega]
  refine SWp.seq (SWp.drawnL (List.range 13) (by kernel_rfl) (by kernel_rfl) rfl ?_)
  simp -implicitDefEqProofs [go_sem, List.range, List.range.loop, hlp]
  have hn0 : (0 : Int) < n := by omega
  have x1 := Int.tmod_lt_of_pos l[0] hn0
  have x2 : -(n : Int) < l[0].tmod n := by
    have := Int.lt_tmod_of_pos l[0] hn0
    omega
  have hw : IntKind.i64.wrap (l[0].tmod n + n) = l[0].tmod n + n := IntWalk.i64_in _ ⟨by omega, by omega⟩
  have y1 := Int.tmod_lt_of_pos (l[0].tmod n + n) hn0
  have y2 : 0 ≤ (l[0].tmod n + n).tmod n := Int.tmod_nonneg _ (by omega)
  rw [hw]
  generalize (l[0].tmod n + n).tmod n = y at *
  obtain ⟨k, rfl⟩ := Int.eq_ofNat_of_zero_le y2
  refine ⟨by omega, by omega, Wp.s ?_⟩
  simp -implicitDefEqProofs [go_sem]
  exact fin k (l.drop 1) _ ⟨by omega, by rw [List.length_drop]; omega⟩ (.trans (.sh _ _ _) (.of_eq (by rw [List.map_drop, List.drop_one]))) (by simp) (by simp)
end Go.Proofs.YtmgoflhjblombaaGreatDoor
namespace Go.Proofs.YtmgoflhjblombaaGreatDoor
open Go.Proofs
theorem sKeys_cc (H : Hp) (V : List Nat) (b : Nat) (hb : b < H.length) : CC Tryz.prog 112 [.mv b] H V (fun r H' V' => r = .fn 124 [.ptr H.length 0] ∧ H' = H ++ [some [.mv b]] ∧ V = V') := by
  refine CC.of_swp Tryz.func112 rfl (by kernel_rfl) (by rw [Tryz.ntmps112]; exact len_le _ _ rfl) fun hok hokH => ?_
  refine SWp.seq (Wp.s ?_)
  simp -implicitDefEqProofs [go_sem, args0]
  refine Wp.s ?_
  simp -implicitDefEqProofs [go_sem]
  refine Fin.cut (H.length + 1) V.length ⟨rfl, rfl, rfl⟩ (by omega) (Nat.le_refl _) (List.take_of_length_le (by simp)) (List.take_of_length_le (Nat.le_refl _)) (.refl _) (by simp -implicitDefEqProofs [go_sem]) ?_
  intro c cs hb'
  rw [List.getElem?_append] at hb'
  split at hb'
  · exact okL_mono (by omega) (Nat.le_refl _) (hokH c cs hb')
  · exact okH_get (i := H.length + 1) (j := V.length) (L := [some [.mv b]]) (by rw [okH_some, okL, okL, okV]; exact ⟨⟨by omega, trivial⟩, trivial⟩) _ _ hb'
/-- How many are not seen. -/
def uns (s l : List Nat) : Nat := (l.filter fun x => !s.contains x).length
theorem uns_le (s : List Nat) (i : Nat) : ∀ l : List Nat, uns (s ++ [i]) l ≤ uns s l
  | [] => Nat.le_refl _
  | x :: l => by
    have ih := uns_le s i l
    unfold uns at *
    rw [List.filter_cons, List.filter_cons]
    by_cases h : x ∈ s
    · have h1 : (!(s ++ [i]).contains x) = false := by simp [h]
      have h2 : (!s.contains x) = false := by simp [h]
      rw [h1, h2]; exact ih
    · have h2 : (!s.contains x) = true := by simp [h]
      rw [h2]
      split
      · rw [if_pos rfl, List.length_cons, List.length_cons]; omega
      · rw [if_pos rfl, List.length_cons]; omega
theorem uns_lt (s : List Nat) (i : Nat) (hs : i ∉ s) : ∀ l : List Nat, i ∈ l → uns (s ++ [i]) l < uns s l
  | x :: l, hi => by
    by_cases hx : x = i
    · subst hx
      have := uns_le s x l
      unfold uns at *
      rw [List.filter_cons, List.filter_cons]
      have h1 : (!(s ++ [x]).contains x) = false := by simp
      have h2 : (!s.contains x) = true := by simp [hs]
      rw [h1, h2, if_neg (by decide), if_pos rfl, List.length_cons]; omega
    · have ih := uns_lt s i hs l (by rcases List.mem_cons.1 hi with h | h; exact absurd h.symm hx; exact h)
      unfold uns at *
      rw [List.filter_cons, List.filter_cons]
      by_cases h : x ∈ s
      · have h1 : (!(s ++ [i]).contains x) = false := by simp [h]
        have h2 : (!s.contains x) = false := by simp [h]
        rw [h1, h2]; exact ih
      · have h1 : (!(s ++ [i]).contains x) = true := by simp [h, hx]
        have h2 : (!s.contains x) = true := by simp [h]
        rw [h1, h2, if_pos rfl, if_pos rfl, List.length_cons, List.length_cons]; omega
theorem skeys1_cc (H : Hp) (V : List Nat) (L b2 b : Nat) (ks : List Int) (vs : List CV) (I : List Nat → Hp → List Nat → Prop)
    (hb2 : H[b2]? = some (some [.mv b])) (hb : H[b]? = some (some [.objm ks vs]))
    (h0 : I [] (H ++ [some [.obji b ks.length []]]) V)
    (hI : ∀ s G W, I s G W → G[H.length]? = some (some [.obji b ks.length s]) ∧ G[b]? = some (some [.objm ks vs]) ∧ ∀ i ∈ s, i < ks.length)
    (hy : ∀ s i G W, I s G W → (h : i < ks.length) → i ∉ s → YC Tryz.prog L [ci (ks[i])] (G.set H.length (some [.obji b ks.length (s ++ [i])])) W (fun r G' W' => r = .v (.bool true) ∧ I (s ++ [i]) G' W')) :
    CC Tryz.prog 124 [.yl L, .ptr b2 0] H V (fun _ H' V' => ∃ s, I s H' V') := by
  refine CC.of_swp Tryz.func124 rfl (by kernel_rfl) (by rw [Tryz.ntmps124]; exact len_le _ _ rfl) fun hok hokH => ?_
  clear hok
  refine SWp.seq (Wp.s ?_)
  simp -implicitDefEqProofs [go_sem, args0, hbx_of hb2, hbm_some hb]
  refine SWp.block ?_
  refine SWp.loop (α := List Nat × Hp × List Nat) (fun x => ([(0, .yl L), (5, .it H.length)], x.2.1, x.2.2)) (fun x => I x.1 x.2.1 x.2.2) (fun x => uns x.1 (List.range ks.length)) ([], _, V) h0 (Sh.forget (by simp -implicitDefEqProofs [go_sem]) rfl rfl) ?_
  rintro ⟨s, G, W⟩ hi
  dsimp only at hi ⊢
  obtain ⟨g1, g2, g3⟩ := hI _ _ _ hi
  refine SWp.seq (Wp.s ?_)
  simp -implicitDefEqProofs [go_sem]
  unfold cnext
  dsimp only
  refine ⟨rfl, b, ks.length, s, ks, vs, g1, g2, rfl, g3, fun hall => ?_, fun i hil hni => ?_⟩
  · simp -implicitDefEqProofs [go_sem]
    refine SWp.seq (Wp.s ?_)
    simp -implicitDefEqProofs [go_sem]
    exact Fin.self ⟨s, hi⟩
  · have hbl : b < H.length := by
      rcases Nat.lt_or_ge b H.length with h | h
      · exact h
      · rw [List.getElem?_eq_none h] at hb; cases hb
    have hql : H.length < G.length := (List.getElem?_eq_some_iff.1 g1).1
    have q1 : (G.set H.length (some [.obji b ks.length (s ++ [i])]))[H.length]? = some (some [.obji b ks.length (s ++ [i])]) := List.getElem?_set_self hql
    have q2 : (G.set H.length (some [.obji b ks.length (s ++ [i])]))[b]? = some (some [.objm ks vs]) := by rw [List.getElem?_set_ne (by omega)]; exact g2
    simp -implicitDefEqProofs [go_sem]
    refine SWp.seq (Wp.s ?_)
    simp -implicitDefEqProofs [go_sem]
    refine SWp.block (SWp.seq (Wp.s ?_))
    simp -implicitDefEqProofs [go_sem]
    unfold centry
    dsimp only
    refine ⟨b, ks.length, s, i, ks, vs, q1, q2, rfl, hil, ?_⟩
    rw [List.getElem?_eq_getElem hil, Option.getD_some]
    simp -implicitDefEqProofs [go_sem]
    refine SWp.seq (Wp.s ?_)
    simp -implicitDefEqProofs [go_sem]
    refine YC.mono (hy s i G W hi hil hni) ?_
    rintro _ G2 W2 ⟨rfl, hi2⟩
    simp -implicitDefEqProofs [go_sem]
    refine Wp.s ?_
    simp -implicitDefEqProofs [go_sem]
    exact ⟨s ++ [i], G2, W2, hi2, uns_lt s i hni _ (by simpa using hil), Sh.forget (by simp -implicitDefEqProofs [go_sem]) rfl rfl⟩
/-- Numbers that are collected: nothing yet, or all of a box. -/
def Cl (h : Nat) (ks : List Int) (cv : CV) (xs : List Int) (W : Hp) : Prop :=
  (∀ x ∈ xs, x ∈ ks) ∧ ((cv = .sl .ti 1 [] ∧ xs = []) ∨ ∃ j, cv = .bsa (h + (j + 3)) xs.length 1 ∧ W[j]? = some (some (xs.map ci)))
theorem Cl.one {h : Nat} {ks : List Int} {cv : CV} {xs : List Int} {W : Hp} (h : Cl h ks cv xs W) : cv.one = true := by
  rcases h.2 with ⟨rfl, _⟩ | ⟨b, rfl, _⟩ <;> rfl
def ColR (ks : List Int) (H : Hp) (V : List Nat) : CV → Hp → List Nat → Prop := fun r H' V' => ∃ (xs : List Int) (W : Hp), H' = H ++ W ∧ V' = V ∧ (∀ x ∈ xs, x ∈ ks) ∧ xs.length ≤ ks.length ∧ ((r = .sl .ti 1 [] ∧ xs = []) ∨ ∃ j, r = .bsa (H.length + j) xs.length 1 ∧ W[j]? = some (some (xs.map ci)))
@[go_sem] theorem hbx_W3 (H W : Hp) (a0 a1 a2 : Option (List CV)) (j : Nat) (K : List CV → Prop) : hbx (H ++ (a0 :: a1 :: a2 :: W)) (H.length + (j + 3)) K = hbx W j K := by
  unfold hbx
  have : (H ++ (a0 :: a1 :: a2 :: W))[H.length + (j + 3)]? = W[j]? := by
    rw [hget]; simp only [List.getElem?_cons_succ]
  rw [this]
theorem set_W3 (H W : Hp) (a0 a1 a2 : Option (List CV)) (j : Nat) (y : Option (List CV)) : (H ++ (a0 :: a1 :: a2 :: W)).set (H.length + (j + 3)) y = H ++ (a0 :: a1 :: a2 :: W.set j y) := by
  rw [List.set_append_right _ _ (by omega), Nat.add_sub_cancel_left]; rfl
theorem sAppendSeq_cc (H : Hp) (V : List Nat) (b2 b : Nat) (ks : List Int) (vs : List CV) (hb2 : H[b2]? = some (some [.mv b])) (hb : H[b]? = some (some [.objm ks vs])) (hkl : ks.length ≤ 1000000) :
    CC Tryz.prog 129 [.sl .ti 1 [], .fn 124 [.ptr b2 0]] H V (ColR ks H V) := by
  refine CC.of_swp0 Tryz.func129 rfl (by kernel_rfl) (by rw [Tryz.ntmps129]; exact len_le _ _ rfl) fun hok hokH => ?_
  have hb2l := (List.getElem?_eq_some_iff.1 hb2).1
  have hbl := (List.getElem?_eq_some_iff.1 hb).1
  refine SWp0.seq (SWp.s0 (Wp.s ?_))
  simp -implicitDefEqProofs [go_sem, args0]
  refine SWp0.join (α := CV × List Int × Option (List CV) × Hp) (fun x => ([(2, .ptr H.length 0)], H ++ (some [x.1] :: none :: x.2.2.1 :: x.2.2.2), V)) (fun x => Cl H.length ks x.1 x.2.1 x.2.2.2 ∧ x.2.1.length ≤ ks.length) ?_ ?_
  · refine SWp0.seq (SWp.s0 (Wp.s ?_))
    simp -implicitDefEqProofs [go_sem]
    refine SWp0.block (SWp0.range [(2, .ptr H.length 0)] rfl (by simp -implicitDefEqProofs [go_sem]) ?_)
    simp -implicitDefEqProofs [go_sem]
    generalize hbd : Code.block 1 _ = bd
    generalize has : Code.region 2 _ _ = asg
    refine CC.mono (skeys1_cc _ V _ b2 b ks vs (fun s G W => W = V ∧ ∃ cv xs Wg, G = H ++ (some [cv] :: some [lpc 13 #[7] asg bd [(2, .ptr H.length 0)] .ready none] :: some [.obji b ks.length s] :: Wg) ∧ Cl H.length ks cv xs Wg ∧ (∀ i ∈ s, i < ks.length) ∧ xs.length + uns s (List.range ks.length) ≤ ks.length) ?_ ?_ ?_ ?_ ?_) ?_
    · rw [List.getElem?_append_left hb2l]; exact hb2
    · rw [List.getElem?_append_left hbl]; exact hb
    · exact ⟨rfl, .sl .ti 1 [], [], [], by simp, ⟨by simp, .inl ⟨rfl, rfl⟩⟩, by simp, by have := List.length_filter_le (fun x => !([] : List Nat).contains x) (List.range ks.length); rw [List.length_range] at this; simpa [uns] using this⟩
    · rintro s _ _ ⟨rfl, cv, xs, Wg, rfl, hc, hs, hu⟩
      exact ⟨by rw [List.length_append]; exact hget H _ 2, by rw [List.getElem?_append_left hbl]; exact hb, hs⟩
    · rintro s i _ V1 ⟨rfl, cv, xs, Wg, rfl, hc, hs, hu⟩ hil hni
      have e : List.set (H ++ (some [cv] :: some [lpc 13 #[7] asg bd [(2, .ptr H.length 0)] .ready none] :: some [.obji b ks.length s] :: Wg)) (H ++ [some [.sl .ti 1 []], some [lpc 13 #[7] asg bd [(2, .ptr H.length 0)] .ready none]]).length (some [.obji b ks.length (s ++ [i])]) =
          H ++ (some [cv] :: some [lpc 13 #[7] asg bd [(2, .ptr H.length 0)] .ready none] :: some [.obji b ks.length (s ++ [i])] :: Wg) := by
        rw [List.length_append, List.set_append_right _ _ (by omega), Nat.add_sub_cancel_left]; rfl
      rw [e]
      have hsi : ∀ j ∈ s ++ [i], j < ks.length := by
        intro j hj
        rcases List.mem_append.1 hj with hj | hj
        · exact hs j hj
        · rw [List.mem_singleton.1 hj]; exact hil
      have hsi' : ∀ j, j ∈ s ∨ j = i → j < ks.length := fun j hj => hsi j (by simpa using hj)
      have hlt := uns_lt s i hni (List.range ks.length) (by simpa using hil)
      have hki : ks[i] ∈ ks := List.getElem_mem hil
      refine YC.of_round (n := 13) (ps := #[7]) (bd := bd) (T := [(2, .ptr H.length 0)]) (hget _ _ 1) rfl (by decide) ?_
      subst hbd has
      refine Wp.s ?_
      simp -implicitDefEqProofs [go_sem, tps]
      generalize hlp : lpc 13 #[7] _ _ _ LoopState.busy none = lp
      generalize hqq : RQ 13 #[7] _ _ _ _ _ = QQ
      rcases hc with ⟨hx0, ⟨rfl, rfl⟩ | ⟨j, rfl, hj⟩⟩
      · refine SWp.block (SWp.opx (pre := [_, _, _]) (post := [_]) rfl (by intro c e; cases e) ?_)
        simp -implicitDefEqProofs [go_sem]
        refine ⟨_, _, _, appbox (sz := 1) (tk := .ti) (ys := [[ci ks[i]]]) slTy29 slTy29 rfl rfl (by simp) (by simp), ?_⟩
        simp -implicitDefEqProofs [go_sem]
        rw [← hqq, ← hlp]
        refine ⟨hget _ _ 1, rfl, rfl, .bsa (H.length + (Wg.length + 3)) 1 1, [ks[i]], Wg ++ [some [ci ks[i]]], ?_, ⟨fun x hx => by rw [List.mem_singleton.1 hx]; exact hki, .inr ⟨Wg.length, rfl, by simp⟩⟩, hsi', by simp at hu ⊢; omega⟩
        rw [List.set_append_right _ _ (by omega), Nat.add_sub_cancel_left]
        simp
      · refine SWp.block (Wp.s ?_)
        simp -implicitDefEqProofs [go_sem, hbx_of hj, set_W3]
        rw [← hqq, ← hlp]
        refine ⟨by omega, hget _ _ 1, rfl, rfl, .bsa (H.length + (Wg.length + 3)) (xs ++ [ks[i]]).length 1, xs ++ [ks[i]], Wg.set j none ++ [some ((xs ++ [ks[i]]).map ci)], ?_, ⟨fun x hx => ?_, .inr ⟨Wg.length, rfl, by simp⟩⟩, hsi', by simp; omega⟩
        · rw [List.set_append_right _ _ (by omega), Nat.add_sub_cancel_left]
          simp
        · rcases List.mem_append.1 hx with hx | hx'
          · exact hx0 x hx
          · rw [List.mem_singleton.1 hx']; exact hki
    · rintro _ _ _ ⟨s, rfl, cv, xs, Wg, rfl, hc, hs, hu⟩
      refine .inl ⟨hget _ _ 1, ?_⟩
      refine ⟨cv, xs, some [.obji b ks.length s], Wg, ⟨hc, by omega⟩, Sh.forget (by simp -implicitDefEqProofs [go_sem]) ?_ rfl⟩
      rw [List.set_append_right _ _ (by omega), Nat.add_sub_cancel_left]; rfl
  · rintro ⟨cv, xs, ob, Wg⟩ ⟨hc, hxl⟩
    dsimp only at hc hxl ⊢
    refine SWp0.seq (SWp.s0 (Wp.s ?_))
    simp -implicitDefEqProofs [go_sem]
    refine SWp.s0 (Wp.s ?_)
    simp -implicitDefEqProofs [go_sem]
    refine Fin.self ⟨xs, _, rfl, rfl, hc.1, hxl, ?_⟩
    rcases hc.2 with ⟨rfl, rfl⟩ | ⟨j, rfl, hj⟩
    · exact .inl ⟨rfl, rfl⟩
    · exact .inr ⟨j + 3, rfl, hj⟩
end Go.Proofs.YtmgoflhjblombaaGreatDoor
namespace Go.Proofs.YtmgoflhjblombaaGreatDoor
/-! ### Whether two arrays or structs of integers are equal -/
def ints (k : IntKind) (zs : List Int) : Array Value := (zs.map fun z => Value.int k z).toArray
section
variable {P : Program}
end
end Go.Proofs.YtmgoflhjblombaaGreatDoor
namespace Go.Proofs.YtmgoflhjblombaaGreatDoor
open Go.Proofs
theorem flat57 : FlatEq Tryz.prog 57 (List.replicate 8 .u8) := by
  obtain ⟨i, z, _, hi, _⟩ := slTy_some slTy51
  exact flatEq_array Tryz.underlying57 hi Tryz.underlying5 (by kernel_rfl) (by kernel_rfl)
theorem fits_sec (s : Sec) : fits (List.replicate 8 .u8) (secC s) := by
  have := fits_rep .u8 (s.val.map fun b => (b.toNat : Int))
  rw [List.length_map, s.len, List.map_map] at this
  exact this
theorem sSameSectors_cc (H : Hp) (V : List Nat) (t1 t2 : Tk) (l : List Sec) (hl : l.length ≤ 900000000) : CC Tryz.prog 45 [.sl t1 8 (l.map secC), .sl t2 8 (l.map secC)] H V (Pu (cb true) H V) := by
  refine CC.of_swp Tryz.func45 rfl (by kernel_rfl) (by rw [Tryz.ntmps45]; exact len_le _ _ rfl) fun hok hokH => ?_
  clear hok
  refine SWp.seq (Wp.s ?_)
  simp -implicitDefEqProofs [go_sem, args0]
  refine SWp.seq (Wp.s ?_)
  simp -implicitDefEqProofs [go_sem]
  refine SWp.join (α := Unit) (fun _ => ([], H, V)) (fun _ => True) ?_ ?_
  · refine SWp.seq (Wp.s ?_)
    simp -implicitDefEqProofs [go_sem]
    refine SWp.block ?_
    refine SWp.loop (α := Nat) (fun i => ([(0, .sl t1 8 (l.map secC)), (1, .sl t2 8 (l.map secC)), (5, ci i)], H, V)) (fun i => i ≤ l.length) (fun i => l.length - i) 0 (Nat.zero_le _) (Sh.forget (by simp -implicitDefEqProofs [go_sem]) rfl rfl) ?_
    intro i hi
    dsimp only
    refine SWp.seq (Wp.s ?_)
    simp -implicitDefEqProofs [go_sem]
    refine ⟨fun h => ?_, fun h => Sh.forget (by simp -implicitDefEqProofs [go_sem]) rfl rfl⟩
    have hw := wrap_succ (show i ≤ 1000000000 by omega)
    refine SWp.seq (SWp.block ?_)
    refine SWp.seq (SWp.drawnL [0, 1, 2, 3, 4, 5, 6, 7, 8] (by kernel_rfl) (by kernel_rfl) rfl ?_)
    simp -implicitDefEqProofs [go_sem, h]
    refine ⟨_, flat57, fits_sec _, ?_⟩
    refine Wp.s ?_
    simp -implicitDefEqProofs [go_sem, hw]
    refine Wp.s ?_
    simp -implicitDefEqProofs [go_sem, hw]
    exact ⟨i + 1, by omega, by omega, Sh.forget (by simp -implicitDefEqProofs [go_sem]) rfl rfl⟩
  · rintro _ -
    dsimp only
    refine Wp.s ?_
    simp -implicitDefEqProofs [go_sem]
    exact Fin.bool rfl hokH (by simp) (by simp)
set_option maxRecDepth 4000 in
theorem sSameOps_cc (H : Hp) (V : List Nat) (t1 t2 : Tk) (l : List Opn) (hl : l.length ≤ 900000000) (hs : ∀ o ∈ l, o.data.length ≤ 900000000) : CC Tryz.prog 14 [.sl t1 3 (l.map opC), .sl t2 3 (l.map opC)] H V (Pu (cb true) H V) := by
  refine CC.of_swp Tryz.func14 rfl (by kernel_rfl) (by rw [Tryz.ntmps14]; exact len_le _ _ rfl) fun hok hokH => ?_
  clear hok
  refine SWp.seq (Wp.s ?_)
  simp -implicitDefEqProofs [go_sem, args0]
  refine SWp.seq (Wp.s ?_)
  simp -implicitDefEqProofs [go_sem]
  refine SWp.join (α := Unit) (fun _ => ([], H, V)) (fun _ => True) ?_ ?_
  · refine SWp.seq (Wp.s ?_)
    simp -implicitDefEqProofs [go_sem]
    refine SWp.block ?_
    refine SWp.loop (α := Nat) (fun i => ([(0, .sl t1 3 (l.map opC)), (1, .sl t2 3 (l.map opC)), (5, ci i)], H, V)) (fun i => i ≤ l.length) (fun i => l.length - i) 0 (Nat.zero_le _) (Sh.forget (by simp -implicitDefEqProofs [go_sem]) rfl rfl) ?_
    intro i hi
    dsimp only
    refine SWp.seq (Wp.s ?_)
    simp -implicitDefEqProofs [go_sem]
    refine ⟨fun h => ?_, fun h => Sh.forget (by simp -implicitDefEqProofs [go_sem]) rfl rfl⟩
    have hw := wrap_succ (show i ≤ 1000000000 by omega)
    refine SWp.seq (SWp.block ?_)
    refine SWp.seq (SWp.drawnL [0, 1, 2, 3, 4, 5, 6, 7, 8, 9, 10, 11, 12, 13, 14, 15, 16, 17, 18, 19, 20, 21, 22, 23, 24, 25, 26, 27, 28, 29, 30, 31, 32, 33, 34, 35, 36, 37] (by kernel_rfl) (by kernel_rfl) rfl ?_)
    simp -implicitDefEqProofs [go_sem, h]
    refine CC.mono (sSameSectors_cc _ _ .sh .sh _ (hs _ (List.getElem_mem h))) ?_
    rintro _ _ _ ⟨rfl, rfl, rfl⟩
    simp -implicitDefEqProofs [go_sem]
    refine Wp.s ?_
    simp -implicitDefEqProofs [go_sem, hw]
    refine Wp.s ?_
    simp -implicitDefEqProofs [go_sem, hw]
    exact ⟨i + 1, by omega, by omega, Sh.forget (by simp -implicitDefEqProofs [go_sem]) rfl rfl⟩
  · rintro _ -
    dsimp only
    refine Wp.s ?_
    simp -implicitDefEqProofs [go_sem]
    exact Fin.bool rfl hokH (by simp) (by simp)
end Go.Proofs.YtmgoflhjblombaaGreatDoor
namespace Go.Proofs.YtmgoflhjblombaaGreatDoor
open Go.Proofs
abbrev iv (n : Int) : CV := .v (.int .i64 n)
theorem validJ_iff (s c : Int) : validJ s c = true ↔ (0 ≤ s ∧ 20 ≤ c ∧ s ≤ 4096 ∧ c ≤ 4096 - s) := by simp only [validJ, Bool.and_eq_true, decide_eq_true_eq, and_assoc]
theorem validJ_f (s c : Int) : validJ s c = false ↔ ¬ (0 ≤ s ∧ 20 ≤ c ∧ s ≤ 4096 ∧ c ≤ 4096 - s) := by rw [← validJ_iff, Bool.not_eq_true]
theorem valid_cc (H : Hp) (V : List Nat) (s c : Int) : CC Tryz.prog 27 [.agg [iv s, iv c]] H V (Pu (cb (validJ s c)) H V) := by
  refine CC.of_swp Tryz.func27 rfl (by kernel_rfl) (by rw [Tryz.ntmps27]; exact len_le _ _ rfl) fun hok hokH => ?_
  clear hok
  refine SWp.seq (Wp.s ?_)
  simp -implicitDefEqProofs [go_sem, args0]
  by_cases c1 : 0 ≤ s
  case neg =>
    refine Wp.s ?_
    simp -implicitDefEqProofs [go_sem, c1]
    exact Fin.bool (((validJ_f s c).2 (by omega)).symm) hokH (by simp) (by simp)
  by_cases c2 : 20 ≤ c
  case neg =>
    refine Wp.s ?_
    simp -implicitDefEqProofs [go_sem, c1, c2]
    exact Fin.bool (((validJ_f s c).2 (by omega)).symm) hokH (by simp) (by simp)
  by_cases c3 : s ≤ 4096
  case neg =>
    refine Wp.s ?_
    simp -implicitDefEqProofs [go_sem, c1, c2, c3]
    exact Fin.bool (((validJ_f s c).2 (by omega)).symm) hokH (by simp) (by simp)
  have w1 : IntKind.i64.wrap (4096 - s) = 4096 - s := IntWalk.i64_in _ ⟨by omega, by omega⟩
  refine Wp.s ?_
  simp -implicitDefEqProofs [go_sem, c1, c2, c3, w1]
  refine Fin.bool ?_ hokH (by simp) (by simp)
  simp [validJ, c1, c2, c3]
theorem refValid_cc (H : Hp) (V : List Nat) (s c : Int) : CC Tryz.prog 65 [.agg [iv s, iv c]] H V (Pu (cb (validJ s c)) H V) := by
  refine CC.of_swp Tryz.func65 rfl (by kernel_rfl) (by rw [Tryz.ntmps65]; exact len_le _ _ rfl) fun hok hokH => ?_
  clear hok
  refine SWp.seq (Wp.s ?_)
  simp -implicitDefEqProofs [go_sem, args0]
  by_cases c1 : 0 ≤ s
  case neg =>
    refine Wp.s ?_
    simp -implicitDefEqProofs [go_sem, c1]
    exact Fin.bool (((validJ_f s c).2 (by omega)).symm) hokH (by simp) (by simp)
  by_cases c2 : 20 ≤ c
  case neg =>
    refine Wp.s ?_
    simp -implicitDefEqProofs [go_sem, c1, c2]
    exact Fin.bool (((validJ_f s c).2 (by omega)).symm) hokH (by simp) (by simp)
  by_cases c3 : c ≤ 4096
  case neg =>
    refine Wp.s ?_
    simp -implicitDefEqProofs [go_sem, c1, c2, c3]
    exact Fin.bool (((validJ_f s c).2 (by omega)).symm) hokH (by simp) (by simp)
  have w1 : IntKind.i64.wrap (4096 - c) = 4096 - c := IntWalk.i64_in _ ⟨by omega, by omega⟩
  refine Wp.s ?_
  simp -implicitDefEqProofs [go_sem, c1, c2, c3, w1]
  refine Fin.bool ?_ hokH (by simp) (by simp)
  rw [Bool.eq_iff_iff, validJ_iff]
  simp
  omega
theorem length_cc (H : Hp) (V : List Nat) (s c : Int) (h : validJ s c = true) : CC Tryz.prog 31 [.agg [iv s, iv c]] H V (Pu (iv (c - 16)) H V) := by
  refine CC.of_swp Tryz.func31 rfl (by kernel_rfl) (by rw [Tryz.ntmps31]; exact len_le _ _ rfl) fun hok hokH => ?_
  clear hok
  have hv := (validJ_iff s c).1 h
  refine SWp.seq (Wp.s ?_)
  simp -implicitDefEqProofs [go_sem, args0]
  refine Wp.s ?_
  simp -implicitDefEqProofs [go_sem, IntWalk.i64_in (c - 16) ⟨by omega, by omega⟩]
  exact Fin.int rfl hokH (by simp) (by simp)
theorem sector_cc (H : Hp) (V : List Nat) (s c p : Int) (h : validJ s c = true) (h1 : 0 ≤ p) (h2 : p ≤ 1000000) : CC Tryz.prog 30 [.agg [iv s, iv c], iv p] H V (Pu (iv (s + 16 + p)) H V) := by
  refine CC.of_swp Tryz.func30 rfl (by kernel_rfl) (by rw [Tryz.ntmps30]; exact len_le _ _ rfl) fun hok hokH => ?_
  clear hok
  have hv := (validJ_iff s c).1 h
  refine SWp.seq (Wp.s ?_)
  simp -implicitDefEqProofs [go_sem, args0]
  refine Wp.s ?_
  simp -implicitDefEqProofs [go_sem, IntWalk.i64_in (s + 16) ⟨by omega, by omega⟩, IntWalk.i64_in (s + 16 + p) ⟨by omega, by omega⟩]
  exact Fin.int rfl hokH (by simp) (by simp)
theorem RSize_cc (H : Hp) (V : List Nat) (n : Int) : CC Tryz.prog 34 [iv n] H V (Pu (iv (szR n)) H V) := by
  refine CC.of_swp Tryz.func34 rfl (by kernel_rfl) (by rw [Tryz.ntmps34]; exact len_le _ _ rfl) fun hok hokH => ?_
  clear hok
  refine SWp.seq (Wp.s ?_)
  simp -implicitDefEqProofs [go_sem, args0]
  refine SWp.seq (SWp.seq (Wp.s ?_))
  by_cases c1 : n < 0
  · simp -implicitDefEqProofs [go_sem, c1]
    refine Wp.s ?_
    simp -implicitDefEqProofs [go_sem]
    exact Fin.int (by rw [szR, if_pos (.inl c1)]) hokH (by simp) (by simp)
  by_cases c2 : 4096 < n
  · simp -implicitDefEqProofs [go_sem, c1, c2]
    refine Wp.s ?_
    simp -implicitDefEqProofs [go_sem]
    exact Fin.int (by rw [szR, if_pos (.inr c2)]) hokH (by simp) (by simp)
  have w1 : IntKind.i64.wrap (3 + n) = 3 + n := IntWalk.i64_in _ ⟨by omega, by omega⟩
  have w2 : IntKind.i64.wrap (3 + n + 4) = 3 + n + 4 := IntWalk.i64_in _ ⟨by omega, by omega⟩
  have w3 : IntKind.i64.wrap (3 + n + 4 + 4) = 3 + n + 4 + 4 := IntWalk.i64_in _ ⟨by omega, by omega⟩
  have w4 : IntKind.i64.wrap (3 + n + 4 + 4 - 1) = n + 10 := (IntWalk.i64_in _ ⟨by omega, by omega⟩).trans (by omega)
  have w5 : IntKind.i64.wrap ((n + 10).tdiv 4) = (n + 10) / 4 := by rw [Int.tdiv_eq_ediv_of_nonneg (by omega)]; exact IntWalk.i64_in _ ⟨by omega, by omega⟩
  simp -implicitDefEqProofs [go_sem, c1, c2]
  refine Wp.s ?_
  simp -implicitDefEqProofs [go_sem]
  refine Wp.s ?_
  simp -implicitDefEqProofs [go_sem, w1, w2, w3, w4, w5]
  exact Fin.int (by rw [szR, if_neg (by omega)]) hokH (by simp) (by simp)
theorem refSize_cc (H : Hp) (V : List Nat) (n : Int) : CC Tryz.prog 41 [iv n] H V (Pu (iv (szR n)) H V) := by
  refine CC.of_swp Tryz.func41 rfl (by kernel_rfl) (by rw [Tryz.ntmps41]; exact len_le _ _ rfl) fun hok hokH => ?_
  clear hok
  refine SWp.seq (Wp.s ?_)
  simp -implicitDefEqProofs [go_sem, args0]
  refine SWp.seq (SWp.seq (Wp.s ?_))
  by_cases c1 : n < 0
  · simp -implicitDefEqProofs [go_sem, c1]
    refine Wp.s ?_
    simp -implicitDefEqProofs [go_sem]
    exact Fin.int (by rw [szR, if_pos (.inl c1)]) hokH (by simp) (by simp)
  by_cases c2 : 4096 < n
  · simp -implicitDefEqProofs [go_sem, c1, c2]
    refine Wp.s ?_
    simp -implicitDefEqProofs [go_sem]
    exact Fin.int (by rw [szR, if_pos (.inr c2)]) hokH (by simp) (by simp)
  have w1 : IntKind.i64.wrap (7 + n) = 7 + n := IntWalk.i64_in _ ⟨by omega, by omega⟩
  have w2 : IntKind.i64.wrap (7 + n + 3) = n + 10 := (IntWalk.i64_in _ ⟨by omega, by omega⟩).trans (by omega)
  have w5 : IntKind.i64.wrap ((n + 10).tdiv 4) = (n + 10) / 4 := by rw [Int.tdiv_eq_ediv_of_nonneg (by omega)]; exact IntWalk.i64_in _ ⟨by omega, by omega⟩
  simp -implicitDefEqProofs [go_sem, c1, c2]
  refine Wp.s ?_
  simp -implicitDefEqProofs [go_sem]
  refine Wp.s ?_
  simp -implicitDefEqProofs [go_sem, w1, w2, w5]
  exact Fin.int (by rw [szR, if_neg (by omega)]) hokH (by simp) (by simp)
/-! ### States -/
def stJ (j : Jrn) (u : Int) : List CV := [iv j.start, iv j.count] ++ jrC j ++ [iv u]
@[go_sem, simp] theorem stJ_len (j : Jrn) (u : Int) : (stJ j u).length = 9 := by rw [stJ, jrC]; rfl
@[go_sem, simp] theorem stJ_take (j : Jrn) (u : Int) : (stJ j u).take 9 = stJ j u := rfl
@[go_sem, simp] theorem stJ_drop (j : Jrn) (u : Int) : (stJ j u).drop 9 = [] := rfl
@[go_sem, simp] theorem stJ_take2 (j : Jrn) (u : Int) : (stJ j u).take 2 = [iv j.start, iv j.count] := rfl
@[go_sem, simp] theorem stJ_mid (j : Jrn) (u : Int) : ((stJ j u).drop 2).take 6 = jrC j := rfl
@[go_sem, simp] theorem stJ_mid2 (j : Jrn) (u : Int) : ((stJ j u).take 8).drop 2 = jrC j := rfl
@[go_sem, simp] theorem stJ_all (j : Jrn) (u : Int) : allOne (stJ j u) = true := rfl
@[go_sem, simp] theorem stJ_1 (j : Jrn) (u : Int) (h : 1 < (stJ j u).length) : (stJ j u)[1] = iv j.count := rfl
@[go_sem, simp] theorem stJ_5 (j : Jrn) (u : Int) (h : 5 < (stJ j u).length) : (stJ j u)[5] = iv j.tail := rfl
@[go_sem, simp] theorem stJ_6 (j : Jrn) (u : Int) (h : 6 < (stJ j u).length) : (stJ j u)[6] = iv j.first := rfl
@[go_sem, simp] theorem stJ_7 (j : Jrn) (u : Int) (h : 7 < (stJ j u).length) : (stJ j u)[7] = .sl .sh 1 (j.sizes.map ic) := rfl
@[go_sem, simp] theorem stJ_8 (j : Jrn) (u : Int) (h : 8 < (stJ j u).length) : (stJ j u)[8] = iv u := rfl
theorem stJ_set (j : Jrn) (u w : Int) : (stJ j u).set 8 (iv w) = stJ j w := rfl
@[go_sem] theorem okL_stJ (a b : Nat) (j : Jrn) (u : Int) : okL a b (stJ j u) = True := by simp [stJ, jrC, go_sem, okL, okV, okE_ints]
theorem next_cc (H : Hp) (V : List Nat) (j : Jrn) (u : Int) (h1 : 1 ≤ j.first) (h2 : j.first + j.sizes.length ≤ 1073741824) : CC Tryz.prog 50 [.agg (stJ j u)] H V (Pu (iv (nextJ j)) H V) := by
  refine CC.of_swp Tryz.func50 rfl (by kernel_rfl) (by rw [Tryz.ntmps50]; exact len_le _ _ rfl) fun hok hokH => ?_
  clear hok
  refine SWp.seq (Wp.s ?_)
  simp -implicitDefEqProofs [go_sem, args0]
  refine Wp.s ?_
  simp -implicitDefEqProofs [go_sem, IntWalk.i64_in (j.first + (j.sizes.length : Int)) ⟨by omega, by omega⟩]
  exact Fin.int rfl hokH (by simp) (by simp)
theorem free_cc (H : Hp) (V : List Nat) (j : Jrn) (u : Int) (h : validJ j.start j.count = true) (h1 : 0 ≤ u) (h2 : u ≤ 100000) : CC Tryz.prog 51 [.agg (stJ j u)] H V (Pu (iv (j.count - 16 - u)) H V) := by
  refine CC.of_swp Tryz.func51 rfl (by kernel_rfl) (by rw [Tryz.ntmps51]; exact len_le _ _ rfl) fun hok hokH => ?_
  clear hok
  have hv := (validJ_iff _ _).1 h
  refine SWp.seq (Wp.s ?_)
  simp -implicitDefEqProofs [go_sem, args0]
  refine SWp.seq (SWp.drawnT [] [] (.s 0 .pl <| .s 1 .pl <| .c 2 <| .s 3 .pl <| .s 4 .pl <| .s 5 .pl <| .s 6 .pl <| .n) (by kernel_rfl) (by kernel_rfl) ?_)
  simp -implicitDefEqProofs [go_sem]
  refine ⟨_, fun H V => length_cc H V j.start j.count h, ?_⟩
  simp -implicitDefEqProofs [go_sem]
  refine Wp.s ?_
  simp -implicitDefEqProofs [go_sem, IntWalk.i64_in (j.count - 16 - u) ⟨by omega, by omega⟩]
  exact Fin.int rfl hokH (by simp) (by simp)
end Go.Proofs.YtmgoflhjblombaaGreatDoor
namespace Go.Proofs.YtmgoflhjblombaaGreatDoor
open Go.Proofs
/-! ### The bytes of numbers -/
/-- A number without its lowest bytes. -/
def dvP (n i : Nat) : Nat := n / 256 ^ i
theorem dvP_0 (n : Nat) : dvP n 0 = n := Nat.div_one n
theorem dvP_succ (n i : Nat) : dvP n (i + 1) = dvP n i / 256 := by unfold dvP; rw [Nat.pow_succ, Nat.div_div_eq_div_mul]
/-- The bytes of a number, the least one first. -/
def leN (n : Nat) : Nat → List UInt8
  | 0 => []
  | k + 1 => leN n k ++ [byt (dvP n k : Nat)]
@[simp] theorem leN_len (n : Nat) : ∀ k, (leN n k).length = k
  | 0 => rfl
  | k + 1 => by rw [leN, List.length_append, leN_len n k]; rfl
theorem leN_4 (n : Nat) : leN n 4 = le4 n := by
  have e : ∀ m : Nat, byt (m : Int) = UInt8.ofNat (m % 256) := fun m => by
    apply UInt8.toNat_inj.1
    have := byt_toNat (m : Int)
    rw [UInt8.toNat_ofNat']; omega
  simp only [leN, e, List.nil_append, List.cons_append, le4, dvP]
  rw [show (256 : Nat) ^ 0 = 1 from rfl, Nat.div_one]
theorem shr8 (n i : Nat) : shr .i64 ((dvP n i : Nat) : Int) 8 = ((dvP n (i + 1) : Nat) : Int) := by
  rw [dvP_succ]
  unfold shr
  rw [show ((dvP n i : Nat) : Int).fdiv (2 ^ (min (8 : Int).toNat IntKind.i64.bits)) = ((dvP n i / 256 : Nat) : Int) by rw [Int.fdiv_eq_ediv_of_nonneg _ (by decide)]; show ((dvP n i : Nat) : Int) / 256 = _; omega]
theorem shrP (n k : Nat) (hk : k < 8) : shr .i64 (n : Int) (8 * (k : Int)) = ((dvP n k : Nat) : Int) := by
  have h : k = 0 ∨ k = 1 ∨ k = 2 ∨ k = 3 ∨ k = 4 ∨ k = 5 ∨ k = 6 ∨ k = 7 := by omega
  unfold shr
  rw [Int.fdiv_eq_ediv_of_nonneg _ (Int.le_of_lt (Int.pow_pos (by decide)))]
  rcases h with rfl | rfl | rfl | rfl | rfl | rfl | rfl | rfl
  · show (n : Int) / 1 = ((n / 1 : Nat) : Int); omega
  · show (n : Int) / 256 = ((n / 256 : Nat) : Int); omega
  · show (n : Int) / 65536 = ((n / 65536 : Nat) : Int); omega
  · show (n : Int) / 16777216 = ((n / 16777216 : Nat) : Int); omega
  · show (n : Int) / 4294967296 = ((n / 4294967296 : Nat) : Int); omega
  · show (n : Int) / 1099511627776 = ((n / 1099511627776 : Nat) : Int); omega
  · show (n : Int) / 281474976710656 = ((n / 281474976710656 : Nat) : Int); omega
  · show (n : Int) / 72057594037927936 = ((n / 72057594037927936 : Nat) : Int); omega
theorem little_cc (H : Hp) (V : List Nat) (n k : Nat) (hk : k ≤ 8) : CC Tryz.prog 74 [ci n, ci k] H V (Fr 1 (bs (leN n k)) H V) := by
  refine CC.of_swp Tryz.func74 rfl (by kernel_rfl) (by rw [Tryz.ntmps74]; exact len_le _ _ rfl) fun hok hokH => ?_
  clear hok
  refine SWp.seq (Wp.s ?_)
  simp -implicitDefEqProofs [go_sem, args0]
  refine SWp.seq (Wp.s ?_)
  simp -implicitDefEqProofs [go_sem]
  refine SWp.join (α := Nat) (fun v => ([(5, .sl (.own V.length v) 1 (bs (leN n k)))], H, V ++ [v])) (fun _ => True) ?_ ?_
  · refine SWp.seq (Wp.s ?_)
    simp -implicitDefEqProofs [go_sem]
    refine SWp.block ?_
    refine SWp.loop (α := Nat × Nat) (fun x => ([(0, ci (dvP n x.1 : Nat)), (5, .sl (.own V.length x.2) 1 (bs (leN n x.1))), (6, ci k), (7, ci x.1)], H, V ++ [x.2])) (fun x => x.1 ≤ k) (fun x => k - x.1) (0, 0) (Nat.zero_le _) (Sh.tokT (by simp [go_sem, leN, dvP_0]) rfl rfl) ?_
    rintro ⟨i, v⟩ hi
    dsimp only at hi ⊢
    refine Wp.s ?_
    simp -implicitDefEqProofs [go_sem, shr8]
    refine ⟨fun h => ⟨by omega, i + 1, by omega, by omega, v + 1, Sh.forget ?_ rfl rfl⟩, fun h => ⟨v, Sh.forget ?_ rfl rfl⟩⟩
    · simp [go_sem, wrap_succ (show i ≤ 1000000000 by omega), leN]
    · obtain rfl : i = k := by omega
      simp [go_sem]
  · rintro v -
    refine Wp.s ?_
    simp -implicitDefEqProofs [go_sem]
    exact Fin.fresh rfl (okBs _ _ _) hokH (by simp)
end Go.Proofs.YtmgoflhjblombaaGreatDoor
namespace Go.Proofs.YtmgoflhjblombaaGreatDoor
open Go.Proofs
theorem sumI_snoc (l : List Int) (x : Int) : sumI (l ++ [x]) = sumI l + x := by rw [sumI, List.foldl_append]; rfl
theorem sumI_take (l : List Int) (i : Nat) (h : i < l.length) : sumI (l.take (i + 1)) = sumI (l.take i) + l[i] := by rw [List.take_succ_eq_append_getElem h, sumI_snoc]
theorem sumI_cons (x : Int) (l : List Int) : sumI (x :: l) = x + sumI l := by
  have : ∀ (l : List Int) (a : Int), l.foldl (· + ·) a = a + l.foldl (· + ·) 0 := fun l => by
    induction l with
    | nil => intro a; simp
    | cons y l ih => intro a; rw [List.foldl_cons, List.foldl_cons, ih (a + y), ih (0 + y)]; omega
  rw [sumI, List.foldl_cons, this]; simp [sumI]
theorem okSz_iff (n : Int) : okSz n = true ↔ 2 ≤ n ∧ n ≤ 1026 := by simp [okSz]
theorem sumI_app (a b : List Int) : sumI (a ++ b) = sumI a + sumI b := by
  induction a with
  | nil => simp [sumI]
  | cons x a ih => rw [List.cons_append, sumI_cons, sumI_cons, ih]; omega
theorem sumI_ge : ∀ l : List Int, l.all okSz = true → 2 * (l.length : Int) ≤ sumI l
  | [], _ => by decide
  | x :: l, h => by
    rw [List.all_cons, Bool.and_eq_true, okSz_iff] at h
    have := sumI_ge l h.2
    rw [sumI_cons, List.length_cons]; omega
theorem sumI_le : ∀ l : List Int, l.all okSz = true → sumI l ≤ 1026 * (l.length : Int)
  | [], _ => by decide
  | x :: l, h => by
    rw [List.all_cons, Bool.and_eq_true, okSz_iff] at h
    have := sumI_le l h.2
    rw [sumI_cons, List.length_cons]; omega
theorem sumI_mono (l : List Int) (i : Nat) (h : l.all okSz = true) : sumI (l.take i) ≤ sumI l := by
  have e := sumI_app (l.take i) (l.drop i)
  rw [List.take_append_drop] at e
  have h2 : (l.drop i).all okSz = true := by
    rw [List.all_eq_true] at h ⊢; exact fun x hx => h x (List.mem_of_mem_drop hx)
  have := sumI_ge _ h2
  omega
/-- The head and the number of the first record are right. -/
def preJ (j : Jrn) : Bool := decide (0 ≤ j.head) && decide (j.head < j.count - 16) && decide (1 ≤ j.first) && decide (j.first ≤ 1073741824) && decide ((j.sizes.length : Int) ≤ 1073741824 - j.first)
theorem preJ_iff (j : Jrn) : preJ j = true ↔ 0 ≤ j.head ∧ j.head < j.count - 16 ∧ 1 ≤ j.first ∧ j.first ≤ 1073741824 ∧ (j.sizes.length : Int) ≤ 1073741824 - j.first := by simp only [preJ, Bool.and_eq_true, decide_eq_true_eq, and_assoc]
theorem chkJ_iff (j : Jrn) : chkJ j = true ↔ validJ j.start j.count = true ∧ preJ j = true ∧ j.sizes.all okSz = true ∧ sumI j.sizes ≤ j.count - 16 ∧ j.tail = (j.head + sumI j.sizes) % (j.count - 16) := by
  rw [preJ_iff, chkJ]
  simp only [Bool.and_eq_true, decide_eq_true_eq, and_assoc]
  constructor
  · rintro ⟨h1, h2, h3, h4, h5, h6, h7, h8, h9⟩; exact ⟨h1, h2, h3, h4, h5, by omega, h6, h7, h8⟩
  · rintro ⟨h1, h2, h3, h4, h5, h6, h7, h8, h9⟩; exact ⟨h1, h2, h3, h4, h5, h7, h8, h9, by omega⟩
theorem chkJ_f {j : Jrn} (h : ¬ (validJ j.start j.count = true ∧ preJ j = true ∧ j.sizes.all okSz = true ∧ sumI j.sizes ≤ j.count - 16 ∧ j.tail = (j.head + sumI j.sizes) % (j.count - 16))) : chkJ j = false := by
  rw [← Bool.not_eq_true, chkJ_iff]; exact h
theorem sum_cc (H : Hp) (V : List Nat) (l : List Int) (hl : l.all okSz = true) (hn : l.length ≤ 4096) : CC Tryz.prog 42 [.sl .sh 1 (l.map ic)] H V (Pu (iv (sumI l)) H V) := by
  refine CC.of_swp Tryz.func42 rfl (by kernel_rfl) (by rw [Tryz.ntmps42]; exact len_le _ _ rfl) fun hok hokH => ?_
  clear hok
  refine SWp.seq (Wp.s ?_)
  simp -implicitDefEqProofs [go_sem, args0]
  refine SWp.seq (Wp.s ?_)
  simp -implicitDefEqProofs [go_sem]
  refine SWp.join (α := Unit) (fun _ => ([(3, iv (sumI l))], H, V)) (fun _ => True) ?_ ?_
  · refine SWp.seq (Wp.s ?_)
    simp -implicitDefEqProofs [go_sem]
    refine SWp.block ?_
    refine SWp.loop (α := Nat) (fun i => ([(0, .sl .sh 1 (l.map ic)), (3, iv (sumI (l.take i))), (4, ci i)], H, V)) (fun i => i ≤ l.length) (fun i => l.length - i) 0 (Nat.zero_le _) (Sh.forget (by simp [go_sem, sumI]) rfl rfl) ?_
    rintro i hi
    dsimp only at hi ⊢
    have hi2 : (l.take i).all okSz = true := by
      rw [List.all_eq_true] at hl ⊢; exact fun x hx => hl x (List.mem_of_mem_take hx)
    have g1 := sumI_ge _ hi2
    have g2 := sumI_le _ hi2
    rw [List.length_take] at g1 g2
    refine Wp.s ?_
    by_cases h : i < l.length
    · have g3 := (okSz_iff _).1 (List.all_eq_true.1 hl _ (List.getElem_mem h))
      have w1 : IntKind.i64.wrap (sumI (l.take i) + l[i]) = sumI (l.take (i + 1)) := by rw [sumI_take l i h]; exact IntWalk.i64_in _ ⟨by omega, by omega⟩
      simp -implicitDefEqProofs [go_sem, h, w1]
      refine ⟨i + 1, by omega, by omega, Sh.forget ?_ rfl rfl⟩
      simp [go_sem, wrap_succ (show i ≤ 1000000000 by omega)]
    · simp -implicitDefEqProofs [go_sem, h]
      refine Sh.forget ?_ rfl rfl
      rw [List.take_of_length_le (by omega)]
      simp [go_sem]
  · rintro _ -
    refine Wp.s ?_
    simp -implicitDefEqProofs [go_sem]
    exact Fin.int rfl hokH (by simp) (by simp)
end Go.Proofs.YtmgoflhjblombaaGreatDoor
namespace Go.Proofs.YtmgoflhjblombaaGreatDoor
open Go.Proofs
theorem stJ_raw (j : Jrn) : iv j.start :: iv j.count :: (jrC j ++ iv 0 :: List.drop 7 (jrC j ++ [iv 0])) = stJ j 0 := rfl
@[go_sem, simp] theorem stJ_drop9 (j : Jrn) (u : Int) (k : Nat) : (stJ j u).drop (9 + k) = [] := List.drop_eq_nil_of_le (by simp)
@[go_sem] theorem inA_v (S : List Nat) (u : Value) : inA S (.v u) = True := rfl
abbrev zst : List CV := [iv 0, iv 0, iv 0, iv 0, iv 0, iv 0, iv 0, .v (.slice none 0 0), iv 0]
theorem stJ_upd (j : Jrn) (u w : Int) : List.take 8 (stJ j u) ++ [iv w] = stJ j w := rfl
@[go_sem] theorem Kp_mid (H : Hp) (a x y c : Option (List CV)) : Kp [H.length, H.length + 2] (H ++ [a, x, c]) (H ++ [a, y, c]) = True := by
  refine eq_true (Kp.keep fun b hb => ?_)
  rcases List.mem_cons.1 hb with rfl | hb
  · simp
  · obtain rfl : b = H.length + 2 := by simpa using hb
    rw [hget, hget]; rfl
def XamP (j : Jrn) (H : Hp) (V : List Nat) : CV → Hp → List Nat → Prop := fun r H' V' => ∃ u, r = .tup [.agg (stJ j u), cb (chkJ j)] ∧ H = H' ∧ V = V' ∧ (chkJ j = true → u = sumI j.sizes)
/-- The first i sizes are right. -/
def XL (j : Jrn) (i : Nat) : Prop := i ≤ j.sizes.length ∧ (j.sizes.take i).all okSz = true ∧ sumI (j.sizes.take i) ≤ j.count - 16
/-- Behind the loop. -/
def bJ (j : Jrn) : Bool := preJ j && j.sizes.all okSz && decide (sumI j.sizes ≤ j.count - 16)
def XE (j : Jrn) (u : Int) : Prop := 0 ≤ u ∧ u ≤ j.count - 16 ∧ (bJ j = true → u = sumI j.sizes)
theorem XE.all {j : Jrn} {i : Nat} (h : XL j i) (hi : j.sizes.length ≤ i) : XE j (sumI (j.sizes.take i)) ∧ bJ j = preJ j := by
  obtain ⟨_, h2, h3⟩ := h
  have g := sumI_ge _ h2
  refine ⟨⟨by omega, h3, fun _ => by rw [List.take_of_length_le hi]⟩, ?_⟩
  rw [List.take_of_length_le hi] at h2 h3
  simp only [bJ, h2, h3, decide_true, Bool.and_true]
theorem XE.bad {j : Jrn} {i : Nat} (h : XL j i) (hi : i < j.sizes.length) (hb : ¬ (2 ≤ j.sizes[i] ∧ j.sizes[i] ≤ 1026 ∧ sumI (j.sizes.take i) + j.sizes[i] ≤ j.count - 16)) : XE j (sumI (j.sizes.take i)) ∧ bJ j = false := by
  obtain ⟨_, h2, h3⟩ := h
  have g := sumI_ge _ h2
  have hf : bJ j = false := by
    unfold bJ
    by_cases h : j.sizes.all okSz = true
    case neg =>
      have : j.sizes.all okSz = false := by simpa using h
      simp only [this, Bool.and_false, Bool.false_and]
    have g3 := (okSz_iff _).1 (List.all_eq_true.1 h _ (List.getElem_mem hi))
    have g4 := sumI_mono j.sizes (i + 1) h
    rw [sumI_take _ _ hi] at g4
    have : ¬ sumI j.sizes ≤ j.count - 16 := by omega
    simp only [this, decide_false, Bool.and_false]
  exact ⟨⟨by omega, h3, fun h => by rw [hf] at h; cases h⟩, hf⟩
theorem chkJ_bJ (j : Jrn) (h : validJ j.start j.count = true) : chkJ j = (bJ j && decide (j.tail = (j.head + sumI j.sizes) % (j.count - 16))) := by
  rw [Bool.eq_iff_iff, chkJ_iff]
  simp [bJ, h, and_assoc]
theorem XL.succ {j : Jrn} {i : Nat} (h : XL j i) (hi : i < j.sizes.length) (h1 : 2 ≤ j.sizes[i]) (h2 : j.sizes[i] ≤ 1026) (hb : sumI (j.sizes.take i) + j.sizes[i] ≤ j.count - 16) : XL j (i + 1) := by
  refine ⟨hi, ?_, by rw [sumI_take _ _ hi]; exact hb⟩
  rw [List.take_succ_eq_append_getElem hi, List.all_append, h.2.1]
  simp [okSz, h1, h2]
set_option maxRecDepth 8000 in
theorem examine_cc (H : Hp) (V : List Nat) (j : Jrn) (hl : j.sizes.length ≤ 1000000000) : CC Tryz.prog 35 [.agg (jrC j)] H V (XamP j H V) := by
  refine CC.of_swp Tryz.func35 rfl (by kernel_rfl) (by rw [Tryz.ntmps35]; exact len_le _ _ rfl) fun hok hokH => ?_
  clear hok
  refine SWp.seq (Wp.s ?_)
  simp -implicitDefEqProofs [go_sem, args0]
  refine SWp.scope ?_
  refine SWp.seq (Wp.s ?_)
  simp -implicitDefEqProofs [go_sem, stJ_raw]
  have fin : ∀ (L : Hp) (u : Int) (b : Bool), b = chkJ j → (chkJ j = true → u = sumI j.sizes) → Fin H.length V.length (XamP j H V) (.tup [.agg (stJ j u), cb b]) (H ++ L) V := fun L u b hb hu => by
    subst hb
    refine Fin.pure ⟨u, rfl, rfl, rfl, hu⟩ (by simp) (by simp) (.refl _) ?_ hokH
    rw [okV]
    simp [go_sem, okL, okV]
  refine SWp.join (α := Unit) (fun _ => ([(1, .ptr H.length 0), (2, .ptr (H.length + 1) 0), (4, .ptr (H.length + 2) 0)], H ++ [some (jrC j), some zst, some (stJ j 0)], V)) (fun _ => validJ j.start j.count = true) ?_ ?_
  · refine SWp.seq (Wp.s ?_)
    simp -implicitDefEqProofs [go_sem]
    refine CC.mono (valid_cc _ _ _ _) ?_
    rintro _ _ _ ⟨rfl, rfl, rfl⟩
    by_cases hv : validJ j.start j.count = true
    case neg =>
      simp -implicitDefEqProofs [go_sem, hv]
      refine Wp.s ?_
      simp -implicitDefEqProofs [go_sem]
      exact fin _ 0 false (chkJ_f (fun h => hv h.1)).symm fun h => absurd ((chkJ_iff j).1 h).1 hv
    simp -implicitDefEqProofs [go_sem, hv]
    refine Wp.s ?_
    simp -implicitDefEqProofs [go_sem]
    exact Sh.forget (by simp [go_sem]) rfl rfl
  rintro _ hv
  dsimp only
  have hvi := (validJ_iff _ _).1 hv
  have nf : ∀ b, (0 ≤ j.head ∧ j.head < j.count - 16 ∧ 1 ≤ j.first ∧ j.first ≤ 1073741824 ∧ (j.sizes.length : Int) ≤ 1073741824 - j.first ↔ b = true) → b = preJ j := fun b h => by
    rw [Bool.eq_iff_iff, preJ_iff, h]
  refine SWp.join (α := Unit) (fun _ => ([(1, .ptr H.length 0), (2, .ptr (H.length + 1) 0), (4, .ptr (H.length + 2) 0), (5, cb (preJ j))], H ++ [some (jrC j), some zst, some (stJ j 0)], V)) (fun _ => True) ?_ ?_
  · refine SWp.drawnT [] [] (.s 0 .pl <| .s 1 .pl <| .s 2 .pl <| .s 3 .pl <| .s 4 .pl <| .s 5 .pl <| .s 6 .pl <| .s 7 .pl <| .s 8 .pl <| .s 9 .pl <| .s 10 .pl <| .s 11 .pl <| .s 12 .pl <| .s 13 .pl <| .s 14 .pl <| .s 15 .pl <| .s 16 .pl <| .s 17 .pl <| .s 18 .pl <| .s 19 .pl <| .s 20 .pl <| .s 21 .pl <| .s 22 .pl <| .s 23 .pl <| .s 24 .pl <| .s 25 .pl <| .s 26 .pl <| .s 27 .pl <| .s 28 .pl <| .s 29 .pl <| .s 30 .pl <| .n) (by kernel_rfl) (by kernel_rfl) ?_
    by_cases c1 : 0 ≤ j.head
    case neg =>
      simp -implicitDefEqProofs [go_sem, c1]
      exact Sh.forget (by simp [go_sem, ← nf false (by simp; omega)]) rfl rfl
    simp -implicitDefEqProofs [go_sem, c1]
    refine CC.mono (length_cc _ _ _ _ hv) ?_
    rintro _ _ _ ⟨rfl, rfl, rfl⟩
    by_cases c2 : j.head < j.count - 16
    case neg =>
      simp -implicitDefEqProofs [go_sem, c1, c2]
      exact Sh.forget (by simp [go_sem, ← nf false (by simp; omega)]) rfl rfl
    by_cases c3 : 1 ≤ j.first
    case neg =>
      simp -implicitDefEqProofs [go_sem, c1, c2, c3]
      exact Sh.forget (by simp [go_sem, ← nf false (by simp; omega)]) rfl rfl
    by_cases c4 : j.first ≤ 1073741824
    case neg =>
      simp -implicitDefEqProofs [go_sem, c1, c2, c3, c4]
      exact Sh.forget (by simp [go_sem, ← nf false (by simp; omega)]) rfl rfl
    have w0 : IntKind.i64.wrap (1073741824 - j.first) = 1073741824 - j.first := IntWalk.i64_in _ ⟨by omega, by omega⟩
    by_cases c5 : (j.sizes.length : Int) ≤ 1073741824 - j.first
    case neg =>
      simp -implicitDefEqProofs [go_sem, c1, c2, c3, c4, c5, w0]
      exact Sh.forget (by simp [go_sem, ← nf false (by simp; omega)]) rfl rfl
    simp -implicitDefEqProofs [go_sem, c1, c2, c3, c4, c5, w0]
    exact Sh.forget (by simp [go_sem, ← nf true (by simp; omega)]) rfl rfl
  rintro _ -
  dsimp only
  refine SWp.seq (Wp.s ?_)
  simp -implicitDefEqProofs [go_sem]
  refine CC.mono (RSize_cc _ _ _) ?_
  rintro _ _ _ ⟨rfl, rfl, rfl⟩
  simp -implicitDefEqProofs [go_sem, show szR 4096 = 1026 from rfl]
  refine SWp.seq (Wp.s ?_)
  simp -implicitDefEqProofs [go_sem]
  refine SWp.join (α := Int) (fun u => ([(1, .ptr H.length 0), (2, .ptr (H.length + 1) 0), (4, .ptr (H.length + 2) 0), (5, cb (bJ j))], H ++ [some (jrC j), some zst, some (stJ j u)], V))
    (fun u => XE j u) ?_ ?_
  · refine SWp.seq (Wp.s ?_)
    simp -implicitDefEqProofs [go_sem]
    refine SWp.block ?_
    refine SWp.loop (α := Nat) (fun i => ([(1, .ptr H.length 0), (2, .ptr (H.length + 1) 0), (4, .ptr (H.length + 2) 0), (5, cb (preJ j)), (6, iv 1026), (51, .sl .sh 1 (j.sizes.map ic)), (52, ci j.sizes.length), (53, ci i)], H ++ [some (jrC j), some zst, some (stJ j (sumI (j.sizes.take i)))], V)) (fun i => XL j i) (fun i => j.sizes.length - i) 0 ⟨Nat.zero_le _, rfl, by show (0 : Int) ≤ _; omega⟩ (Sh.forget (by simp [go_sem, sumI]) rfl rfl) ?_
    rintro i hx
    dsimp only at hx ⊢
    have hi := hx.1
    have hs := hx.2.2
    have g1 := sumI_ge _ hx.2.1
    refine SWp.seq (Wp.s ?_)
    simp -implicitDefEqProofs [go_sem]
    refine SWp.seq (Wp.s ?_)
    simp -implicitDefEqProofs [go_sem]
    refine ⟨fun h => ?_, fun h => ⟨_, (XE.all hx h).1, Sh.forget (by simp [go_sem, (XE.all hx h).2]) rfl rfl⟩⟩
    refine SWp.seq (SWp.block (SWp.seq (Wp.s ?_)))
    simp -implicitDefEqProofs [go_sem, h]
    refine SWp.seq (SWp.seq (SWp.drawnT [] [] (.s 0 .pl <| .s 1 .pl <| .s 2 .pl <| .s 3 .pl <| .s 4 .pl <| .s 5 .pl <| .s 6 .pl <| .s 7 .pl <| .s 8 .pl <| .s 9 .pl <| .s 10 .pl <| .s 11 .pl <| .s 12 .pl <| .s 13 .pl <| .s 14 .pl <| .s 15 .pl <| .s 16 .pl <| .n) (by kernel_rfl) (by kernel_rfl) ?_))
    by_cases c1 : j.sizes[i] < 2
    · simp -implicitDefEqProofs [go_sem, c1]
      refine Wp.s ?_
      simp -implicitDefEqProofs [go_sem]
      exact ⟨_, (XE.bad hx h (by omega)).1, Sh.forget (by simp [go_sem, (XE.bad hx h (by omega)).2]) rfl rfl⟩
    by_cases c2 : 1026 < j.sizes[i]
    · simp -implicitDefEqProofs [go_sem, c1, c2]
      refine Wp.s ?_
      simp -implicitDefEqProofs [go_sem]
      exact ⟨_, (XE.bad hx h (by omega)).1, Sh.forget (by simp [go_sem, (XE.bad hx h (by omega)).2]) rfl rfl⟩
    have w1 : IntKind.i64.wrap (sumI (j.sizes.take i) + j.sizes[i]) = sumI (j.sizes.take i) + j.sizes[i] := IntWalk.i64_in _ ⟨by omega, by omega⟩
    simp -implicitDefEqProofs [go_sem, c1, c2, w1]
    refine CC.mono (length_cc _ _ _ _ hv) ?_
    rintro _ _ _ ⟨rfl, rfl, rfl⟩
    by_cases c3 : j.count - 16 < sumI (j.sizes.take i) + j.sizes[i]
    · simp -implicitDefEqProofs [go_sem, c3]
      refine Wp.s ?_
      simp -implicitDefEqProofs [go_sem]
      exact ⟨_, (XE.bad hx h (by omega)).1, Sh.forget (by simp [go_sem, (XE.bad hx h (by omega)).2]) rfl rfl⟩
    simp -implicitDefEqProofs [go_sem, c3]
    refine Wp.s ?_
    simp -implicitDefEqProofs [go_sem]
    refine Wp.s ?_
    simp -implicitDefEqProofs [go_sem, w1, stJ_upd]
    refine Wp.s ?_
    simp -implicitDefEqProofs [go_sem]
    refine ⟨i + 1, XL.succ hx h (by omega) (by omega) (by omega), by omega, Sh.forget ?_ ?_ rfl⟩
    · simp [go_sem, wrap_succ (show i ≤ 1000000000 by omega)]
    · rw [sumI_take _ _ h]
  rintro u hx
  dsimp only at hx ⊢
  obtain ⟨hu1, hu2, hu⟩ := hx
  refine SWp.seq (SWp.drawnT [H.length, H.length + 2] [16] (.s 0 .pl <| .s 1 .pl <| .s 2 .pl <| .s 3 .pl <| .s 4 .ld <| .s 5 .pl <| .s 6 .ld <| .s 7 .pl <| .s 8 .ld <| .s 9 .pl <| .s 10 .pl <| .s 11 .ld <| .s 12 .pl <| .s 13 .pl <| .s 14 .pl <| .s 15 .pl <| .s 16 .st <| .s 17 .pl <| .n) (by kernel_rfl) (by kernel_rfl) ?_)
  cases hb : bJ j with
  | false =>
    simp -implicitDefEqProofs [go_sem, hb]
    refine Wp.s ?_
    simp -implicitDefEqProofs [go_sem]
    exact fin _ u false (by rw [chkJ_bJ j hv, hb]; rfl) fun h => by rw [chkJ_bJ j hv, hb] at h; cases h
  | true =>
    have hpre : preJ j = true := by
      rw [bJ, Bool.and_eq_true, Bool.and_eq_true] at hb; exact hb.1.1
    have hp := (preJ_iff j).1 hpre
    have w1 : IntKind.i64.wrap (j.head + u) = j.head + u := IntWalk.i64_in _ ⟨by omega, by omega⟩
    have w2 : IntKind.i64.wrap ((j.head + u).tmod (j.count - 16)) = (j.head + u) % (j.count - 16) := by
      rw [Int.tmod_eq_emod_of_nonneg (by omega)]
      have := Int.emod_nonneg (j.head + u) (show j.count - 16 ≠ 0 by omega)
      have := Int.emod_lt_of_pos (j.head + u) (show 0 < j.count - 16 by omega)
      exact IntWalk.i64_in _ ⟨by omega, by omega⟩
    simp -implicitDefEqProofs [go_sem, hb, w1]
    refine CC.mono (length_cc _ _ _ _ hv) ?_
    rintro _ _ _ ⟨rfl, rfl, rfl⟩
    simp -implicitDefEqProofs [go_sem]
    have t1 := Int.tmod_eq_emod_of_nonneg (b := j.count - 16) (show 0 ≤ j.head + u by omega)
    refine ⟨by omega, Wp.s ?_⟩
    simp -implicitDefEqProofs [go_sem]
    refine fin _ u _ ?_ fun _ => hu hb
    rw [chkJ_bJ j hv, hb, t1, hu hb]; simp
end Go.Proofs.YtmgoflhjblombaaGreatDoor
namespace Go.Proofs.YtmgoflhjblombaaGreatDoor
open Go.Proofs
def ckE (j : Jrn) : Nat := if chkJ j then 0 else 3
def nxJ (j : Jrn) : Int := if chkJ j then nextJ j else 0
def frJ (j : Jrn) : Int := if chkJ j then freeJ j else 0
theorem chkJ_next {j : Jrn} (h : chkJ j = true) : 1 ≤ j.first ∧ j.first + j.sizes.length ≤ 1073741824 := by
  have := (preJ_iff j).1 ((chkJ_iff j).1 h).2.1
  omega
theorem chkJ_sum {j : Jrn} (h : chkJ j = true) : 0 ≤ sumI j.sizes ∧ sumI j.sizes ≤ j.count - 16 ∧ 2 * (j.sizes.length : Int) ≤ sumI j.sizes := by
  have h := (chkJ_iff j).1 h
  have := sumI_ge _ h.2.2.1
  omega
theorem chkJ_val {j : Jrn} (h : chkJ j = true) : validJ j.start j.count = true := ((chkJ_iff j).1 h).1
theorem JCheck_cc (H : Hp) (V : List Nat) (j : Jrn) (hl : j.sizes.length ≤ 1000000000) : CC Tryz.prog 19 [.agg (jrC j)] H V (Pu (er (ckE j)) H V) := by
  refine CC.of_swp Tryz.func19 rfl (by kernel_rfl) (by rw [Tryz.ntmps19]; exact len_le _ _ rfl) fun hok hokH => ?_
  clear hok
  refine SWp.seq (Wp.s ?_)
  simp -implicitDefEqProofs [go_sem, args0]
  refine SWp.seq (SWp.seq (Wp.s ?_))
  simp -implicitDefEqProofs [go_sem]
  refine CC.mono (examine_cc _ _ j hl) ?_
  rintro _ _ _ ⟨u, rfl, rfl, rfl, hu⟩
  simp -implicitDefEqProofs [go_sem]
  by_cases h : chkJ j = true
  · refine Wp.s ?_
    simp -implicitDefEqProofs [go_sem, h]
    refine Wp.s ?_
    simp -implicitDefEqProofs [go_sem]
    exact Fin.er (by rw [ckE, if_pos h]) hokH (by simp) (by simp)
  · refine Wp.s ?_
    simp -implicitDefEqProofs [go_sem, h]
    exact Fin.er (by rw [ckE, if_neg h]) hokH (by simp) (by simp)
theorem JNext_cc (H : Hp) (V : List Nat) (j : Jrn) (hl : j.sizes.length ≤ 1000000000) : CC Tryz.prog 25 [.agg (jrC j)] H V (Pu (iv (nxJ j)) H V) := by
  refine CC.of_swp Tryz.func25 rfl (by kernel_rfl) (by rw [Tryz.ntmps25]; exact len_le _ _ rfl) fun hok hokH => ?_
  clear hok
  refine SWp.seq (Wp.s ?_)
  simp -implicitDefEqProofs [go_sem, args0]
  refine SWp.seq (Wp.s ?_)
  simp -implicitDefEqProofs [go_sem]
  refine CC.mono (examine_cc _ _ j hl) ?_
  rintro _ _ _ ⟨u, rfl, rfl, rfl, hu⟩
  simp -implicitDefEqProofs [go_sem]
  refine SWp.seq (SWp.seq (Wp.s ?_))
  by_cases h : chkJ j = true
  · simp -implicitDefEqProofs [go_sem, h]
    refine Wp.s ?_
    simp -implicitDefEqProofs [go_sem]
    refine Wp.s ?_
    simp -implicitDefEqProofs [go_sem]
    refine CC.mono (next_cc _ _ j u (chkJ_next h).1 (chkJ_next h).2) ?_
    rintro _ _ _ ⟨rfl, rfl, rfl⟩
    simp -implicitDefEqProofs [go_sem]
    exact Fin.int (by rw [nxJ, if_pos h]) hokH (by simp) (by simp)
  · simp -implicitDefEqProofs [go_sem, h]
    refine Wp.s ?_
    simp -implicitDefEqProofs [go_sem]
    exact Fin.int (by rw [nxJ, if_neg h]) hokH (by simp) (by simp)
theorem JFree_cc (H : Hp) (V : List Nat) (j : Jrn) (hl : j.sizes.length ≤ 1000000000) : CC Tryz.prog 23 [.agg (jrC j)] H V (Pu (iv (frJ j)) H V) := by
  refine CC.of_swp Tryz.func23 rfl (by kernel_rfl) (by rw [Tryz.ntmps23]; exact len_le _ _ rfl) fun hok hokH => ?_
  clear hok
  refine SWp.seq (Wp.s ?_)
  simp -implicitDefEqProofs [go_sem, args0]
  refine SWp.seq (Wp.s ?_)
  simp -implicitDefEqProofs [go_sem]
  refine CC.mono (examine_cc _ _ j hl) ?_
  rintro _ _ _ ⟨u, rfl, rfl, rfl, hu⟩
  simp -implicitDefEqProofs [go_sem]
  refine SWp.seq (SWp.seq (Wp.s ?_))
  by_cases h : chkJ j = true
  · have hs := chkJ_sum h
    have hv := (validJ_iff _ _).1 (chkJ_val h)
    obtain rfl := hu h
    simp -implicitDefEqProofs [go_sem, h]
    refine Wp.s ?_
    simp -implicitDefEqProofs [go_sem]
    refine Wp.s ?_
    simp -implicitDefEqProofs [go_sem]
    refine CC.mono (free_cc _ _ j _ (chkJ_val h) (by omega) (by omega)) ?_
    rintro _ _ _ ⟨rfl, rfl, rfl⟩
    simp -implicitDefEqProofs [go_sem]
    exact Fin.int (by rw [frJ, if_pos h]; rfl) hokH (by simp) (by simp)
  · simp -implicitDefEqProofs [go_sem, h]
    refine Wp.s ?_
    simp -implicitDefEqProofs [go_sem]
    exact Fin.int (by rw [frJ, if_neg h]) hokH (by simp) (by simp)
end Go.Proofs.YtmgoflhjblombaaGreatDoor
namespace Go.Proofs.YtmgoflhjblombaaGreatDoor
open Go.Proofs
theorem ckE_ok {j : Jrn} (h : chkJ j = true) : ckE j = 0 := by rw [ckE, if_pos h]
theorem ckE_no {j : Jrn} (h : chkJ j = false) : ckE j = 3 := by rw [ckE, if_neg (by simp [h])]
theorem XL.ok {j : Jrn} (h : j.sizes.all okSz = true) {i : Nat} (hi : i < j.sizes.length) : 2 ≤ j.sizes[i] ∧ j.sizes[i] ≤ 1026 := (okSz_iff _).1 (List.all_eq_true.1 h _ (List.getElem_mem hi))
/-- What holds of a good journal before the loop of the reference. -/
def headB (j : Jrn) : Prop := validJ j.start j.count = true ∧ 0 ≤ j.head ∧ j.head < j.count - 16 ∧ 1 ≤ j.first ∧ j.first ≤ 1073741824 ∧ (j.sizes.length : Int) ≤ j.count - 16
theorem headB_of {j : Jrn} (h : chkJ j = true) : headB j := by
  have h1 := (chkJ_iff j).1 h
  have h2 := (preJ_iff j).1 h1.2.1
  have h3 := sumI_ge _ h1.2.2.1
  have h4 := (validJ_iff _ _).1 h1.1
  exact ⟨h1.1, h2.1, h2.2.1, h2.2.2.1, h2.2.2.2.1, by omega⟩
theorem bad_head {j : Jrn} (h : ¬ headB j) : ckE j = 3 := ckE_no (by
  rw [← Bool.not_eq_true]; exact fun e => h (headB_of e))
theorem chk_of {j : Jrn} (h : headB j) (ha : j.sizes.all okSz = true) (h1 : sumI j.sizes ≤ j.count - 16) (h2 : j.tail = (j.head + sumI j.sizes) % (j.count - 16)) (h3 : j.first + j.sizes.length ≤ 1073741824) : chkJ j = true := by
  obtain ⟨a, b, c, d, e, f⟩ := h
  exact (chkJ_iff j).2 ⟨a, (preJ_iff j).2 ⟨b, c, d, e, by omega⟩, ha, h1, h2⟩
def okAll (l : List Int) : Prop := l.all okSz = true
end Go.Proofs.YtmgoflhjblombaaGreatDoor
namespace Go.Proofs.YtmgoflhjblombaaGreatDoor
open Go.Proofs
theorem payload_cc (H : Hp) (V : List Nat) (h f : Int) : CC Tryz.prog 73 [iv h, iv f] H V (Pu (.sl .sh 1 (bs (superJ h f))) H V) := by
  refine CC.of_swp Tryz.func73 rfl (by kernel_rfl) (by rw [Tryz.ntmps73]; exact len_le _ _ rfl) fun hok hokH => ?_
  clear hok
  have l1 := enc_len h
  refine SWp.seq (Wp.s ?_)
  simp -implicitDefEqProofs [go_sem, args0]
  refine SWp.seq (Wp.s ?_)
  simp -implicitDefEqProofs [go_sem]
  refine CC.le (ys := [.sl .sh 1 (bs []), iv h]) (.cons (.nil 1 (by decide)) (.cons (.refl _) .nil)) ?_
  refine CC.mono (PutInt_cc _ _ .sh [] h (by simp)) ?_
  rintro _ _ _ ⟨v, rfl, rfl, rfl⟩
  simp -implicitDefEqProofs [go_sem]
  refine CC.mono (PutInt_cc _ _ _ (enc h) f (by omega)) ?_
  rintro _ _ _ ⟨v2, rfl, rfl, rfl⟩
  simp -implicitDefEqProofs [go_sem]
  refine Wp.s ?_
  simp -implicitDefEqProofs [go_sem]
  exact Fin.pu (.sh _ _ _) (by rw [okV]; exact ⟨trivial, okBs _ _ _⟩) hokH (by simp) (by simp)
end Go.Proofs.YtmgoflhjblombaaGreatDoor
namespace Go.Proofs.YtmgoflhjblombaaGreatDoor
open Go.Proofs
def kW (c p : Int) (l : List Sec) : Nat := min l.length (c - 16 - p).toNat
theorem wrapW_1 {s c p : Int} {l : List Sec} (h : kW c p l < l.length) : wrapW s c p l = [opW (s + 16 + p) (l.take (kW c p l)), opW (s + 16) (l.drop (kW c p l))] := by
  show opW _ _ :: (if kW c p l < l.length then _ else _) = _
  rw [if_pos h]; rfl
theorem wrapW_0 {s c p : Int} {l : List Sec} (h : ¬ kW c p l < l.length) : wrapW s c p l = [opW (s + 16 + p) (l.take (kW c p l))] := by
  show opW _ _ :: (if kW c p l < l.length then _ else _) = _
  rw [if_neg h]; rfl
theorem write_cc (H : Hp) (V : List Nat) (s c p : Int) (l : List Sec) (h : validJ s c = true) (h1 : 0 ≤ p) (h2 : p ≤ c - 16) (hl : l.length ≤ 1000000) : CC Tryz.prog 52 [.agg [iv s, iv c], iv p, secsV l] H V (Fr 3 ((wrapW s c p l).map opC) H V) := by
  refine CC.of_swp Tryz.func52 rfl (by kernel_rfl) (by rw [Tryz.ntmps52]; exact len_le _ _ rfl) fun hok hokH => ?_
  clear hok
  have hv := (validJ_iff s c).1 h
  obtain ⟨k, hk⟩ : ∃ k, k = kW c p l := ⟨_, rfl⟩
  have hkm : min (l.length : Int) (c - 16 - p) = (k : Int) := by rw [hk, kW]; omega
  have hkl : k ≤ l.length := by rw [hk, kW]; omega
  have w1 : IntKind.i64.wrap (c - 16 - p) = c - 16 - p := IntWalk.i64_in _ ⟨by omega, by omega⟩
  refine SWp.seq (Wp.s ?_)
  simp -implicitDefEqProofs [go_sem, args0]
  refine SWp.seq (Wp.s ?_)
  simp -implicitDefEqProofs [go_sem]
  refine CC.mono (length_cc _ _ _ _ h) ?_
  rintro _ _ _ ⟨rfl, rfl, rfl⟩
  simp -implicitDefEqProofs [go_sem, w1, hkm]
  refine SWp.seq (SWp.drawnT [] [] (.s 0 .pl <| .s 1 .pl <| .s 3 .pl <| .s 4 .pl <| .s 5 .pl <| .s 6 .pl <| .s 2 .pl <| .s 7 .pl <| .s 8 .pl <| .s 9 .pl <| .n) (by kernel_rfl) (by kernel_rfl) ?_)
  simp -implicitDefEqProofs [go_sem, hkl]
  refine CC.mono (sector_cc _ _ _ _ _ h h1 (by omega)) ?_
  rintro _ _ _ ⟨rfl, rfl, rfl⟩
  simp -implicitDefEqProofs [go_sem]
  by_cases hw : k < l.length
  case neg =>
    have hw' : ¬ (k : Int) < (l.length : Int) := by omega
    refine SWp.seq (SWp.seq (Wp.s ?_))
    simp -implicitDefEqProofs [go_sem, hw]
    refine Wp.s ?_
    simp -implicitDefEqProofs [go_sem]
    refine Wp.s ?_
    simp -implicitDefEqProofs [go_sem]
    rw [wrapW_0 (by rw [← hk]; exact hw), ← hk]
    refine Fin.ge (Ge.slk (ys := [opW (s + 16 + p) (l.take k)].map opC) (.cons (.cons (.refl _) (.cons (.refl _) (.cons (by rw [← List.map_take]; exact .sh _ _ _) .nil))) .nil)) ?_
    exact Fin.frtok (by decide) (.inr rfl) (by simp [go_sem, okE_ops]) hokH (by simp) (by simp)
  refine SWp.seq (SWp.seq (Wp.s ?_))
  simp -implicitDefEqProofs [go_sem, hw]
  refine SWp.condT (by simp [go_sem]) ?_
  refine SWp.drawnT [] [] (.s 0 .pl <| .s 1 .pl <| .s 3 .pl <| .s 4 .pl <| .s 5 .pl <| .s 2 .pl <| .s 6 .pl <| .s 7 .pl <| .s 8 .pl <| .s 9 .pl <| .n) (by kernel_rfl) (by kernel_rfl) ?_
  simp -implicitDefEqProofs [go_sem, hkl]
  refine CC.mono (sector_cc _ _ _ _ _ h (Int.le_refl 0) (by omega)) ?_
  rintro _ _ _ ⟨rfl, rfl, rfl⟩
  simp -implicitDefEqProofs [go_sem]
  refine Wp.s ?_
  simp -implicitDefEqProofs [go_sem]
  rw [wrapW_1 (by rw [← hk]; exact hw), ← hk]
  refine Fin.ge (Ge.slk (ys := [opW (s + 16 + p) (l.take k), opW (s + 16) (l.drop k)].map opC) (.cons (.cons (.refl _) (.cons (.refl _) (.cons (by rw [← List.map_take]; exact .sh _ _ _) .nil))) (.cons (.cons (.refl _) (.cons (.refl _) (.cons (by rw [← List.map_drop]; exact .refl _) .nil))) .nil))) ?_
  exact Fin.fresh rfl (by simp [go_sem, okE_ops]) hokH (by simp)
theorem jrC_take5 (j : Jrn) : List.take 5 (jrC j) = [iv j.start, iv j.count, iv j.head, iv j.tail, iv j.first] := rfl
theorem own_cc (H : Hp) (V : List Nat) (j : Jrn) (u : Int) (hl : j.sizes.length ≤ 1000000000) : CC Tryz.prog 36 [.agg (stJ j u)] H V (fun r H' V' => ∃ v, r = .agg [iv j.start, iv j.count, iv j.head, iv j.tail, iv j.first, .sl (.own V.length v) 1 (j.sizes.map ic)] ∧ H = H' ∧ V ++ [v] = V') := by
  refine CC.of_swp Tryz.func36 rfl (by kernel_rfl) (by rw [Tryz.ntmps36]; exact len_le _ _ rfl) fun hok hokH => ?_
  clear hok
  refine SWp.seq (Wp.s ?_)
  simp -implicitDefEqProofs [go_sem, args0]
  refine SWp.seq (Wp.s ?_)
  simp -implicitDefEqProofs [go_sem]
  refine SWp.seq (Wp.s ?_)
  simp -implicitDefEqProofs [go_sem, jrC_take5]
  refine ⟨by omega, ?_⟩
  refine SWp.seq (Wp.s ?_)
  simp -implicitDefEqProofs [go_sem]
  refine Wp.s ?_
  simp -implicitDefEqProofs [go_sem]
  refine Fin.cut H.length (V.length + 1) ⟨0, rfl, rfl, rfl⟩ (Nat.le_refl _) (by omega) (by simp) (by simp) (.refl _) ?_ fun b cs hb => okL_mono (Nat.le_refl _) (by omega) (hokH b cs hb)
  simp [go_sem, okL, okV, okE_ints]
end Go.Proofs.YtmgoflhjblombaaGreatDoor
namespace Go.Proofs.YtmgoflhjblombaaGreatDoor
open Go.Proofs
def jtV (x : Jrn × List Opn × Nat) : CV := .tup [.agg (jrC x.1), opsV x.2.1, er x.2.2]
theorem formatJ_no {s c : Int} (h : ¬ validJ s c = true) : formatJ s c = (zjr, [], 2) := by rw [formatJ, if_pos (by simpa using h)]
theorem superJ_01 : superJ 0 1 = [0, 1] := by rw [superJ, enc, enc, norm, norm, if_neg (by decide), if_neg (by decide), show (0 : Int).toNat = 0 from rfl, show (1 : Int).toNat = 1 from rfl, encN_lt (by decide), encN_lt (by decide)]; rfl
def fmtOps (s : Int) : List Opn := [opW s (List.replicate 16 sec0), opS, opW s (copyS 1 [0, 1]), opS]
theorem formatS_ok {s c : Int} (h : validJ s c = true) : formatS s (superJ 0 1) = (fmtOps s, 0) := by
  have hv := (validJ_iff s c).1 h
  rw [superJ_01, formatS, if_neg (by omega), if_neg (by decide)]; rfl
theorem formatJ_ok {s c : Int} (h : validJ s c = true) : formatJ s c = (⟨s, c, 0, 0, 1, []⟩, opW (s + 16) (List.replicate (c - 16).toNat sec0) :: opS :: fmtOps s, 0) := by
  rw [formatJ, if_neg (by simp [h]), formatS_ok h, if_neg (by simp)]
theorem fin_jt {H H' : Hp} {V V' : List Nat} {x : Jrn × List Opn × Nat} {a b : CV} {e : Nat} (h1 : Le a (.agg (jrC x.1))) (h2 : Le b (opsV x.2.1)) (h3 : e = x.2.2) (hokH : ∀ (b : Nat) cs, H[b]? = some (some cs) → okL H.length V.length cs) (hH : H'.take H.length = H) (hV : V'.take V.length = V) :
    Fin H.length V.length (Pu (jtV x) H V) (.tup [a, b, er e]) H' V' := by
  subst h3
  refine Fin.pu (.tup (.cons h1 (.cons h2 (.cons (.refl _) .nil)))) ?_ hokH hH hV
  rw [jtV, okV, okL, okL, okL, okL]
  simp [go_sem, okL, okV, okL_jrC, okE_ops]
abbrev zjC : List CV := [iv 0, iv 0, iv 0, iv 0, iv 0, .v (.slice none 0 0)]
theorem zj_le : Le (.agg zjC) (.agg (jrC zjr)) := .agg (.cons (.refl _) (.cons (.refl _) (.cons (.refl _) (.cons (.refl _) (.cons (.refl _) (.cons (.nil 1 (by decide)) .nil))))))
theorem LeE.app {a b : List (List CV)} {c d : List (List CV)} : LeE a b → LeE c d → LeE (a ++ c) (b ++ d)
  | .nil, h => h
  | .cons h t, g => .cons h (LeE.app t g)
theorem LeL.rfl' : ∀ l : List CV, LeL l l
  | [] => .nil
  | c :: l => .cons (.refl c) (LeL.rfl' l)
theorem LeE.rfl' : ∀ l : List (List CV), LeE l l
  | [] => .nil
  | c :: l => .cons (LeL.rfl' c) (LeE.rfl' l)
theorem LeE.sync : LeE [[iv 1, iv 0, .v (.slice none 0 0)]] ([opS].map opC) := .cons (.cons (.refl _) (.cons (.refl _) (.cons (.nil 8 (by decide)) .nil))) .nil
theorem ops_le (A B : List Opn) : LeE (A.map opC ++ [iv 1, iv 0, .v (.slice none 0 0)] :: B.map opC) ((A ++ opS :: B).map opC) := by
  rw [List.map_append, List.map_cons]
  exact LeE.app (LeE.rfl' _) (LeE.app LeE.sync (LeE.rfl' (B.map opC)))
theorem jr0_le (s c : Int) : Le (.agg [iv s, iv c, iv 0, iv 0, iv 1, .v (.slice none 0 0)]) (.agg (jrC ⟨s, c, 0, 0, 1, []⟩)) := .agg (.cons (.refl _) (.cons (.refl _) (.cons (.refl _) (.cons (.refl _) (.cons (.refl _) (.cons (.nil 1 (by decide)) .nil))))))
theorem wrapW_all {s c : Int} (h : validJ s c = true) : wrapW s c 0 (List.replicate (c - 16).toNat sec0) = [opW (s + 16) (List.replicate (c - 16).toNat sec0)] := by
  have hk : kW c 0 (List.replicate (c - 16).toNat sec0) = (c - 16).toNat := by rw [kW, List.length_replicate]; simp
  rw [wrapW_0 (by rw [hk, List.length_replicate]; omega), hk, List.take_of_length_le (by simp), Int.add_zero]
theorem call_zeros {f : FuncId} {H : Hp} {V : List Nat} {R : CV → Hp → List Nat → Prop} {xs : List CV} (b n : Nat) (hb : H[b]? = some (some (secsF (List.replicate n sec0)))) (hc : CC Tryz.prog f (xs ++ [secsV (List.replicate n sec0)]) (H.set b none) V R) : CC Tryz.prog f (xs ++ [.bsl b 0 n 8]) H V R := by
  have hch : chunks 8 n ((secsF (List.replicate n sec0)).drop 0) = (List.replicate n sec0).map secC := by
    have := chunks_secs (List.replicate n sec0)
    rwa [List.length_replicate] at this
  refine CC.let_go _ b _ hb ?_ hc
  have : ∀ xs : List CV, FyL b (secsF (List.replicate n sec0)) (xs ++ [.bsl b 0 n 8]) (xs ++ [secsV (List.replicate n sec0)]) := fun xs => by
    induction xs with
    | nil =>
      refine .cons ?_ .nil
      show Fy _ _ _ (.sl .sh 8 ((List.replicate n sec0).map secC))
      rw [← hch]
      exact .bsl _ _ _ (by simp [Nat.mul_comm])
    | cons x xs ih => exact .cons (.refl _) ih
  exact this xs
theorem Format_cc (H : Hp) (V : List Nat) (s c : Int) : CC Tryz.prog 48 [.agg [iv s, iv c]] H V (Pu (jtV (formatJ s c)) H V) := by
  refine CC.of_swp Tryz.func48 rfl (by kernel_rfl) (by rw [Tryz.ntmps48]; exact len_le _ _ rfl) fun hok hokH => ?_
  clear hok
  refine SWp.seq (Wp.s ?_)
  simp -implicitDefEqProofs [go_sem, args0]
  refine SWp.seq (Wp.s ?_)
  simp -implicitDefEqProofs [go_sem]
  refine SWp.seq (SWp.seq (Wp.s ?_))
  simp -implicitDefEqProofs [go_sem]
  refine CC.mono (valid_cc _ _ _ _) ?_
  rintro _ _ _ ⟨rfl, rfl, rfl⟩
  by_cases h : validJ s c = true
  case neg =>
    simp -implicitDefEqProofs [go_sem, h]
    refine Wp.s ?_
    simp -implicitDefEqProofs [go_sem]
    rw [formatJ_no h]
    exact fin_jt zj_le (.nil 3 (by decide)) rfl hokH (by simp) (by simp)
  have hv := (validJ_iff s c).1 h
  simp -implicitDefEqProofs [go_sem, h]
  refine Wp.s ?_
  simp -implicitDefEqProofs [go_sem]
  refine SWp.seq (SWp.drawnT [H.length + 2] [4] (.s 0 .pl <| .s 1 .ld <| .s 5 .pl <| .s 6 .pl <| .s 2 .pl <| .s 3 .pl <| .s 4 .st <| .s 7 .pl <| .s 8 .pl <| .n) (by kernel_rfl) (by kernel_rfl) ?_)
  simp -implicitDefEqProofs [go_sem]
  refine CC.mono (length_cc _ _ _ _ h) ?_
  rintro _ _ _ ⟨rfl, rfl, rfl⟩
  simp -implicitDefEqProofs [go_sem, -List.reduceReplicate]
  refine ⟨by omega, by omega, ?_⟩
  have hz := zeros_secs (c - 16).toNat
  simp only [List.map_cons, List.map_nil] at hz
  rw [hz]
  refine call_zeros (xs := [.agg [iv s, iv c], iv 0]) (H.length + 3) (c - 16).toNat (by simp) ?_
  refine CC.mono (write_cc _ _ s c 0 (List.replicate (c - 16).toNat sec0) h (Int.le_refl 0) (by omega) (by simp; omega)) ?_
  rintro _ _ _ ⟨v, rfl, rfl, rfl⟩
  rw [wrapW_all h]
  obtain ⟨A, hA⟩ : ∃ A, A = [opW (s + 16) (List.replicate (c - 16).toNat sec0)] := ⟨_, rfl⟩
  rw [← hA]
  simp -implicitDefEqProofs [go_sem]
  refine ⟨Kp.keep fun b hb => ?_, by subst hA; simp, ?_⟩
  · obtain rfl : b = H.length + 2 := by simpa using hb
    simp
  refine SWp.seq (SWp.drawnT [] [] (.s 0 .pl <| .s 1 .pl <| .s 2 .pl <| .s 3 .pl <| .s 4 .pl <| .s 5 .pl <| .s 6 .pl <| .s 7 .pl <| .s 8 .pl <| .n) (by kernel_rfl) (by kernel_rfl) ?_)
  simp -implicitDefEqProofs [go_sem]
  refine CC.mono (payload_cc _ _ _ _) ?_
  rintro _ _ _ ⟨rfl, rfl, rfl⟩
  simp -implicitDefEqProofs [go_sem]
  refine CC.mono (sFormat_cc _ _ s _ _) ?_
  rintro _ _ _ ⟨rfl, rfl, rfl⟩
  rw [formatS_ok h]
  simp -implicitDefEqProofs [go_sem, stV]
  refine SWp.seq (SWp.seq (Wp.s ?_))
  simp -implicitDefEqProofs [go_sem]
  refine Wp.s ?_
  simp -implicitDefEqProofs [go_sem]
  refine SWp.seq (SWp.drawnT [] [5] (.s 0 .pl <| .s 1 .pl <| .s 2 .pl <| .s 3 .pl <| .s 4 .pl <| .s 5 .st <| .s 6 .pl <| .s 7 .pl <| .n) (by kernel_rfl) (by kernel_rfl) ?_)
  simp -implicitDefEqProofs [go_sem]
  refine ⟨by subst hA; simp [fmtOps], ?_⟩
  refine Wp.s ?_
  simp -implicitDefEqProofs [go_sem]
  rw [formatJ_ok h]
  refine fin_jt (jr0_le s c) ?_ rfl hokH (by simp) (by simp)
  subst hA
  exact .sle _ _ (ops_le _ _)
theorem FyL.rfl' (b : Nat) (cs : List CV) : ∀ l : List CV, FyL b cs l l
  | [] => .nil
  | c :: l => .cons (.refl c) (FyL.rfl' b cs l)
theorem FyE.rfl' (b : Nat) (cs : List CV) : ∀ l : List (List CV), FyE b cs l l
  | [] => .nil
  | c :: l => .cons (FyL.rfl' b cs c) (FyE.rfl' b cs l)
theorem okV_jtV (i j : Nat) (x : Jrn × List Opn × Nat) : okV i j (jtV x) := by
  rw [jtV, okV, okL, okL, okL, okL]
  simp [go_sem, okL, okV, okL_jrC, okE_ops]
theorem Fy.zeros (b n : Nat) : Fy b (secsF (List.replicate n sec0)) (.bsl b 0 n 8) (secsV (List.replicate n sec0)) := by
  have hch : chunks 8 n ((secsF (List.replicate n sec0)).drop 0) = (List.replicate n sec0).map secC := by
    have := chunks_secs (List.replicate n sec0)
    rwa [List.length_replicate] at this
  show Fy _ _ _ (.sl .sh 8 ((List.replicate n sec0).map secC))
  rw [← hch]
  exact .bsl _ _ _ (by simp [Nat.mul_comm])
end Go.Proofs.YtmgoflhjblombaaGreatDoor
namespace Go.Proofs.YtmgoflhjblombaaGreatDoor
open Go.Proofs
def encV : Except Nat (List Sec) → CV
  | .ok l => .tup [secsV l, er 0]
  | .error e => .tup [secsV [], er e]
theorem okV_encV (i j : Nat) (x : Except Nat (List Sec)) : okV i j (encV x) := by
  cases x <;> simp only [encV] <;> rw [okV, okL, okL, okL] <;> exact ⟨okV_secsV _ _ _, okV_er _ _ _, trivial⟩
theorem enc_bad {r : Rcd} (h : r.kind < 1 ∨ 255 < r.kind ∨ r.sq < 1 ∨ 4294967295 < r.sq) : encR r = .error 2 := by rw [encR, if_pos h]
theorem enc_long {r : Rcd} (h : ¬ (r.kind < 1 ∨ 255 < r.kind ∨ r.sq < 1 ∨ 4294967295 < r.sq)) (h2 : 4096 < r.pay.length) : encR r = .error 5 := by rw [encR, if_neg h, if_pos h2]
theorem enc_ok {r : Rcd} (h : ¬ (r.kind < 1 ∨ 255 < r.kind ∨ r.sq < 1 ∨ 4294967295 < r.sq)) (h2 : ¬ 4096 < r.pay.length) : encR r = .ok (secsR r.sq.toNat (strmR r.kind r.pay)) := by rw [encR, if_neg h, if_neg h2]
theorem leN_2 (n : Nat) : leN n 2 = [UInt8.ofNat (n % 256), UInt8.ofNat (n / 256 % 256)] := by
  have e : ∀ m : Nat, byt (m : Int) = UInt8.ofNat (m % 256) := fun m => by
    apply UInt8.toNat_inj.1
    have := byt_toNat (m : Int)
    rw [UInt8.toNat_ofNat']; omega
  simp only [leN, e, List.nil_append, List.cons_append, dvP]
  rw [show (256 : Nat) ^ 0 = 1 from rfl, Nat.div_one]
theorem body_eq (k : Int) (p : List UInt8) : bodyR k p = [byt k] ++ leN p.length 2 ++ p := by rw [leN_2]; rfl
theorem body_len (k : Int) (p : List UInt8) : (bodyR k p).length = p.length + 3 := rfl
theorem strm_len (k : Int) (p : List UInt8) : (strmR k p).length = p.length + 7 := by rw [strmR, List.length_append, body_len, le4_len]
theorem u8s_1 (x : Int) : [[CV.v (.int .u8 (IntKind.u8.wrap x))]] = bs [byt x] := by rw [wrap_u8]; rfl
theorem wrap_rn (r : Reg) : IntKind.i64.wrap (rn r) = ((r.toNat : Nat) : Int) := by
  have := r.isLt
  exact IntWalk.i64_in _ ⟨by unfold rn; omega, by unfold rn; omega⟩
theorem littleI_cc (H : Hp) (V : List Nat) (n : Int) (k : Nat) (hn : 0 ≤ n) (hk : k ≤ 8) : CC Tryz.prog 74 [iv n, ci k] H V (Fr 1 (bs (leN n.toNat k)) H V) := by
  have := little_cc H V n.toNat k hk
  rwa [Int.toNat_of_nonneg hn] at this
theorem ApS.more {j : Nat} {l : List Sec} {cv : CV} {V W : List Nat} (h : ApS j l cv V) : ApS j l cv (V ++ W) := by
  rcases h with h | ⟨k, v, h1, h2, h3⟩
  · exact .inl h
  · exact .inr ⟨k, v, h1, by rw [List.getElem?_append_left (List.getElem?_eq_some_iff.1 h2).1]; exact h2, h3⟩
theorem secR_val (sq : Nat) (st : List UInt8) (i : Nat) : (secR sq st i).val = le4 sq ++ (pcOf st 4 i ++ List.replicate (4 - (pcOf st 4 i).length) 0) := by
  refine mkSec_val ?_
  show (le4 sq ++ (pcOf st 4 i ++ List.replicate (4 - (pcOf st 4 i).length) 0)).length = 8
  have : (pcOf st 4 i).length ≤ 4 := by rw [pcOf, List.length_take]; omega
  rw [List.length_append, List.length_append, List.length_replicate, le4_len]; omega
theorem secR_cells (sq : Nat) (st : List UInt8) (i : Nat) : List.take 4 (fb (le4 sq ++ [0, 0, 0, 0])) ++ ((bs (pcOf st 4 i)).flatten ++ List.drop (4 + (pcOf st 4 i).length) (fb (le4 sq ++ [0, 0, 0, 0]))) = secC (secR sq st i) := by
  have hn : (pcOf st 4 i).length ≤ 4 := by rw [pcOf, List.length_take]; omega
  have e2 : ∀ n, n ≤ 4 → List.drop (4 + n) (fb (le4 sq ++ [0, 0, 0, 0])) = fb (List.replicate (4 - n) 0) := fun n hn => by
    have h : n = 0 ∨ n = 1 ∨ n = 2 ∨ n = 3 ∨ n = 4 := by omega
    rcases h with rfl | rfl | rfl | rfl | rfl <;> rfl
  rw [e2 _ hn, fb_flat, show List.take 4 (fb (le4 sq ++ [0, 0, 0, 0])) = fb (le4 sq) from rfl, fb_app, fb_app]
  show fb _ = fb (secR sq st i).val
  rw [secR_val]
abbrev HE (H : Hp) (r : Rcd) (st : List UInt8) (cv lp : CV) (W : Hp) : Hp :=
  H ++ (some (rcC r) :: some [cv] :: some [.sl .sh 1 (bs st)] :: some [ci 4] :: some [lp] :: W)
@[go_sem] theorem hbx_W5 (H W L : Hp) (a0 a1 a2 a3 a4 : Option (List CV)) (K : List CV → Prop) : hbx (H ++ (a0 :: a1 :: a2 :: a3 :: a4 :: (W ++ L))) (H.length + (W.length + 5)) K = hbx L 0 K := by
  unfold hbx
  have : (H ++ (a0 :: a1 :: a2 :: a3 :: a4 :: (W ++ L)))[H.length + (W.length + 5)]? = L[0]? := by
    rw [hget]
    simp only [List.getElem?_cons_succ]
    exact hget W L 0
  rw [this]
theorem secsR_n (sq : Nat) (st : List UInt8) : (List.range (nPc st.length 4)).map (secR sq st) = secsR sq st := rfl
theorem secsR_succ (sq : Nat) (st : List UInt8) (i : Nat) : ((List.range (i + 1)).map (secR sq st)).map secC = ((List.range i).map (secR sq st)).map secC ++ [secC (secR sq st i)] := by
  rw [List.range_succ, List.map_append, List.map_append]; rfl
set_option maxRecDepth 8000 in
theorem REncode_cc (H : Hp) (V : List Nat) (r : Rcd) (hl : r.pay.length ≤ 900000000) : CC Tryz.prog 49 [.agg (rcC r)] H V (Pu (encV (encR r)) H V) := by
  refine CC.of_swp0 Tryz.func49 rfl (by kernel_rfl) (by rw [Tryz.ntmps49]; exact len_le _ _ rfl) fun hok hokH => ?_
  refine SWp0.seq (SWp.s0 (Wp.s ?_))
  simp -implicitDefEqProofs [go_sem, args0]
  have bad : ∀ (e : Nat) {H' : Hp} {V' : List Nat}, encR r = .error e → H'.take H.length = H → V'.take V.length = V → Fin H.length V.length (Pu (encV (encR r)) H V) (.tup [.v (.slice none 0 0), er e]) H' V' := fun e H' V' h1 h2 h3 => by
    rw [h1]
    exact Fin.pu (.tup (.cons (.nil 8 (by decide)) (.cons (.refl _) .nil))) (okV_encV _ _ (.error e)) hokH h2 h3
  refine SWp0.seq (SWp.s0 (SWp.seq (Wp.s ?_)))
  by_cases c1 : r.kind < 1
  · simp -implicitDefEqProofs [go_sem, c1]
    refine Wp.s ?_
    simp -implicitDefEqProofs [go_sem]
    exact bad 2 (enc_bad (.inl c1)) (by simp) (by simp)
  by_cases c2 : 255 < r.kind
  · simp -implicitDefEqProofs [go_sem, c1, c2]
    refine Wp.s ?_
    simp -implicitDefEqProofs [go_sem]
    exact bad 2 (enc_bad (.inr (.inl c2))) (by simp) (by simp)
  by_cases c3 : r.sq < 1
  · simp -implicitDefEqProofs [go_sem, c1, c2, c3]
    refine Wp.s ?_
    simp -implicitDefEqProofs [go_sem]
    exact bad 2 (enc_bad (.inr (.inr (.inl c3)))) (by simp) (by simp)
  by_cases c4 : 4294967295 < r.sq
  · simp -implicitDefEqProofs [go_sem, c1, c2, c3, c4]
    refine Wp.s ?_
    simp -implicitDefEqProofs [go_sem]
    exact bad 2 (enc_bad (.inr (.inr (.inr c4)))) (by simp) (by simp)
  have hb : ¬ (r.kind < 1 ∨ 255 < r.kind ∨ r.sq < 1 ∨ 4294967295 < r.sq) := by omega
  simp -implicitDefEqProofs [go_sem, c1, c2, c3, c4]
  refine Wp.s ?_
  simp -implicitDefEqProofs [go_sem]
  refine SWp0.seq (SWp.s0 (SWp.seq (Wp.s ?_)))
  by_cases c5 : 4096 < r.pay.length
  · have c5' : 4096 < (r.pay.length : Int) := by omega
    simp -implicitDefEqProofs [go_sem, c5']
    refine Wp.s ?_
    simp -implicitDefEqProofs [go_sem]
    exact bad 5 (enc_long hb c5) (by simp) (by simp)
  have c5' : ¬ 4096 < (r.pay.length : Int) := by omega
  simp -implicitDefEqProofs [go_sem, c5']
  refine Wp.s ?_
  simp -implicitDefEqProofs [go_sem]
  have hE := enc_ok hb c5
  have hsl := strm_len r.kind r.pay
  refine SWp0.seq (SWp.s0 (SWp.drawnT [] [] (.s 0 .pl <| .s 1 .pl <| .s 2 .pl <| .s 3 .pl <| .s 4 .pl <| .s 5 .pl <| .s 6 .pl <| .s 7 .pl <| .s 8 .pl <| .s 9 .pl <| .n) (by kernel_rfl) (by kernel_rfl) ?_))
  simp -implicitDefEqProofs [go_sem]
  refine CC.mono (little_cc _ _ r.pay.length 2 (by decide)) ?_
  rintro _ _ _ ⟨v, rfl, rfl, rfl⟩
  simp -implicitDefEqProofs [go_sem, u8s_1]
  refine SWp0.seq (SWp.s0 (Wp.s ?_))
  simp -implicitDefEqProofs [go_sem]
  have eb : byt r.kind :: (leN r.pay.length 2 ++ r.pay) = bodyR r.kind r.pay := (body_eq _ _).symm
  refine ⟨by omega, ?_⟩
  rw [eb]
  refine SWp0.seq (SWp.s0 (Wp.s ?_))
  simp -implicitDefEqProofs [go_sem]
  refine CC.mono (Sum_cc _ _ _ (bodyR r.kind r.pay) (by rw [body_len]; omega)) ?_
  rintro _ _ _ ⟨rfl, rfl, rfl⟩
  simp -implicitDefEqProofs [go_sem, wrap_rn]
  refine CC.mono (little_cc _ _ (crc (bodyR r.kind r.pay)).toNat 4 (by decide)) ?_
  rintro _ _ _ ⟨v2, rfl, rfl, rfl⟩
  simp -implicitDefEqProofs [go_sem]
  refine ⟨by rw [body_len]; omega, ?_⟩
  rw [leN_4, show bodyR r.kind r.pay ++ le4 (crc (bodyR r.kind r.pay)).toNat = strmR r.kind r.pay from rfl]
  generalize hst : strmR r.kind r.pay = st at hE hsl ⊢
  refine SWp0.ghost (Sh.trim (T' := [(1, .ptr H.length 0), (4, .sl .sh 1 (bs st))]) (L := [some (rcC r)]) (V' := V) (by simp [go_sem]) (by simp [go_sem]) hokH (by rw [okH_some, okL_rcC]; exact ⟨trivial, trivial⟩) (Nat.le_refl _) (by simp) (by simp)) ?_
  refine SWp0.seq (SWp.s0 (Wp.s ?_))
  simp -implicitDefEqProofs [go_sem]
  refine SWp0.join (α := CV × List Nat) (fun x => ([(5, .ptr (H.length + 1) 0)], H ++ [some (rcC r), some [x.1]], x.2))
    (fun x => ApS V.length (secsR r.sq.toNat st) x.1 x.2 ∧ V.length ≤ x.2.length ∧ x.2.take V.length = V) ?_ ?_
  · refine SWp0.seq (SWp.s0 (Wp.s ?_))
    simp -implicitDefEqProofs [go_sem]
    refine CC.mono (Chunk_cc _ _ .sh st 4 (by decide) (by trivial)) ?_
    rintro _ _ _ ⟨rfl, rfl, rfl⟩
    simp -implicitDefEqProofs [go_sem]
    refine SWp0.block (SWp0.range [(1, .ptr H.length 0), (5, .ptr (H.length + 1) 0)] rfl (by simp [go_sem]) ?_)
    simp -implicitDefEqProofs [go_sem]
    generalize hbd : Code.block 1 _ = bd
    generalize has : Code.region 10 _ _ = asg
    refine CC.mono (chunk1_cc _ V _ _ _ .sh st 4 (by decide) (by decide) (by omega) (fun i G V' => ∃ cv W, ApS V.length ((List.range i).map (secR r.sq.toNat st)) cv V' ∧ V.length ≤ V'.length ∧ V'.take V.length = V ∧
      G = HE H r st cv (lpc 65 #[51] asg bd [(1, .ptr H.length 0), (5, .ptr (H.length + 1) 0)] .ready none) W)
      ⟨.v (.slice none 0 0), [], .inl ⟨rfl, rfl⟩, Nat.le_refl _, by simp, rfl⟩ ?_ ?_) ?_
    · rintro i _ V' ⟨cv, W, _, _, _, rfl⟩
      exact ⟨hget _ _ 2, hget _ _ 3⟩
    · rintro i hi _ V' ⟨cv, W, ha, hv1, hv2, rfl⟩
      refine YC.of_round (n := 65) (ps := #[51]) (bd := bd) (T := [(1, .ptr H.length 0), (5, .ptr (H.length + 1) 0)]) (hget _ _ 4) rfl (by decide) ?_
      subst hbd has
      refine Wp.s ?_
      simp -implicitDefEqProofs [go_sem, tps]
      refine SWp.block (SWp.seq (Wp.s ?_))
      simp -implicitDefEqProofs [go_sem]
      generalize hlp : lpc 65 #[51] _ _ _ LoopState.busy none = lp
      generalize hqq : RQ 65 #[51] _ _ _ _ _ = QQ
      refine SWp.seq (SWp.drawnT [H.length] [4] (.s 0 .pl <| .s 1 .pl <| .s 2 .ld <| .s 3 .pl <| .s 4 .st <| .n) (by kernel_rfl) (by kernel_rfl) ?_)
      simp -implicitDefEqProofs [go_sem]
      refine CC.mono (littleI_cc _ _ r.sq 4 (by omega) (by decide)) ?_
      rintro _ _ _ ⟨v3, rfl, rfl, rfl⟩
      simp -implicitDefEqProofs [go_sem, leN_4]
      have e1 : (bs (le4 r.sq.toNat)).flatten ++ List.drop (le4 r.sq.toNat).length [CV.v (.int .u8 0), CV.v (.int .u8 0), CV.v (.int .u8 0), CV.v (.int .u8 0), CV.v (.int .u8 0), CV.v (.int .u8 0), CV.v (.int .u8 0), CV.v (.int .u8 0)] = fb (le4 r.sq.toNat ++ [0, 0, 0, 0]) := by
        rw [fb_flat, le4_len]; rfl
      rw [e1]
      refine ⟨by rw [le4_len]; decide, by rw [fb_flat, fb_all], by rw [le4_len]; decide, ?_, ?_⟩
      · exact Kp.keep fun b hb => by
          obtain rfl : b = H.length := by simpa using hb
          simp
      refine SWp.seq (Wp.s ?_)
      simp -implicitDefEqProofs [go_sem]
      rw [secR_cells]
      refine ⟨by rw [pcOf, List.length_take]; omega, by rw [fb_flat, fb_all], by rw [le4_len, pcOf, List.length_take]; omega, ?_⟩
      have ha := ha.more (W := [v3])
      have hv1 : V.length ≤ (V' ++ [v3]).length := by simp; omega
      have hv2 : (V' ++ [v3]).take V.length = V := by rw [List.take_append_of_le_length (by omega)]; exact hv2
      generalize V' ++ [v3] = V2 at ha hv1 hv2 ⊢
      rcases ha with ⟨rfl, he⟩ | ⟨k, v, rfl, hv, hk⟩
      · refine Wp.s ?_
        simp -implicitDefEqProofs [go_sem]
        rw [← hqq, ← hlp]
        refine ⟨hget _ _ 4, rfl, .sl (.own V2.length 0) 8 [secC (secR r.sq.toNat st i)], .inr ⟨V2.length, 0, ?_, by simp, hv1⟩, by simp; omega, ?_, W ++ [some (secC (secR r.sq.toNat st i))], ?_⟩
        · rw [List.map_append, he]; rfl
        · rw [List.take_append_of_le_length hv1]; exact hv2
        · simp
      · refine Wp.s ?_
        simp -implicitDefEqProofs [go_sem, hv]
        rw [← hqq, ← hlp]
        have hkv := (List.getElem?_eq_some_iff.1 hv).1
        have hi2 := nPc_le (len := st.length) (n := 4) (by decide)
        refine ⟨by omega, hget _ _ 4, rfl, .sl (.own k (v + 1)) 8 (List.map (secC ∘ secR r.sq.toNat st) (List.range i) ++ [secC (secR r.sq.toNat st i)]), .inr ⟨k, v + 1, ?_, by rw [List.getElem?_set_self hkv], hk⟩, by simpa using hv1, ?_, W ++ [some (secC (secR r.sq.toNat st i))], ?_⟩
        · rw [List.map_append, List.map_map]; rfl
        · rw [List.take_set_of_le hk]; exact hv2
        · simp
    · rintro _ _ V' ⟨cv, W, ha, hv1, hv2, rfl⟩
      refine .inl ⟨hget _ _ 4, ?_⟩
      rw [secsR_n] at ha
      refine ⟨cv, V', ⟨ha, hv1, hv2⟩, ?_⟩
      refine Sh.trim (L := [some (rcC r), some [cv]]) ?_ ?_ hokH ?_ hv1 ?_ (List.take_of_length_le (Nat.le_refl _))
      · simp [go_sem]
      · simp [go_sem]
      · rw [okH_some, okH_some, okL_rcC, okL, okL]
        exact ⟨trivial, ⟨ha.ok, trivial⟩, trivial⟩
      · simp
  · rintro ⟨cv, V'⟩ ⟨h1, h2, h3⟩
    dsimp only
    refine SWp0.seq (SWp.s0 (Wp.s ?_))
    simp -implicitDefEqProofs [go_sem, h1.one]
    refine SWp.s0 (Wp.s ?_)
    simp -implicitDefEqProofs [go_sem]
    rw [hE]
    exact Fin.pu (.tup (.cons h1.le (.cons (.refl _) .nil))) (okV_encV _ _ (.ok _)) hokH (by simp) h3
end Go.Proofs.YtmgoflhjblombaaGreatDoor
namespace Go.Proofs.YtmgoflhjblombaaGreatDoor
open Go.Proofs
/-- How many zeros make the bytes a multiple of four. -/
def padN (n : Nat) : Nat := (4 - n % 4) % 4
def padR (st : List UInt8) : List UInt8 := st ++ List.replicate (padN st.length) 0
theorem padR_len (st : List UInt8) : (padR st).length = 4 * nPc st.length 4 := by
  rw [padR, List.length_append, List.length_replicate, padN, nPc]; omega
theorem padR_quad (st : List UInt8) (i : Nat) (h : i < nPc st.length 4) : ((padR st).drop (4 * i)).take 4 = pcOf st 4 i ++ List.replicate (4 - (pcOf st 4 i).length) 0 := by
  have h1 := (nPc_lt (len := st.length) (n := 4) (i := i) (by decide)).1 h
  rw [pcOf, padR, List.drop_append_of_le_length (by omega), List.take_append, List.length_take, List.length_drop]
  congr 1
  rw [List.take_replicate, padN]
  unfold nPc at h
  congr 1
  omega
theorem leN_1 (n : Int) (h : 0 ≤ n) : leN n.toNat 1 = [byt n] := by
  rw [leN, leN, dvP_0, Int.toNat_of_nonneg h]; rfl
def secsM (sq : Nat) (st : List UInt8) (m : Nat) : List Sec := (List.range m).map (secR sq st)
@[go_sem, simp] theorem secsM_len (sq : Nat) (st : List UInt8) (m : Nat) : (secsM sq st m).length = m := by rw [secsM, List.length_map, List.length_range]
theorem secsM_succ (sq : Nat) (st : List UInt8) (m : Nat) : secsM sq st (m + 1) = secsM sq st m ++ [secR sq st m] := by rw [secsM, List.range_succ, List.map_append]; rfl
theorem secsM_all (sq : Nat) (st : List UInt8) : secsM sq st (nPc st.length 4) = secsR sq st := rfl
def eight (sq : Nat) (st : List UInt8) (m : Nat) : List UInt8 := le4 sq ++ ((padR st).drop (4 * m)).take 4
theorem eight_val {sq : Nat} {st : List UInt8} {m : Nat} (h : m < nPc st.length 4) : eight sq st m = (secR sq st m).val := by rw [eight, padR_quad _ _ h, secR_val]
theorem eight_len {sq : Nat} {st : List UInt8} {m : Nat} (h : m < nPc st.length 4) : (eight sq st m).length = 8 := by rw [eight_val h, (secR sq st m).len]
theorem zeros8 : [CV.v (.int .u8 0), CV.v (.int .u8 0), CV.v (.int .u8 0), CV.v (.int .u8 0), CV.v (.int .u8 0), CV.v (.int .u8 0), CV.v (.int .u8 0), CV.v (.int .u8 0)] = fb (List.replicate 8 0) := rfl
def part8 (l : List UInt8) (k : Nat) : List UInt8 := l.take k ++ List.replicate (8 - k) 0
theorem part8_len {l : List UInt8} {k : Nat} (h : l.length = 8) (hk : k ≤ 8) : (part8 l k).length = 8 := by rw [part8, List.length_append, List.length_take, List.length_replicate]; omega
theorem part8_set {l : List UInt8} {k : Nat} (h : l.length = 8) (hk : k < 8) : (part8 l k).set k (l[k]'(by omega)) = part8 l (k + 1) := by
  rw [part8, part8, List.set_append_right _ _ (by rw [List.length_take]; omega), List.length_take, Nat.min_eq_left (by omega), Nat.sub_self, List.take_succ_eq_append_getElem (by omega), List.append_assoc]
  congr 1
  rw [show 8 - k = (8 - (k + 1)) + 1 by omega, List.replicate_succ]; rfl
end Go.Proofs.YtmgoflhjblombaaGreatDoor
namespace Go.Proofs.YtmgoflhjblombaaGreatDoor
open Go.Proofs
theorem appJ_bad {j : Jrn} {k : Int} {p : List UInt8} (h : ¬ chkJ j = true) : appJ j k p = (zjr, [], 3) := by rw [appJ, if_pos (by simpa using h)]
theorem appJ_err {j : Jrn} {k : Int} {p : List UInt8} {e : Nat} (h : chkJ j = true) (he : encR ⟨k, nextJ j, p⟩ = .error e) : appJ j k p = (zjr, [], e) := by
  rw [appJ, if_neg (by simp [h]), he]
theorem appJ_many {j : Jrn} {k : Int} {p : List UInt8} {l : List Sec} (h : chkJ j = true) (he : encR ⟨k, nextJ j, p⟩ = .ok l) (h1 : 1073741824 ≤ nextJ j) : appJ j k p = (zjr, [], 6) := by
  rw [appJ, if_neg (by simp [h]), he]; exact if_pos h1
theorem appJ_full {j : Jrn} {k : Int} {p : List UInt8} {l : List Sec} (h : chkJ j = true) (he : encR ⟨k, nextJ j, p⟩ = .ok l) (h1 : ¬ 1073741824 ≤ nextJ j) (h2 : freeJ j < l.length) : appJ j k p = (zjr, [], 11) := by
  rw [appJ, if_neg (by simp [h]), he]; exact (if_neg h1).trans (if_pos h2)
theorem appJ_ok {j : Jrn} {k : Int} {p : List UInt8} {l : List Sec} (h : chkJ j = true) (he : encR ⟨k, nextJ j, p⟩ = .ok l) (h1 : ¬ 1073741824 ≤ nextJ j) (h2 : ¬ freeJ j < l.length) :
    appJ j k p = (⟨j.start, j.count, j.head, (j.tail + l.length) % (j.count - 16), j.first, j.sizes ++ [(l.length : Int)]⟩, wrapW j.start j.count j.tail l ++ [opS], 0) := by
  rw [appJ, if_neg (by simp [h]), he]; exact (if_neg h1).trans (if_neg h2)
theorem enc_le {r : Rcd} {l : List Sec} (h : encR r = .ok l) : l.length ≤ 1100 ∧ 1 ≤ l.length := by
  rw [encR] at h
  split at h
  · cases h
  · split at h
    · cases h
    · cases h
      rw [secsR, List.length_map, List.length_range, strm_len]
      omega
theorem enc_err {r : Rcd} {e : Nat} (h : encR r = .error e) : e = 2 ∨ e = 5 := by
  rw [encR] at h
  split at h
  · cases h; exact .inl rfl
  · split at h
    · cases h; exact .inr rfl
    · cases h
theorem rc_args (k n : Int) (p : List UInt8) : [iv k, iv n, .sl .sh 1 (bs p)] = rcC ⟨k, n, p⟩ := rfl
theorem chkJ_tail {j : Jrn} (h : chkJ j = true) : 0 ≤ j.tail ∧ j.tail < j.count - 16 := by
  have h1 := (chkJ_iff j).1 h
  have hv := (validJ_iff _ _).1 h1.1
  rw [h1.2.2.2.2]
  exact ⟨Int.emod_nonneg _ (by omega), Int.emod_lt_of_pos _ (by omega)⟩
theorem wrapW_len (s c p : Int) (l : List Sec) : (wrapW s c p l).length ≤ 2 := by
  by_cases h : kW c p l < l.length
  · rw [wrapW_1 h]; exact Nat.le_refl _
  · rw [wrapW_0 h]; exact Nat.le_succ _
theorem snoc_ints (l : List Int) (n : Int) : List.map ic l ++ [[iv n]] = (l ++ [n]).map ic := by rw [List.map_append]; rfl
theorem ops_le1 (A : List Opn) : LeE (A.map opC ++ [[iv 1, iv 0, .v (.slice none 0 0)]]) ((A ++ [opS]).map opC) := by
  rw [List.map_append]
  exact LeE.app (LeE.rfl' _) LeE.sync
theorem jr_upd_le (j : Jrn) (n : Int) (tl : Int) (tk : Tk) : Le (.agg [iv j.start, iv j.count, iv j.head, iv tl, iv j.first, .sl tk 1 (List.map ic j.sizes ++ [[iv n]])]) (.agg (jrC ⟨j.start, j.count, j.head, tl, j.first, j.sizes ++ [n]⟩)) := by
  refine .agg (.cons (.refl _) (.cons (.refl _) (.cons (.refl _) (.cons (.refl _) (.cons (.refl _) (.cons ?_ .nil))))))
  rw [snoc_ints]
  exact .sh _ _ _
set_option maxRecDepth 8000 in
theorem Append_cc (H : Hp) (V : List Nat) (j : Jrn) (kind : Int) (p : List UInt8) (hl : j.sizes.length ≤ 1000000000) (hp : p.length ≤ 900000000) : CC Tryz.prog 21 [.agg (jrC j), iv kind, .sl .sh 1 (bs p)] H V (Pu (jtV (appJ j kind p)) H V) := by
  refine CC.of_swp Tryz.func21 rfl (by kernel_rfl) (by rw [Tryz.ntmps21]; exact len_le _ _ rfl) fun hok hokH => ?_
  clear hok
  refine SWp.seq (Wp.s ?_)
  simp -implicitDefEqProofs [go_sem, args0]
  have bad : ∀ (e : Nat) {H' : Hp} {V' : List Nat}, appJ j kind p = (zjr, [], e) → H'.take H.length = H → V'.take V.length = V → Fin H.length V.length (Pu (jtV (appJ j kind p)) H V) (.tup [.agg zjC, .v (.slice none 0 0), er e]) H' V' := fun e H' V' h1 h2 h3 => by
    rw [h1]
    exact fin_jt zj_le (.nil 3 (by decide)) rfl hokH h2 h3
  refine SWp.seq (Wp.s ?_)
  simp -implicitDefEqProofs [go_sem]
  refine CC.mono (examine_cc _ _ j hl) ?_
  rintro _ _ _ ⟨u, rfl, rfl, rfl, hu⟩
  simp -implicitDefEqProofs [go_sem]
  refine SWp.seq (SWp.seq (Wp.s ?_))
  by_cases h : chkJ j = true
  case neg =>
    simp -implicitDefEqProofs [go_sem, h]
    refine Wp.s ?_
    simp -implicitDefEqProofs [go_sem]
    exact bad 3 (appJ_bad h) (by simp) (by simp)
  obtain rfl := hu h
  have hn := chkJ_next h
  have hsu := chkJ_sum h
  have hva := chkJ_val h
  have hv := (validJ_iff _ _).1 hva
  have ht := chkJ_tail h
  simp -implicitDefEqProofs [go_sem, h]
  refine Wp.s ?_
  simp -implicitDefEqProofs [go_sem]
  refine SWp.seq (Wp.s ?_)
  simp -implicitDefEqProofs [go_sem]
  refine CC.mono (next_cc _ _ j _ hn.1 hn.2) ?_
  rintro _ _ _ ⟨rfl, rfl, rfl⟩
  simp -implicitDefEqProofs [go_sem, rc_args]
  refine CC.mono (REncode_cc _ _ ⟨kind, nextJ j, p⟩ hp) ?_
  rintro _ _ _ ⟨rfl, rfl, rfl⟩
  cases he : encR ⟨kind, nextJ j, p⟩ with
  | error e =>
    have hee : ¬ e = 0 := by have := enc_err he; omega
    simp -implicitDefEqProofs [go_sem, encV]
    refine SWp.seq (SWp.block (SWp.seq (Wp.s ?_)))
    simp -implicitDefEqProofs [go_sem, hee]
    refine Wp.s ?_
    simp -implicitDefEqProofs [go_sem]
    exact bad e (appJ_err h he) (by simp) (by simp)
  | ok l =>
    have hle := enc_le he
    simp -implicitDefEqProofs [go_sem, encV]
    refine SWp.seq (SWp.block (SWp.seq (Wp.s ?_)))
    simp -implicitDefEqProofs [go_sem]
    refine SWp.condF (by simp [go_sem]) ?_
    refine SWp.seq (Wp.s ?_)
    simp -implicitDefEqProofs [go_sem]
    refine CC.mono (next_cc _ _ j _ hn.1 hn.2) ?_
    rintro _ _ _ ⟨rfl, rfl, rfl⟩
    by_cases h1 : 1073741824 ≤ nextJ j
    · simp -implicitDefEqProofs [go_sem, h1]
      refine Wp.s ?_
      simp -implicitDefEqProofs [go_sem]
      exact bad 6 (appJ_many h he h1) (by simp) (by simp)
    simp -implicitDefEqProofs [go_sem, h1]
    refine SWp.condF (by simp [go_sem]) ?_
    refine SWp.seq (Wp.s ?_)
    simp -implicitDefEqProofs [go_sem]
    refine CC.mono (free_cc _ _ j _ hva hsu.1 (by omega)) ?_
    rintro _ _ _ ⟨rfl, rfl, rfl⟩
    by_cases h2 : freeJ j < l.length
    · have h2' : j.count - 16 - sumI j.sizes < (l.length : Int) := h2
      simp -implicitDefEqProofs [go_sem, h2']
      refine Wp.s ?_
      simp -implicitDefEqProofs [go_sem]
      exact bad 11 (appJ_full h he h1 h2) (by simp) (by simp)
    have h2' : ¬ j.count - 16 - sumI j.sizes < (l.length : Int) := h2
    simp -implicitDefEqProofs [go_sem, h2']
    refine Wp.s ?_
    simp -implicitDefEqProofs [go_sem]
    refine SWp.seq (Wp.s ?_)
    simp -implicitDefEqProofs [go_sem]
    refine CC.mono (own_cc _ _ j _ hl) ?_
    rintro _ _ _ ⟨v, rfl, rfl, rfl⟩
    simp -implicitDefEqProofs [go_sem]
    refine SWp.seq (Wp.s ?_)
    simp -implicitDefEqProofs [go_sem]
    refine ⟨by omega, ?_⟩
    have w1 : IntKind.i64.wrap (j.tail + (l.length : Int)) = j.tail + (l.length : Int) := IntWalk.i64_in _ ⟨by omega, by omega⟩
    have t1 := Int.tmod_eq_emod_of_nonneg (b := j.count - 16) (show 0 ≤ j.tail + (l.length : Int) by omega)
    have hz : ¬ j.count - 16 = 0 := by omega
    refine SWp.seq (SWp.drawnT [] [10] (.s 0 .pl <| .s 1 .pl <| .s 2 .pl <| .s 3 .pl <| .s 4 .pl <| .s 5 .pl <| .s 6 .pl <| .s 7 .pl <| .s 8 .pl <| .s 9 .pl <| .s 10 .st <| .n) (by kernel_rfl) (by kernel_rfl) ?_)
    simp -implicitDefEqProofs [go_sem, w1]
    refine CC.mono (length_cc _ _ _ _ hva) ?_
    rintro _ _ _ ⟨rfl, rfl, rfl⟩
    simp -implicitDefEqProofs [go_sem, w1, t1, hz]
    refine SWp.seq (SWp.drawnT [H.length + 2] [11] (.s 0 .pl <| .s 1 .pl <| .s 2 .ld <| .s 3 .pl <| .s 4 .pl <| .s 5 .ld <| .s 6 .pl <| .s 8 .pl <| .s 9 .pl <| .s 7 .pl <| .s 10 .pl <| .s 11 .st <| .s 12 .pl <| .s 13 .pl <| .n) (by kernel_rfl) (by kernel_rfl) ?_)
    simp -implicitDefEqProofs [go_sem]
    refine CC.mono (write_cc _ _ j.start j.count j.tail l hva ht.1 (by omega) (by omega)) ?_
    rintro _ _ _ ⟨v2, rfl, rfl, rfl⟩
    have hA := wrapW_len j.start j.count j.tail l
    have hJ := appJ_ok h he h1 h2
    generalize wrapW j.start j.count j.tail l = A at hA hJ ⊢
    simp -implicitDefEqProofs [go_sem]
    refine ⟨by omega, Kp.keep fun b hb => ?_, Wp.s ?_⟩
    · obtain rfl : b = H.length + 2 := by simpa using hb
      rw [hget, hget]; rfl
    simp -implicitDefEqProofs [go_sem]
    rw [hJ]
    exact fin_jt (jr_upd_le j _ _ _) (.sle _ _ (ops_le1 A)) rfl hokH (by simp) (by simp)
end Go.Proofs.YtmgoflhjblombaaGreatDoor
namespace Go.Proofs.YtmgoflhjblombaaGreatDoor
open Go.Proofs
theorem flatReg : FlatEq Tryz.prog 27 [.i64, .i64] := flatEq_pair Tryz.underlying27 rfl rfl rfl rfl (by decide) (by decide) Tryz.underlying3 (by kernel_rfl) (by kernel_rfl)
theorem fits_reg (a b : Int) : fits [.i64, .i64] [iv a, iv b] := fits_rep .i64 [a, b]
set_option maxRecDepth 8000 in
theorem Same_cc (H : Hp) (V : List Nat) (j : Jrn) (hl : j.sizes.length ≤ 1000000000) : CC Tryz.prog 12 [.agg (jrC j), .agg (jrC j)] H V (Pu (cb true) H V) := by
  refine CC.of_swp Tryz.func12 rfl (by kernel_rfl) (by rw [Tryz.ntmps12]; exact len_le _ _ rfl) fun hok hokH => ?_
  clear hok
  refine SWp.seq (Wp.s ?_)
  simp -implicitDefEqProofs [go_sem, args0]
  refine SWp.seq (SWp.seq (Wp.s ?_))
  simp -implicitDefEqProofs [go_sem]
  refine ⟨_, flatReg, fits_reg _ _, ?_⟩
  refine Wp.s ?_
  simp -implicitDefEqProofs [go_sem]
  refine SWp.join (α := Unit) (fun _ => ([], H ++ [some (jrC j), some (jrC j)], V)) (fun _ => True) ?_ ?_
  · refine SWp.seq (Wp.s ?_)
    simp -implicitDefEqProofs [go_sem]
    refine SWp.block ?_
    refine SWp.loop (α := Nat) (fun i => ([(2, .ptr H.length 0), (3, .ptr (H.length + 1) 0), (5, ci i)], H ++ [some (jrC j), some (jrC j)], V)) (fun i => i ≤ j.sizes.length) (fun i => j.sizes.length - i) 0 (Nat.zero_le _) (Sh.forget (by simp [go_sem]) rfl rfl) ?_
    intro i hi
    dsimp only
    refine SWp.seq (SWp.seq (Wp.s ?_))
    by_cases h : i < j.sizes.length
    case neg =>
      simp -implicitDefEqProofs [go_sem, h]
      refine Wp.s ?_
      simp -implicitDefEqProofs [go_sem]
      exact Sh.forget (by simp [go_sem]) rfl rfl
    simp -implicitDefEqProofs [go_sem, h]
    refine Wp.s ?_
    simp -implicitDefEqProofs [go_sem]
    refine SWp.seq (SWp.block (SWp.seq (SWp.drawnT [] [] (.s 0 .pl <| .s 1 .pl <| .s 2 .pl <| .s 3 .pl <| .s 4 .pl <| .s 5 .pl <| .s 6 .pl <| .s 7 .pl <| .s 8 .pl <| .s 9 .pl <| .s 10 .pl <| .n) (by kernel_rfl) (by kernel_rfl) ?_)))
    simp -implicitDefEqProofs [go_sem, h]
    refine Wp.s ?_
    simp -implicitDefEqProofs [go_sem]
    refine Wp.s ?_
    simp -implicitDefEqProofs [go_sem]
    refine ⟨i + 1, by omega, by omega, Sh.forget ?_ rfl rfl⟩
    simp [go_sem, wrap_succ (show i ≤ 1000000000 by omega)]
  rintro _ -
  dsimp only
  refine Wp.s ?_
  simp -implicitDefEqProofs [go_sem]
  exact Fin.bool rfl hokH (by simp) (by simp)
/-! ### The superblock's payload -/
end Go.Proofs.YtmgoflhjblombaaGreatDoor
namespace Go.Proofs.YtmgoflhjblombaaGreatDoor
open Go.Proofs
theorem gi64 (s : Sec) : bitop .or .i64 (bitop .or .i64 (bitop .or .i64 (sb s 0 : Int) (shl .i64 (sb s 1 : Int) 8)) (shl .i64 (sb s 2 : Int) 16)) (shl .i64 (sb s 3 : Int) 24) = (gn s : Int) := by
  have h0 := sb_lt s 0
  have h1 := sb_lt s 1
  have h2 := sb_lt s 2
  have h3 := sb_lt s 3
  have u : ∀ x : Nat, x < 4294967296 → IntKind.i64.wrap (x : Int) = (x : Int) := fun x hx => IntWalk.i64_in _ ⟨by omega, by omega⟩
  have e : ∀ (x k : Nat), x < 256 → k ≤ 24 → shl .i64 (x : Int) (k : Int) = ((x * 2 ^ k : Nat) : Int) := fun x k hx hk => by
    unfold shl
    rw [Int.toNat_natCast, Nat.min_eq_left (by show k ≤ 64; omega)]
    have e2 : (x : Int) * 2 ^ k = ((x * 2 ^ k : Nat) : Int) := by simp
    rw [e2]
    refine u _ ?_
    have := Nat.pow_le_pow_right (show 0 < 2 by decide) hk
    have := Nat.mul_le_mul (show x ≤ 255 by omega) this
    omega
  rw [show (8 : Int) = ((8 : Nat) : Int) from rfl, show (16 : Int) = ((16 : Nat) : Int) from rfl, show (24 : Int) = ((24 : Nat) : Int) from rfl, e _ _ h1 (by omega), e _ _ h2 (by omega), e _ _ h3 (by omega)]
  rw [bitop_or _ _ _ (by show _ < 2 ^ 64; omega) (by show _ < 2 ^ 64; omega), or_add' _ _ _ (by omega), u _ (by omega)]
  rw [bitop_or _ _ _ (by show _ < 2 ^ 64; omega) (by show _ < 2 ^ 64; omega), or_add' _ _ _ (by omega), u _ (by omega)]
  rw [bitop_or _ _ _ (by show _ < 2 ^ 64; omega) (by show _ < 2 ^ 64; omega), or_add' _ _ _ (by omega), u _ (by omega)]
  simp only [gn, gi, Nat.zero_mul, Nat.zero_add, Nat.sub_zero, Nat.sub_self, show 3 - 2 = 1 from rfl, show 3 - 1 = 2 from rfl]
  omega
theorem sb64 (s : Sec) (i : Nat) : IntKind.i64.wrap (sb s i : Int) = (sb s i : Int) := by have := sb_lt s i; exact IntWalk.i64_in _ ⟨by omega, by omega⟩
theorem jnumber_cc (H : Hp) (V : List Nat) (s : Sec) : CC Tryz.prog 63 [.agg (secC s)] H V (Pu (ci (gn s)) H V) := by
  refine CC.of_swp Tryz.func63 rfl (by kernel_rfl) (by rw [Tryz.ntmps63]; exact len_le _ _ rfl) fun hok hokH => ?_
  clear hok
  refine SWp.seq (Wp.s ?_)
  simp -implicitDefEqProofs [go_sem, args0]
  refine Wp.s ?_
  simp -implicitDefEqProofs [go_sem, secC_get, sb64, gi64]
  exact Fin.int rfl hokH (by simp) (by simp)
theorem rnumber_cc (H : Hp) (V : List Nat) (s : Sec) : CC Tryz.prog 103 [.agg (secC s)] H V (Pu (ci (gn s)) H V) := by
  refine CC.of_swp Tryz.func103 rfl (by kernel_rfl) (by rw [Tryz.ntmps103]; exact len_le _ _ rfl) fun hok hokH => ?_
  clear hok
  refine SWp.seq (Wp.s ?_)
  simp -implicitDefEqProofs [go_sem, args0]
  refine Wp.s ?_
  simp -implicitDefEqProofs [go_sem, secC_get, sb64, gi64]
  exact Fin.int rfl hokH (by simp) (by simp)
/-! ### What the superblock says -/
/-- The head and the first number in a payload. -/
def headP (c : Int) (p : List UInt8) : Int × Int × Nat :=
  match number p with
  | .error _ => (0, 0, 3)
  | .ok (h, r) =>
    match number r with
    | .error _ => (0, 0, 3)
    | .ok (f, r') => if 0 < r'.length ∨ c - 16 ≤ (h : Int) ∨ (f : Int) < 1 ∨ 1073741824 < (f : Int) then (0, 0, 3) else (h, f, 0)
def headJ (s c : Int) (d : Dk) : Int × Int × Nat :=
  if (loadS d s).2.2 ≠ 0 then (0, 0, (loadS d s).2.2) else headP c (loadS d s).1
def hdV (x : Int × Int × Nat) : CV := .tup [iv x.1, iv x.2.1, er x.2.2]
theorem Fin.hd {H H' : Hp} {V V' : List Nat} {x : Int × Int × Nat} {a b : Int} {e : Nat} (h : (a, b, e) = x) (hokH : ∀ (b : Nat) cs, H[b]? = some (some cs) → okL H.length V.length cs) (hH : H'.take H.length = H) (hV : V'.take V.length = V) : Fin H.length V.length (Pu (hdV x) H V) (.tup [iv a, iv b, Go.Proofs.YtmgoflhjblombaaGreatDoor.er e]) H' V' := by
  subst h
  exact Fin.pu (.refl _) (by rw [hdV, okV, okL, okL, okL, okL]; exact ⟨by rw [okV]; trivial, by rw [okV]; trivial, okV_er _ _ _, trivial⟩) hokH hH hV
theorem load_cc (H : Hp) (V : List Nat) (s c : Int) (d : Dk) (h : validJ s c = true) (hl : DkS d) (hp : (loadS d s).1.length ≤ 100) : CC Tryz.prog 28 [.agg [iv s, iv c], .agg (dkC d)] H V (Pu (hdV (headJ s c d)) H V) := by
  refine CC.of_swp Tryz.func28 rfl (by kernel_rfl) (by rw [Tryz.ntmps28]; exact len_le _ _ rfl) fun hok hokH => ?_
  clear hok
  refine SWp.seq (Wp.s ?_)
  simp -implicitDefEqProofs [go_sem, args0]
  refine SWp.seq (Wp.s ?_)
  simp -implicitDefEqProofs [go_sem]
  refine CC.mono (sLoad_cc _ _ d s hl) ?_
  rintro _ _ _ ⟨rfl, rfl, rfl⟩
  simp -implicitDefEqProofs [go_sem, ldV]
  refine SWp.seq (SWp.seq (Wp.s ?_))
  by_cases h0 : (loadS d s).2.2 = 0
  case neg =>
    simp -implicitDefEqProofs [go_sem, h0]
    refine Wp.s ?_
    simp -implicitDefEqProofs [go_sem]
    exact Fin.hd (by rw [headJ, if_pos h0]) hokH (by simp) (by simp)
  have hJ : headJ s c d = headP c (loadS d s).1 := by rw [headJ, if_neg (by simp [h0])]
  rw [hJ]
  generalize (loadS d s).1 = p at hp ⊢
  simp -implicitDefEqProofs [go_sem, h0]
  refine Wp.s ?_
  simp -implicitDefEqProofs [go_sem]
  refine SWp.seq (Wp.s ?_)
  simp -implicitDefEqProofs [go_sem]
  refine CC.mono (Int_cc _ _ .sh p (by omega)) ?_
  rintro _ _ _ ⟨rfl, rfl, rfl⟩
  cases hn : number p with
  | error e =>
    have he := ne0_number _ _ hn
    simp -implicitDefEqProofs [go_sem, rdv]
    refine SWp.seq (SWp.seq (Wp.s ?_))
    simp -implicitDefEqProofs [go_sem, he]
    refine Wp.s ?_
    simp -implicitDefEqProofs [go_sem]
    exact Fin.hd (by rw [headP, hn]) hokH (by simp) (by simp)
  | ok x =>
    obtain ⟨hd, r⟩ := x
    have hr := number_len _ _ _ _ hn
    simp -implicitDefEqProofs [go_sem, rdv]
    refine SWp.seq (SWp.seq (Wp.s ?_))
    simp -implicitDefEqProofs [go_sem]
    refine Wp.s ?_
    simp -implicitDefEqProofs [go_sem]
    refine SWp.seq (Wp.s ?_)
    simp -implicitDefEqProofs [go_sem]
    refine CC.mono (Int_cc _ _ .sh r (by omega)) ?_
    rintro _ _ _ ⟨rfl, rfl, rfl⟩
    cases hn2 : number r with
    | error e =>
      have he := ne0_number _ _ hn2
      simp -implicitDefEqProofs [go_sem, rdv]
      refine SWp.seq (SWp.seq (Wp.s ?_))
      simp -implicitDefEqProofs [go_sem, he]
      refine Wp.s ?_
      simp -implicitDefEqProofs [go_sem]
      exact Fin.hd (by rw [headP, hn]; simp only; rw [hn2]) hokH (by simp) (by simp)
    | ok x =>
      obtain ⟨f, r'⟩ := x
      have hP : headP c p = if 0 < r'.length ∨ c - 16 ≤ (hd : Int) ∨ (f : Int) < 1 ∨ 1073741824 < (f : Int) then (0, 0, 3) else ((hd : Int), (f : Int), 0) := by
        rw [headP, hn]; simp only; rw [hn2]
      simp -implicitDefEqProofs [go_sem, rdv]
      refine SWp.seq (SWp.seq (Wp.s ?_))
      by_cases c1 : 0 < r'.length
      · have c1' : 0 < (r'.length : Int) := by omega
        simp -implicitDefEqProofs [go_sem, c1, c1']
        refine Wp.s ?_
        simp -implicitDefEqProofs [go_sem]
        exact Fin.hd (by rw [hP, if_pos (.inl c1)]) hokH (by simp) (by simp)
      have c1' : ¬ 0 < (r'.length : Int) := by omega
      simp -implicitDefEqProofs [go_sem, c1, c1']
      refine CC.mono (length_cc _ _ _ _ h) ?_
      rintro _ _ _ ⟨rfl, rfl, rfl⟩
      by_cases c2 : c - 16 ≤ (hd : Int)
      · simp -implicitDefEqProofs [go_sem, c2]
        refine Wp.s ?_
        simp -implicitDefEqProofs [go_sem]
        exact Fin.hd (by rw [hP, if_pos (.inr (.inl c2))]) hokH (by simp) (by simp)
      by_cases c3 : (f : Int) < 1
      · simp -implicitDefEqProofs [go_sem, c2, c3]
        refine Wp.s ?_
        simp -implicitDefEqProofs [go_sem]
        exact Fin.hd (by rw [hP, if_pos (.inr (.inr (.inl c3)))]) hokH (by simp) (by simp)
      by_cases c4 : 1073741824 < (f : Int)
      · simp -implicitDefEqProofs [go_sem, c2, c3, c4]
        refine Wp.s ?_
        simp -implicitDefEqProofs [go_sem]
        exact Fin.hd (by rw [hP, if_pos (.inr (.inr (.inr c4)))]) hokH (by simp) (by simp)
      simp -implicitDefEqProofs [go_sem, c2, c3, c4]
      refine Wp.s ?_
      simp -implicitDefEqProofs [go_sem]
      refine Wp.s ?_
      simp -implicitDefEqProofs [go_sem]
      exact Fin.hd (by rw [hP, if_neg (by omega)]) hokH (by simp) (by simp)
end Go.Proofs.YtmgoflhjblombaaGreatDoor
namespace Go.Proofs.YtmgoflhjblombaaGreatDoor
open Go.Proofs
/-! ### Readers of records -/
def leV : List UInt8 → Nat
  | [] => 0
  | b :: l => b.toNat + 256 * leV l
theorem leV_lt : ∀ l : List UInt8, leV l < 256 ^ l.length
  | [] => Nat.one_pos
  | b :: l => by
    have := leV_lt l
    have := b.toNat_lt
    rw [leV, List.length_cons, Nat.pow_succ]; omega
theorem leV_snoc : ∀ (l : List UInt8) (b : UInt8), leV (l ++ [b]) = leV l + b.toNat * 256 ^ l.length
  | [], b => by simp [leV]
  | a :: l, b => by
    rw [List.cons_append, leV, leV_snoc l b, leV, List.length_cons, Nat.pow_succ, Nat.mul_add, Nat.add_assoc]
    congr 1
    congr 1
    rw [Nat.mul_comm 256, Nat.mul_assoc]
theorem or_sh8 {n a i : Nat} (hi : i < 6) (hn : n < 256 ^ i) (ha : a < 256) : bitop .or .i64 (n : Int) (shl .i64 (a : Int) (8 * (i : Int))) = ((n + a * 256 ^ i : Nat) : Int) := by
  have hp : 256 ^ i ≤ 256 ^ 5 := Nat.pow_le_pow_right (by decide) (by omega)
  have hm : a * 256 ^ i ≤ 255 * 256 ^ 5 := Nat.mul_le_mul (by omega) hp
  have e1 : shl .i64 (a : Int) (8 * (i : Int)) = ((a * 256 ^ i : Nat) : Int) := by
    unfold shl
    have e : min (8 * (i : Int)).toNat IntKind.i64.bits = 8 * i := by
      show min (8 * (i : Int)).toNat 64 = 8 * i
      omega
    rw [e, show (2 : Int) ^ (8 * i) = ((256 ^ i : Nat) : Int) by rw [Int.pow_mul]; simp, ← Int.natCast_mul]
    exact IntWalk.i64_in _ ⟨by omega, by omega⟩
  rw [e1, bitop_or _ _ _ (by show _ < 2 ^ 64; omega) (by show _ < 2 ^ 64; omega)]
  have e2 : n ||| a * 256 ^ i = n + a * 256 ^ i := by
    have := or_add' n a (8 * i) (by rw [Nat.pow_mul]; exact hn)
    rw [Nat.pow_mul] at this; exact this
  rw [e2]
  exact IntWalk.i64_in _ ⟨by omega, by omega⟩
def rdB (l : List UInt8) (x y : CV) : List CV := [.sl .sh 1 (bs l), x, y]
theorem take_cc (H : Hp) (V : List Nat) (b n : Nat) (l : List UInt8) (x y : CV) (hb : H[b]? = some (some (rdB l x y))) (hn : n ≤ l.length) (hl : l.length ≤ 1000000) : CC Tryz.prog 105 [.ptr b 0, ci n] H V (fun r H' V' => r = .sl .sh 1 (bs (l.take n)) ∧ H' = H.set b (some (rdB (l.drop n) x y)) ∧ V = V') := by
  refine CC.of_swp Tryz.func105 rfl (by kernel_rfl) (by rw [Tryz.ntmps105]; exact len_le _ _ rfl) fun hok hokH => ?_
  clear hok
  have hbl := lt_of_box hb
  have hn' : (n : Int) ≤ (l.length : Int) := by omega
  unfold rdB at hb ⊢
  refine SWp.seq (Wp.s ?_)
  simp -implicitDefEqProofs [go_sem, args0]
  refine SWp.seq (Wp.s ?_)
  simp -implicitDefEqProofs [go_sem, hbx_of hb, hn]
  refine SWp.seq (Wp.s ?_)
  simp -implicitDefEqProofs [go_sem, hbx_of hb, hn]
  refine SWp.seq (Wp.s ?_)
  simp -implicitDefEqProofs [go_sem]
  refine Wp.s ?_
  simp -implicitDefEqProofs [go_sem]
  exact Fin.self ⟨rfl, rfl, rfl⟩
theorem bnumber_cc (H : Hp) (V : List Nat) (b n : Nat) (l : List UInt8) (x y : CV) (hb : H[b]? = some (some (rdB l x y))) (hn : n ≤ l.length) (hl : l.length ≤ 1000000) (hn6 : n ≤ 6) : CC Tryz.prog 104 [.ptr b 0, ci n] H V (fun r H' V' => r = ci (leV (l.take n)) ∧ H' = H.set b (some (rdB (l.drop n) x y)) ∧ V = V') := by
  refine CC.of_swp Tryz.func104 rfl (by kernel_rfl) (by rw [Tryz.ntmps104]; exact len_le _ _ rfl) fun hok hokH => ?_
  clear hok
  have hbl := lt_of_box hb
  refine SWp.seq (Wp.s ?_)
  simp -implicitDefEqProofs [go_sem, args0]
  refine SWp.seq (Wp.s ?_)
  simp -implicitDefEqProofs [go_sem]
  refine SWp.join (α := Unit) (fun _ => ([(5, ci (leV (l.take n)))], H.set b (some (rdB (l.drop n) x y)), V)) (fun _ => True) ?_ ?_
  · refine SWp.seq (Wp.s ?_)
    simp -implicitDefEqProofs [go_sem]
    refine CC.mono (take_cc _ _ b n l x y hb hn hl) ?_
    rintro _ _ _ ⟨rfl, rfl, rfl⟩
    simp -implicitDefEqProofs [go_sem, show min n l.length = n by omega]
    refine SWp.block ?_
    have hkl : (l.take n).length = n := by rw [List.length_take]; omega
    generalize l.take n = q at hkl ⊢
    refine SWp.loop (α := Nat) (fun i => ([(5, ci (leV (q.take i))), (10, .sl .sh 1 (bs q)), (11, ci n), (12, ci i)], H.set b (some (rdB (l.drop n) x y)), V)) (fun i => i ≤ n) (fun i => n - i) 0 (Nat.zero_le _) (Sh.forget (by simp [go_sem, leV]) rfl rfl) ?_
    intro i hi
    dsimp only
    refine Wp.s ?_
    by_cases h : i < n
    · have hq : i < q.length := by omega
      have h1 := leV_lt (q.take i)
      rw [List.length_take, Nat.min_eq_left (by omega)] at h1
      have e := or_sh8 (n := leV (q.take i)) (a := q[i].toNat) (i := i) (by omega) h1 q[i].toNat_lt
      have e2 : leV (q.take i) + q[i].toNat * 256 ^ i = leV (q.take (i + 1)) := by
        rw [List.take_succ_eq_append_getElem hq, leV_snoc, List.length_take, Nat.min_eq_left (by omega)]
      rw [e2] at e
      have w1 : IntKind.i64.wrap (8 * (i : Int)) = 8 * (i : Int) := IntWalk.i64_in _ ⟨by omega, by omega⟩
      have w2 : IntKind.i64.wrap (q[i].toNat : Int) = (q[i].toNat : Int) := by have := q[i].toNat_lt; exact IntWalk.i64_in _ ⟨by omega, by omega⟩
      simp -implicitDefEqProofs [go_sem, h, hq, w1, w2, e]
      refine ⟨by omega, i + 1, by omega, by omega, Sh.forget ?_ rfl rfl⟩
      simp [go_sem, wrap_succ (show i ≤ 1000000000 by omega)]
    · obtain rfl : i = n := by omega
      simp -implicitDefEqProofs [go_sem, h]
      refine Sh.forget ?_ rfl rfl
      rw [List.take_of_length_le (by omega)]
      simp [go_sem]
  · rintro _ -
    refine Wp.s ?_
    simp -implicitDefEqProofs [go_sem]
    exact Fin.self ⟨rfl, rfl, rfl⟩
theorem nz_cc (H : Hp) (V : List Nat) (c : UInt8) : CC Tryz.prog 107 [.v (.int .u8 (c.toNat : Int))] H V (Pu (cb (c != 0)) H V) := by
  refine CC.of_swp Tryz.func107 rfl (by kernel_rfl) (by rw [Tryz.ntmps107]; exact len_le _ _ rfl) fun hok hokH => ?_
  clear hok
  refine SWp.seq (Wp.s ?_)
  simp -implicitDefEqProofs [go_sem, args0]
  refine Wp.s ?_
  simp -implicitDefEqProofs [go_sem]
  refine Fin.bool ?_ hokH (by simp) (by simp)
  rw [Bool.eq_iff_iff]
  simp [← UInt8.toNat_inj]
def nzB (c : UInt8) : Bool := c != 0
theorem indexB_cc (H : Hp) (V : List Nat) (tk : Tk) (l : List UInt8) (hl : l.length ≤ 900000000) :
    CC Tryz.prog 119 [.sl tk 1 (bs l), .fn 107 []] H V (Ix (l.any nzB) H V) := by
  refine CC.of_swp Tryz.func119 rfl (by kernel_rfl) (by rw [Tryz.ntmps119]; exact len_le _ _ rfl) fun hok hokH => ?_
  clear hok
  refine SWp.seq (Wp.s ?_)
  simp -implicitDefEqProofs [go_sem, args0]
  refine SWp.join (α := Unit) (fun _ => ([], H, V)) (fun _ => l.any nzB = false) ?_ ?_
  · refine SWp.seq (Wp.s ?_)
    simp -implicitDefEqProofs [go_sem]
    refine SWp.block ?_
    refine SWp.loop (α := Nat) (fun i => ([(0, .sl tk 1 (bs l)), (1, .fn 107 []), (7, ci l.length), (8, ci i)], H, V)) (fun i => i ≤ l.length ∧ (l.take i).any nzB = false) (fun i => l.length - i) 0 ⟨Nat.zero_le _, rfl⟩
      (Sh.forget (by simp [go_sem]) rfl rfl) ?_
    rintro i ⟨hi, hp⟩
    dsimp only
    refine Wp.s ?_
    simp -implicitDefEqProofs [go_sem]
    refine ⟨fun h => ⟨h, ?_⟩, fun h => ⟨?_, Sh.forget (by simp [go_sem]) rfl rfl⟩⟩
    · refine CC.mono (nz_cc _ _ l[i]) ?_
      rintro _ _ _ ⟨rfl, rfl, rfl⟩
      rcases hq : nzB l[i] with - | -
      · have hq' : (l[i] != 0) = false := hq
        simp -implicitDefEqProofs [go_sem, hq']
        refine ⟨i + 1, ⟨by omega, by simpa using any_take h hp hq⟩, by omega, Sh.forget ?_ rfl rfl⟩
        simp [go_sem, wrap_succ (show i ≤ 1000000000 by omega)]
      · have hq' : (l[i] != 0) = true := hq
        simp -implicitDefEqProofs [go_sem, hq']
        exact Fin.ix (by rw [any_at h hq]; simp) hokH (by simp) (by simp)
    · rw [List.take_of_length_le h] at hp; simpa using hp
  · rintro _ hp
    dsimp only
    refine Wp.s ?_
    simp -implicitDefEqProofs [go_sem]
    exact Fin.ix (by rw [hp]; rfl) hokH (by simp) (by simp)
theorem containsB_cc (H : Hp) (V : List Nat) (tk : Tk) (l : List UInt8) (hl : l.length ≤ 900000000) :
    CC Tryz.prog 106 [.sl tk 1 (bs l), .fn 107 []] H V (Pu (cb (l.any nzB)) H V) := by
  refine CC.of_swp Tryz.func106 rfl (by kernel_rfl) (by rw [Tryz.ntmps106]; exact len_le _ _ rfl) fun hok hokH => Wp.s ?_
  simp -implicitDefEqProofs [go_sem, args0]
  refine CC.mono (indexB_cc _ _ _ _ hl) ?_
  rintro _ _ _ ⟨k, rfl, hk, rfl, rfl⟩
  simp -implicitDefEqProofs [go_sem]
  exact Fin.bool hk hokH (by simp) (by simp)
/-! ### Panics -/
def panR (k : Nat) : List PanicEntry := [{ v := .iface 166 (.agg #[.int .i64 (k : Int)]), recovered := false }]
theorem demandR_run (b : Bool) (k : Nat) (w : World) : Calls Tryz.prog 102 #[.bool b, .int .i64 (k : Int)] w fun e w' => w' = w ∧ if b then e = .returned (.tuple #[]) else e = .panicked (panR k) := by
  go_enter Tryz.func102, Tryz.ntmps102
  go_wp2
  · simp_all
  · simp [bodyPost, panR]
  · simp [bodyPost, results, Tryz.results102, go_sem]
  · simp_all
theorem demandR_cx (H : Hp) (V : List Nat) (b : Bool) (k : Nat) : CX Tryz.prog 102 [.v (.bool b), er k] H V (fun r H' V' => b = true ∧ r = .tup [] ∧ H' = H ∧ V' = V) (fun ch H' V' => b = false ∧ ch = panR k ∧ H' = H ∧ V' = V) := by
  refine ⟨⟨_, Tryz.func102, rfl, by kernel_rfl⟩, fun m w us hi hu => ?_⟩
  rw [RelL] at hu
  obtain ⟨u, r, rfl, h1, h2⟩ := hu
  rw [RelL] at h2
  obtain ⟨u2, r2, rfl, h2, h3⟩ := h2
  rw [RelL] at h3
  subst h3
  rw [RelV] at h1 h2
  subst h1 h2
  refine (demandR_run b k w).mono fun e w' ⟨e1, e2⟩ => ?_
  subst e1
  cases b
  · exact .inr ⟨_, m, H, V, e2, ⟨rfl, rfl, rfl, rfl⟩, hi, Ext.refl _ _ _⟩
  · exact .inl ⟨_, m, .tup [], H, V, e2, ⟨rfl, rfl, rfl, rfl⟩, hi, (by rw [RelV]; exact ⟨[], rfl, by rw [RelL]⟩), Ext.refl _ _ _⟩
theorem cx_demR {f : FuncId} {args : List CV} {H : Hp} {V : List Nat} {K : CV → Hp → List Nat → Prop} {E : List PanicEntry → Hp → List Nat → Prop} (b : Bool) (k : Nat) (e : f = 102) (ha : args = [.v (.bool b), er k]) (h0 : b = true → K (.tup []) H V) (h1 : b = false → E (panR k) H V) : CX Tryz.prog f args H V K E := by
  subst e ha
  exact CX.mono (demandR_cx H V b k) (fun r H' V' ⟨a, b, c, d⟩ => by subst b c d; exact h0 a) (fun ch H' V' ⟨a, b, c, d⟩ => by subst b c d; exact h1 a)
end Go.Proofs.YtmgoflhjblombaaGreatDoor
