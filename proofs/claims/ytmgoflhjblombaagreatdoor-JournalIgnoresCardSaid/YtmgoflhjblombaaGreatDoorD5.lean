import Derived.Test.YtmgoflhjblombaaGreatDoorD4
import Derived.Shelf.SortM.Plain
import Derived.Shelf.SortM.SortNone
set_option linter.unusedSimpArgs false
set_option linter.unusedVariables false
set_option linter.unusedSectionVars false
namespace Go.Proofs.YtmgoflhjblombaaGreatDoor
open Go.Proofs
def zs (l : List UInt8) : Bool := l.all (· == 0)
def TR (l : List UInt8) (H : Hp) (V : List Nat) : CV → Hp → List Nat → Prop := fun r H' V' => ∃ m, m ≤ l.length ∧ r = .sl .sh 1 (bs (l.take m)) ∧ decide (0 < m) = !(zs l) ∧ H = H' ∧ V = V'
theorem strimB_cc (H : Hp) (V : List Nat) (tk : Tk) (l : List UInt8) (hl : l.length ≤ 1000000) : CC Tryz.prog 125 [.sl tk 1 (bs l), .v (.int .u8 0)] H V (TR l H V) := by
  refine CC.of_swp Tryz.func125 rfl (by kernel_rfl) (by rw [Tryz.ntmps125]; exact len_le _ _ rfl) fun hok hokH => ?_
  clear hok
  refine SWp.seq (Wp.s ?_)
  simp -implicitDefEqProofs [go_sem, args0]
  refine SWp.join (α := Nat) (fun m => ([(0, .sl .sh 1 (bs (l.take m)))], H, V)) (fun m => m ≤ l.length ∧ decide (0 < m) = !(zs l)) ?_ ?_
  · refine SWp.block ?_
    refine SWp.loop (α := Nat) (fun m => ([(0, .sl .sh 1 (bs (l.take m))), (1, .v (.int .u8 0))], H, V)) (fun m => m ≤ l.length ∧ zs (l.drop m) = true) (fun m => m) l.length ⟨Nat.le_refl _, by simp [zs]⟩ (Sh.forget (by simp -implicitDefEqProofs [go_sem]) rfl rfl) ?_
    rintro m ⟨hm, hz⟩
    dsimp only
    have hlen : (l.take m).length = m := by simp; omega
    refine SWp.seq (Wp.s ?_)
    by_cases h0 : m = 0
    · subst h0
      simp -implicitDefEqProofs [go_sem, hlen]
      refine ⟨0, ⟨Nat.zero_le _, ?_⟩, Sh.forget (by simp -implicitDefEqProofs [go_sem]) rfl rfl⟩
      simp at hz; rw [hz]; rfl
    have w1 : IntKind.i64.wrap ((m : Int) - 1) = ((m - 1 : Nat) : Int) := by rw [IntWalk.i64_in _ ⟨by omega, by omega⟩]; omega
    have hm1 : m - 1 < l.length := by omega
    simp -implicitDefEqProofs [go_sem, hlen, h0, w1, show 0 < m by omega, show m - 1 < m by omega]
    have hg : l.drop (m - 1) = l[m - 1] :: l.drop m := by
      have := List.drop_eq_getElem_cons hm1
      rwa [show m - 1 + 1 = m by omega] at this
    refine ⟨fun h => ?_, fun h => ?_⟩
    · refine SWp.block (Wp.s ?_)
      simp -implicitDefEqProofs [go_sem, hlen, w1]
      refine ⟨m - 1, ⟨by omega, ?_⟩, by omega, Sh.forget ?_ rfl rfl⟩
      · rw [hg, zs, List.all_cons, ← zs, hz, show l[m - 1] = 0 from UInt8.toNat_inj.1 h]; rfl
      · simp -implicitDefEqProofs [go_sem, List.take_take, Nat.min_eq_left (show m - 1 ≤ m by omega)]
    · refine ⟨m, ⟨hm, ?_⟩, Sh.forget (by simp -implicitDefEqProofs [go_sem]) rfl rfl⟩
      have : zs l = false := by
        rw [← Bool.not_eq_true]
        intro hq
        have := List.all_eq_true.1 hq l[m - 1] (List.getElem_mem hm1)
        exact h (by simpa using congrArg UInt8.toNat (eq_of_beq this))
      rw [this]; simp; omega
  · rintro m ⟨hm, hd⟩
    dsimp only
    refine Wp.s ?_
    simp -implicitDefEqProofs [go_sem]
    exact Fin.pure ⟨m, hm, rfl, hd, rfl, rfl⟩ (by simp) (by simp) (.refl _) (by rw [okV_sh, okBs_t]; trivial) hokH
theorem sTrimRight_cc (H : Hp) (V : List Nat) (tk : Tk) (l : List UInt8) (hl : l.length ≤ 1000000) : CC Tryz.prog 118 [.sl tk 1 (bs l), .v (.string ⟨#[0]⟩)] H V (TR l H V) := by
  refine CC.of_swp Tryz.func118 rfl (by kernel_rfl) (by rw [Tryz.ntmps118]; exact len_le _ _ rfl) fun hok hokH => ?_
  clear hok
  refine SWp.seq (Wp.s ?_)
  simp -implicitDefEqProofs [go_sem, args0]
  refine SWp.seq (Wp.s ?_)
  by_cases h0 : l = []
  · subst h0
    simp -implicitDefEqProofs [go_sem]
    exact Fin.pure ⟨0, Nat.le_refl _, rfl, rfl, rfl, rfl⟩ (by simp) (by simp) (.sh _ _ _) (by rw [okV_sh, okBs_t]; trivial) hokH
  have hlp : 0 < l.length := List.length_pos_iff.2 h0
  simp -implicitDefEqProofs [go_sem, h0, show ¬ (l.length = 0) by omega]
  refine SWp.seq (Wp.s ?_)
  simp -implicitDefEqProofs [go_sem]
  refine ⟨fun h => ?_, fun h => absurd h (by decide)⟩
  refine CC.mono (strimB_cc _ _ _ l hl) ?_
  rintro _ _ _ ⟨m, h1, rfl, h2, rfl, rfl⟩
  simp -implicitDefEqProofs [go_sem]
  exact Fin.pure ⟨m, h1, rfl, h2, rfl, rfl⟩ (by simp) (by simp) (.refl _) (by rw [okV_sh, okBs_t]; trivial) hokH
theorem sEqual_cc (H : Hp) (V : List Nat) (t1 t2 : Tk) (a b : List UInt8) : CC Tryz.prog 24 [.sl t1 1 (bs a), .sl t2 1 (bs b)] H V (Pu (cb (decide (a = b))) H V) := by
  refine CC.of_swp Tryz.func24 rfl (by kernel_rfl) (by rw [Tryz.ntmps24]; exact len_le _ _ rfl) fun hok hokH => ?_
  clear hok
  refine SWp.seq (Wp.s ?_)
  simp -implicitDefEqProofs [go_sem, args0]
  refine Wp.s ?_
  simp -implicitDefEqProofs [go_sem]
  exact Fin.bool (by by_cases h : a = b <;> simp [h]) hokH (by simp) (by simp)
theorem scloneBy_cc (H : Hp) (V : List Nat) (tk : Tk) (xs : List (List CV)) (hx : xs.length ≤ 1000000000) : CC Tryz.prog 83 [.sl tk 1 xs] H V (Fr 1 xs H V) := by
  refine CC.of_swp Tryz.func83 rfl (by kernel_rfl) (by rw [Tryz.ntmps83]; exact len_le _ _ rfl) fun hok hokH => Wp.s ?_
  simp -implicitDefEqProofs [go_sem, args0]
  simp [okL, okV] at hok
  refine ⟨⟨by omega, ?_⟩, fun h => ?_⟩
  · exact Fin.fr hok.2 hokH (by simp)
  · exact Fin.frtok (by omega) (.inl ⟨rfl, h⟩) hok.2 hokH (by simp) (by simp)
end Go.Proofs.YtmgoflhjblombaaGreatDoor
namespace Go.Proofs.YtmgoflhjblombaaGreatDoor
open Go.Proofs
theorem SWp.scope {P : Program} {n nb nv : Nat} {c : Code} {Q : Exit → Tm → Hp → List Nat → Prop} {T : Tm} {H : Hp} {V : List Nat} (h : SWp P n nb nv c (scp Q) T H V) : SWp P n nb nv (.scope c) Q T H V := by
  intro ro D m w a m0 w0 V0 h1 h2 h3 hx hs
  refine wpIn_scope_straight (wpIn_mono (h ro D m w a m0 w0 V0 h1 h2 h3 hx hs) fun e a' w' ⟨T', H', V', m', k1, k2⟩ => ?_)
  cases e with
  | goto l => exact k1.elim
  | _ => exact ⟨T', H', V', m', k1, k2⟩
def ApB (j : Nat) (l : List UInt8) (cv : CV) (V : List Nat) : Prop := (cv = .v (.slice none 0 0) ∧ l = []) ∨ ∃ k v, cv = .sl (.own k v) 1 (bs l) ∧ V[k]? = some v ∧ j ≤ k
theorem dataS_succ (l : List Sec) (i : Nat) (h : i < l.length) : dataS (l.take (i + 1)) = dataS (l.take i) ++ l[i].val.drop 4 := by
  rw [List.take_succ_eq_append_getElem h, dataS, List.flatMap_append]; simp [dataS]
theorem secC_drop4 (s : Sec) : chunks 1 4 ((secC s).drop 4) = bs (s.val.drop 4) := by
  have := fb_chunks (s.val.drop 4)
  rw [List.length_drop, s.len] at this
  have e : (secC s).drop 4 = fb (s.val.drop 4) := by rw [fb, List.map_drop]; rfl
  rw [e]; exact this
theorem sget_cc (H : Hp) (V : List Nat) (tk : Tk) (l : List Sec) (hl : l.length = 8) : CC Tryz.prog 101 [.sl tk 8 (l.map secC)] H V (Pu (.agg [ci (parseS l).1, .sl .sh 1 (bs (parseS l).2), secsV l]) H V) := by
  refine CC.of_swp Tryz.func101 rfl (by kernel_rfl) (by rw [Tryz.ntmps101]; exact len_le _ _ rfl) fun hok hokH => ?_
  refine SWp.seq (Wp.s ?_)
  simp -implicitDefEqProofs [go_sem, args0]
  refine SWp.scope ?_
  refine SWp.seq (Wp.s ?_)
  simp -implicitDefEqProofs [go_sem]
  refine SWp.seq (Wp.s ?_)
  simp -implicitDefEqProofs [go_sem]
  refine SWp.seq (Wp.s ?_)
  simp -implicitDefEqProofs [go_sem]
  have h0 : l.getD 0 sec0 = l[0] := by rw [List.getD_eq_getElem?_getD, List.getElem?_eq_getElem (by omega)]; rfl
  refine SWp.join (α := CV × List Nat) (fun x => ([(2, .ptr H.length 0), (3, .ptr (H.length + 1) 0)], H ++ [some [ci 0, .v (.slice none 0 0), .v (.slice none 0 0)], some [ci (parseS l).1, x.1, .sl tk 8 (l.map secC)]], x.2))
    (fun x => Le x.1 (.sl .sh 1 (bs (parseS l).2)) ∧ x.1.one = true ∧ V.length ≤ x.2.length ∧ x.2.take V.length = V) ?_ ?_
  · refine SWp.block ?_
    refine SWp.loop (α := Unit) (fun _ => ([(0, .sl tk 8 (l.map secC)), (2, .ptr H.length 0), (3, .ptr (H.length + 1) 0), (4, .v (.slice none 0 0))], H ++ [some [ci 0, .v (.slice none 0 0), .v (.slice none 0 0)], some [ci 0, .v (.slice none 0 0), .sl tk 8 (l.map secC)]], V)) (fun _ => True) (fun _ => 0) () trivial (Sh.forget (by simp -implicitDefEqProofs [go_sem]) (by simp) rfl) ?_
    rintro _ -
    dsimp only
    refine SWp.block ?_
    have inv : ∀ (T : Tm) (L : Hp) (V' : List Nat), parseS l = (0, []) → V.length ≤ V'.length → V'.take V.length = V → TLe T [(2, .ptr H.length 0), (3, .ptr (H.length + 1) 0)] →
      ∃ a b, (Le a (.sl .sh 1 (bs (parseS l).2)) ∧ a.one = true ∧ V.length ≤ b.length ∧ b.take V.length = V) ∧
        Sh 55 H.length V.length T (H ++ (some [ci 0, .v (.slice none 0 0), .v (.slice none 0 0)] :: some [ci 0, .v (.slice none 0 0), .sl tk 8 (l.map secC)] :: L)) V' ([(2, .ptr H.length 0), (3, .ptr (H.length + 1) 0)], H ++ [some [ci 0, .v (.slice none 0 0), .v (.slice none 0 0)], some [ci (parseS l).1, a, .sl tk 8 (l.map secC)]], b) := fun T L V' hp h1 h2 h3 => by
      refine ⟨.v (.slice none 0 0), V', ⟨by rw [hp]; exact .nil 1 (by decide), rfl, h1, h2⟩, ?_⟩
      rw [hp]
      refine Sh.trim (L := [some [ci 0, .v (.slice none 0 0), .v (.slice none 0 0)], some [ci 0, .v (.slice none 0 0), .sl tk 8 (l.map secC)]]) h3 (by simp -implicitDefEqProofs [go_sem]) hokH ?_ h1 (by simp) (List.take_of_length_le (Nat.le_refl _))
      rw [okL] at hok
      rw [okH_some, okH_some, okL, okL, okL, okL, okL, okL]
      exact ⟨by simp -implicitDefEqProofs [go_sem], ⟨by rw [okV]; trivial, by rw [okV]; trivial, okV_mono (by omega) h1 hok.1, trivial⟩, trivial⟩
    refine SWp.join (α := CV × List Nat) (fun x => ([(0, .sl tk 8 (l.map secC)), (2, .ptr H.length 0), (3, .ptr (H.length + 1) 0), (4, x.1)], H ++ [some [ci 0, .v (.slice none 0 0), .v (.slice none 0 0)], some [ci 0, .v (.slice none 0 0), .sl tk 8 (l.map secC)]], x.2))
      (fun x => (∃ k v, x.1 = .sl (.own k v) 1 (bs (dataS l)) ∧ x.2[k]? = some v ∧ V.length ≤ k) ∧ V.length ≤ x.2.length ∧ x.2.take V.length = V ∧ l.all (fun s => gn s == g0 l) = true) ?_ ?_
    · refine SWp.seq (Wp.s ?_)
      simp -implicitDefEqProofs [go_sem]
      refine SWp.block ?_
      refine SWp.loop (α := Nat × CV × List Nat) (fun x => ([(0, .sl tk 8 (l.map secC)), (2, .ptr H.length 0), (3, .ptr (H.length + 1) 0), (4, x.2.1), (10, .sl tk 8 (l.map secC)), (11, ci 8), (12, ci x.1)], H ++ [some [ci 0, .v (.slice none 0 0), .v (.slice none 0 0)], some [ci 0, .v (.slice none 0 0), .sl tk 8 (l.map secC)]], x.2.2))
        (fun x => x.1 ≤ 8 ∧ ApB V.length (dataS (l.take x.1)) x.2.1 x.2.2 ∧ V.length ≤ x.2.2.length ∧ x.2.2.take V.length = V ∧ (l.take x.1).all (fun s => gn s == g0 l) = true) (fun x => 8 - x.1) (0, .v (.slice none 0 0), V) ⟨by omega, .inl ⟨rfl, rfl⟩, Nat.le_refl _, by simp, rfl⟩ (Sh.forget (by simp -implicitDefEqProofs [go_sem, hl]) (by simp) rfl) ?_
      rintro ⟨i, cv, V'⟩ ⟨hi, ha, hv1, hv2, hg⟩
      dsimp only at hi ha hv1 hv2 hg ⊢
      refine SWp.seq (Wp.s ?_)
      simp -implicitDefEqProofs [go_sem]
      refine SWp.seq (Wp.s ?_)
      simp -implicitDefEqProofs [go_sem]
      refine ⟨fun h => ?_, fun h => ?_⟩
      case refine_2 =>
        obtain rfl : i = 8 := by omega
        rw [List.take_of_length_le (by omega)] at ha hg
        rcases ha with ⟨rfl, he⟩ | ⟨k, v, rfl, hv, hk⟩
        · have := congrArg List.length he
          rw [dataS_len] at this; simp at this; omega
        · exact ⟨_, V', ⟨⟨k, v, rfl, hv, hk⟩, hv1, hv2, by simpa using hg⟩, Sh.forget (by simp -implicitDefEqProofs [go_sem]) rfl rfl⟩
      have h8 : i < l.length := by omega
      refine SWp.seq (SWp.block (SWp.seq (Wp.s ?_)))
      simp -implicitDefEqProofs [go_sem, h8]
      refine SWp.seq (SWp.seq (SWp.drawnL [0, 2, 3, 4, 1, 5, 6] (by kernel_rfl) (by kernel_rfl) rfl ?_))
      simp -implicitDefEqProofs [go_sem, hl]
      refine CC.mono (sgeneration_cc _ _ _) ?_
      rintro _ _ _ ⟨rfl, rfl, rfl⟩
      simp -implicitDefEqProofs [go_sem]
      refine CC.mono (sgeneration_cc _ _ _) ?_
      rintro _ _ _ ⟨rfl, rfl, rfl⟩
      simp -implicitDefEqProofs [go_sem]
      refine Wp.s ?_
      by_cases hgi : gn l[i] = gn l[0]
      case neg =>
        have hp : parseS l = (0, []) := by
          rw [parseS, if_neg]
          intro hv
          rw [valid, Bool.and_eq_true] at hv
          have := List.all_eq_true.1 hv.1 _ (List.getElem_mem h8)
          rw [g0, h0] at this
          exact hgi (by simpa using this)
        simp -implicitDefEqProofs [go_sem, show ¬ ((gn l[i] : Int) = gn l[0]) by omega]
        exact inv _ [some (secC l[i])] V' hp hv1 hv2 (by simp -implicitDefEqProofs [go_sem])
      simp -implicitDefEqProofs [go_sem, hgi]
      have hg' : (l.take (i + 1)).all (fun s => gn s == g0 l) = true := by
        rw [List.take_succ_eq_append_getElem h8, List.all_append, hg, g0, h0]
        simp [hgi]
      have hok2 : ∀ j, V.length ≤ j → okH (H.length + 2) j [some [ci 0, .v (.slice none 0 0), .v (.slice none 0 0)], some [ci 0, .v (.slice none 0 0), .sl tk 8 (l.map secC)]] := fun j h1 => by
        rw [okL] at hok
        rw [okH_some, okH_some, okL, okL, okL, okL, okL, okL]
        exact ⟨by simp -implicitDefEqProofs [go_sem], ⟨by rw [okV]; trivial, by rw [okV]; trivial, okV_mono (by omega) h1 hok.1, trivial⟩, trivial⟩
      refine Wp.s ?_
      rcases ha with ⟨rfl, he⟩ | ⟨k, v, rfl, hv, hk⟩
      · simp -implicitDefEqProofs [go_sem, secC_drop4]
        have hap : ApB V.length (dataS (l.take (i + 1))) (.sl (.own V'.length 0) 1 (bs (l[i].val.drop 4))) (V' ++ [0]) := .inr ⟨V'.length, 0, by rw [dataS_succ _ _ h8, he]; rfl, by simp, hv1⟩
        refine ⟨by rw [l[i].len]; omega, Wp.s ?_⟩
        simp -implicitDefEqProofs [go_sem, wrap_succ (show i ≤ 1000000000 by omega)]
        refine ⟨i + 1, _, V' ++ [0], ⟨by omega, hap, by simp; omega, by rw [List.take_append_of_le_length hv1]; exact hv2, by simpa using hg'⟩, by omega, Sh.trim (L := [some [ci 0, .v (.slice none 0 0), .v (.slice none 0 0)], some [ci 0, .v (.slice none 0 0), .sl tk 8 (l.map secC)]]) (by simp -implicitDefEqProofs [go_sem]) ?_ hokH (hok2 _ (by simp; omega)) (by simp; omega) (by simp) (List.take_of_length_le (Nat.le_refl _))⟩
        rw [okL] at hok
        simp only [TOk_cons, TOk_nil]
        exact ⟨okV_mono (by omega) (by simp; omega) hok.1, by simp -implicitDefEqProofs [go_sem], by simp -implicitDefEqProofs [go_sem], by simp -implicitDefEqProofs [go_sem], okV_mono (by omega) (by simp; omega) hok.1, by simp -implicitDefEqProofs [go_sem], by simp -implicitDefEqProofs [go_sem], trivial⟩
      · simp -implicitDefEqProofs [go_sem, secC_drop4, hv]
        have hkv := (List.getElem?_eq_some_iff.1 hv).1
        have hap : ApB V.length (dataS (l.take (i + 1))) (.sl (.own k (v + 1)) 1 (bs (dataS (l.take i) ++ l[i].val.drop 4))) (V'.set k (v + 1)) := .inr ⟨k, v + 1, by rw [dataS_succ _ _ h8], by rw [List.getElem?_set_self hkv], hk⟩
        refine ⟨by rw [l[i].len, dataS_len, List.length_take]; omega, Wp.s ?_⟩
        simp -implicitDefEqProofs [go_sem, wrap_succ (show i ≤ 1000000000 by omega)]
        refine ⟨i + 1, _, V'.set k (v + 1), ⟨by omega, hap, by simpa using hv1, by rw [List.take_set_of_le hk]; exact hv2, by simpa using hg'⟩, by omega, Sh.trim (L := [some [ci 0, .v (.slice none 0 0), .v (.slice none 0 0)], some [ci 0, .v (.slice none 0 0), .sl tk 8 (l.map secC)]]) (by simp -implicitDefEqProofs [go_sem]) ?_ hokH (hok2 _ (by simpa using hv1)) (by simpa using hv1) (by simp) (List.take_of_length_le (Nat.le_refl _))⟩
        rw [okL] at hok
        simp only [TOk_cons, TOk_nil]
        exact ⟨okV_mono (by omega) (by simpa using hv1) hok.1, by simp -implicitDefEqProofs [go_sem], by simp -implicitDefEqProofs [go_sem], by simp -implicitDefEqProofs [go_sem, hkv], okV_mono (by omega) (by simpa using hv1) hok.1, by simp -implicitDefEqProofs [go_sem], by simp -implicitDefEqProofs [go_sem], trivial⟩
    · rintro ⟨cv, V'⟩ ⟨⟨k, v, rfl, hv, hk⟩, hv1, hv2, hg⟩
      dsimp only
      have hdl : (dataS l).length = 32 := by rw [dataS_len, hl]
      have hd0 : (dataS l).getD 0 0 = (dataS l)[0] := by rw [List.getD_eq_getElem?_getD, List.getElem?_eq_getElem (by omega)]; rfl
      have hg1 : gn l[0] = g0 l := by rw [g0, h0]
      refine SWp.seq (Wp.s ?_)
      simp -implicitDefEqProofs [go_sem, hdl]
      generalize hm : (dataS l)[0].toNat = m at *
      refine SWp.seq (Wp.s ?_)
      by_cases h31 : 31 < m
      · have hp : parseS l = (0, []) := by
          rw [parseS, if_neg]
          intro hv
          rw [valid, Bool.and_eq_true, okData, hd0, hm, Bool.and_eq_true, decide_eq_true_eq] at hv
          omega
        have hmw : IntKind.i64.wrap (m : Int) = m := by
          have := (dataS l)[0].toNat_lt
          exact IntWalk.i64_in _ ⟨by omega, by omega⟩
        simp -implicitDefEqProofs [go_sem, hmw, show (31 : Int) < m by omega]
        exact inv _ [] V' hp hv1 hv2 (by simp -implicitDefEqProofs [go_sem])
      have hmw : IntKind.i64.wrap (m : Int) = m := IntWalk.i64_in _ ⟨by omega, by omega⟩
      have hm1 := wrap_succ (show m ≤ 1000000000 by omega)
      simp -implicitDefEqProofs [go_sem, hmw, hm1, show ¬ (31 : Int) < m by omega, hdl]
      refine ⟨by omega, by omega, CC.mono (sTrimRight_cc _ _ _ _ (by rw [List.length_drop]; omega)) ?_⟩
      rintro _ _ _ ⟨q, hq1, rfl, hq, rfl, rfl⟩
      have hql : (((dataS l).drop (m + 1)).take q).length = q := by rw [List.length_take]; omega
      simp -implicitDefEqProofs [go_sem, hql]
      refine ⟨fun hq0 => ?_, fun hq0 => ?_⟩
      · have hp : parseS l = (0, []) := by
          rw [parseS, if_neg]
          intro hv
          rw [valid, Bool.and_eq_true, okData, hd0, hm, Bool.and_eq_true] at hv
          have hz := hv.2.2
          rw [← zs] at hz
          rw [hz] at hq
          simp at hq; omega
        exact inv _ [] V' hp hv1 hv2 (by simp -implicitDefEqProofs [go_sem])
      · have hz : zs ((dataS l).drop (m + 1)) = true := by
          rcases hz : zs ((dataS l).drop (m + 1)) with - | -
          · rw [hz] at hq; simp at hq; omega
          · rfl
        have hp : parseS l = (g0 l, ((dataS l).drop 1).take m) := by
          rw [parseS, if_pos, pay, hd0, hm]
          rw [valid, hg, okData, hd0, hm]
          simp only [Bool.true_and, Bool.and_eq_true, decide_eq_true_eq]
          exact ⟨by omega, hz⟩
        refine SWp.seq (SWp.drawnT [] [10, 13] (.s 0 .pl <| .s 1 .pl <| .s 2 .ld <| .s 4 .pl <| .s 5 .pl <| .s 6 .pl <| .s 7 .pl <| .s 3 .pl <| .s 8 .pl <| .s 9 .pl <| .s 10 .st <| .s 11 .pl <| .s 12 .pl <| .s 13 .st <| .n) (by kernel_rfl) (by kernel_rfl) ?_)
        simp -implicitDefEqProofs [go_sem, hl, hm1, hdl]
        refine ⟨by omega, by omega, CC.mono (sgeneration_cc _ _ _) ?_⟩
        rintro _ _ _ ⟨rfl, rfl, rfl⟩
        simp -implicitDefEqProofs [go_sem]
        have et : (bs ((dataS l).take (m + 1))).tail = bs (((dataS l).drop 1).take m) := by
          rw [← List.drop_one, bs_drop, List.drop_take, Nat.add_sub_cancel]
        refine Wp.s ?_
        simp -implicitDefEqProofs [go_sem]
        refine ⟨.sl .sh 1 (bs ((dataS l).take (m + 1))).tail, V', ⟨.of_eq (by rw [et, hp]), rfl, hv1, hv2⟩, Sh.forget (by simp -implicitDefEqProofs [go_sem]) ?_ rfl⟩
        rw [hp, hg1]
  · rintro ⟨pv, V'⟩ ⟨h1, h2, h3, h4⟩
    dsimp only
    refine SWp.seq (Wp.s ?_)
    simp -implicitDefEqProofs [go_sem, h2]
    refine Wp.s ?_
    simp -implicitDefEqProofs [go_sem]
    refine Fin.pu (.agg (.cons (.refl _) (.cons h1 (.cons (.sh _ _ _) .nil)))) ?_ hokH (by simp) h4
    rw [okV_agg, okL, okL, okL, okL]
    exact ⟨by rw [okV]; trivial, by rw [okV_sh, okBs_t]; trivial, okV_secsV _ _ _, trivial⟩
end Go.Proofs.YtmgoflhjblombaaGreatDoor
namespace Go.Proofs.YtmgoflhjblombaaGreatDoor
open Go.Proofs
end Go.Proofs.YtmgoflhjblombaaGreatDoor
namespace Go.Proofs.YtmgoflhjblombaaGreatDoor
open Go.Proofs
def repC (c : Nat × List UInt8) (l : List Sec) : List CV := [ci c.1, .sl .sh 1 (bs c.2), secsV l]
def bothC (l : List Sec) : List CV := repC (cA l) (l.take 8) ++ repC (cB l) (l.drop 8)
def findV (d : Dk) (a : Int) : CV :=
  if findE d a ≠ 0 then .tup [.agg (repC (0, []) [] ++ repC (0, []) []), ci 0, er (findE d a)] else
  if (best (findL d a)).1 = 0 then .tup [.agg (bothC (findL d a)), ci 0, er 9] else .tup [.agg (bothC (findL d a)), ci (new1 (findL d a)), er 0]
theorem okL_repC (i j : Nat) (c : Nat × List UInt8) (l : List Sec) : okL i j (repC c l) := by
  rw [repC, okL, okL, okL, okL]
  exact ⟨by rw [okV]; trivial, by rw [okV_sh, okBs_t]; trivial, okV_secsV _ _ _, trivial⟩
theorem okL_app {i j : Nat} : ∀ {a b : List CV}, okL i j a → okL i j b → okL i j (a ++ b)
  | [], b, _, h => h
  | x :: a, b, h, g => by rw [okL] at h; rw [List.cons_append, okL]; exact ⟨h.1, okL_app h.2 g⟩
theorem okV_findV (i j : Nat) (d : Dk) (a : Int) : okV i j (findV d a) := by
  have h : ∀ (c : List CV) (x : Int) (e : Nat), okL i j c → okV i j (.tup [.agg c, ci x, er e]) := fun c x e hc => by
    rw [okV, okL, okL, okL, okL, okV_agg]
    exact ⟨hc, by rw [okV]; trivial, okV_er _ _ _, trivial⟩
  unfold findV
  split
  · exact h _ _ _ (okL_app (okL_repC _ _ _ _) (okL_repC _ _ _ _))
  · split <;> exact h _ _ _ (okL_app (okL_repC _ _ _ _) (okL_repC _ _ _ _))
theorem findL_len {d : Dk} {a : Int} (h : findE d a = 0) : (findL d a).length = 16 := by
  unfold findE at h
  unfold findL
  unfold readD at *
  split at h
  · rename_i h1; exact absurd h h1
  · split at h
    · cases h
    · rename_i h1 h2
      rw [if_neg h1, if_neg h2]
      have hq : insideB d a 16 = true := by simpa using h2
      simp only [insideB, Bool.and_eq_true, decide_eq_true_eq] at hq
      rw [List.length_take, List.length_drop, newestD_len]
      have : (16 : Int).toNat = 16 := rfl
      omega
theorem sfind_cc (H : Hp) (V : List Nat) (d : Dk) (a : Int) (hl : DkS d) : CC Tryz.prog 82 [.agg (dkC d), ci a] H V (Pu (findV d a) H V) := by
  refine CC.of_swp Tryz.func82 rfl (by kernel_rfl) (by rw [Tryz.ntmps82]; exact len_le _ _ rfl) fun hok hokH => ?_
  clear hok
  refine SWp.seq (Wp.s ?_)
  simp -implicitDefEqProofs [go_sem, args0]
  refine SWp.seq (Wp.s ?_)
  simp -implicitDefEqProofs [go_sem]
  refine CC.mono (show CC Tryz.prog 29 _ _ _ (Pu (.tup [secsV (findL d a), er (findE d a)]) _ _) from sRead_cc _ _ d ⟨a, 16⟩ hl) ?_
  rintro _ _ _ ⟨rfl, rfl, rfl⟩
  simp -implicitDefEqProofs [go_sem]
  refine SWp.seq (Wp.s ?_)
  simp -implicitDefEqProofs [go_sem]
  refine ⟨fun he => ?_, fun he => ?_⟩
  · rw [findV, if_pos he]
    exact Fin.pu (.tup (.cons (.agg (.cons (.refl _) (.cons (.nil 1 (by decide)) (.cons (.nil 8 (by decide)) (.cons (.refl _) (.cons (.nil 1 (by decide)) (.cons (.nil 8 (by decide)) .nil))))))) (.cons (.refl _) (.cons (.refl _) .nil))))
      (by have := okV_findV H.length V.length d a; rwa [findV, if_pos he] at this) hokH (by simp) (by simp)
  have hl16 := findL_len he
  have hV : findV d a = if (best (findL d a)).1 = 0 then .tup [.agg (bothC (findL d a)), ci 0, er 9] else .tup [.agg (bothC (findL d a)), ci (new1 (findL d a)), er 0] := by rw [findV, if_neg (by simpa using he)]
  have hokV := okV_findV H.length V.length d a
  generalize findL d a = l at *
  refine SWp.seq (SWp.drawnT [] [8] (.s 0 .pl <| .s 1 .pl <| .s 3 .pl <| .s 4 .pl <| .c 2 <| .c 5 <| .s 6 .pl <| .s 7 .pl <| .s 8 .st <| .n) (by kernel_rfl) (by kernel_rfl) ?_)
  simp -implicitDefEqProofs [go_sem, hl16]
  refine ⟨.agg (repC (cA l) (l.take 8)), fun H V => ?_, ?_⟩
  · show CC Tryz.prog 101 [.sl .sh 8 ((l.map secC).take 8)] H V _
    rw [← List.map_take]
    exact sget_cc H V .sh (l.take 8) (by rw [List.length_take]; omega)
  simp -implicitDefEqProofs [go_sem]
  refine ⟨.agg (repC (cB l) (l.drop 8)), fun H V => ?_, ?_⟩
  · show CC Tryz.prog 101 [.sl .sh 8 ((l.map secC).drop 8)] H V _
    rw [← List.map_drop]
    exact sget_cc H V .sh (l.drop 8) (by rw [List.length_drop]; omega)
  simp -implicitDefEqProofs [go_sem, repC]
  refine SWp.seq (Wp.s ?_)
  simp -implicitDefEqProofs [go_sem]
  rw [hV] at hokV
  rw [hV]
  refine SWp.seq (Wp.s ?_)
  by_cases hlt : (cA l).1 < (cB l).1
  · have hb : (best l).1 = (cB l).1 := by rw [best, if_pos hlt]
    have hn : new1 l = 1 := by rw [new1, if_pos hlt]
    have h0 : ¬ (cB l).1 = 0 := by omega
    rw [hb, if_neg h0, hn] at hokV
    rw [hb, if_neg h0, hn]
    simp -implicitDefEqProofs [go_sem, show ((cA l).1 : Int) < (cB l).1 by omega]
    refine SWp.seq (Wp.s ?_)
    simp -implicitDefEqProofs [go_sem, h0]
    refine Wp.s ?_
    simp -implicitDefEqProofs [go_sem]
    exact Fin.pu (.refl _) hokV hokH (by simp) (by simp)
  · have hb : (best l).1 = (cA l).1 := by rw [best, if_neg hlt]
    have hn : new1 l = 0 := by rw [new1, if_neg hlt]
    rw [hb, hn] at hokV
    rw [hb, hn]
    simp -implicitDefEqProofs [go_sem, show ¬ ((cA l).1 : Int) < (cB l).1 by omega]
    refine SWp.seq (Wp.s ?_)
    by_cases h0 : (cA l).1 = 0
    · rw [if_pos h0] at hokV
      rw [if_pos h0]
      simp -implicitDefEqProofs [go_sem, h0]
      refine Fin.pu (.of_eq ?_) hokV hokH (by simp) (by simp)
      simp [bothC, repC, h0]
    · rw [if_neg h0] at hokV
      rw [if_neg h0]
      simp -implicitDefEqProofs [go_sem, h0]
      refine Wp.s ?_
      simp -implicitDefEqProofs [go_sem]
      exact Fin.pu (.refl _) hokV hokH (by simp) (by simp)
end Go.Proofs.YtmgoflhjblombaaGreatDoor
namespace Go.Proofs.YtmgoflhjblombaaGreatDoor
open Go.Proofs
end Go.Proofs.YtmgoflhjblombaaGreatDoor
namespace Go.Proofs.YtmgoflhjblombaaGreatDoor
open Go.Proofs
def ldV (x : List UInt8 × Nat × Nat) : CV := .tup [.sl .sh 1 (bs x.1), ci x.2.1, er x.2.2]
theorem okV_ldV (i j : Nat) (x : List UInt8 × Nat × Nat) : okV i j (ldV x) := by
  rw [ldV, okV, okL, okL, okL, okL]
  exact ⟨by rw [okV_sh, okBs_t]; trivial, by rw [okV]; trivial, okV_er _ _ _, trivial⟩
theorem best_eq (l : List Sec) : best l = if new1 l = 1 then cB l else cA l := by
  unfold best new1; split <;> rfl
theorem pay_len (l : List Sec) : (parseS l).2.length ≤ 256 := by
  unfold parseS; split
  · rw [pay, List.length_take]
    have := ((dataS l).getD 0 0).toNat_lt
    omega
  · exact Nat.zero_le _
theorem sLoad_cc (H : Hp) (V : List Nat) (d : Dk) (a : Int) (hl : DkS d) : CC Tryz.prog 57 [.agg (dkC d), ci a] H V (Pu (ldV (loadS d a)) H V) := by
  refine CC.of_swp Tryz.func57 rfl (by kernel_rfl) (by rw [Tryz.ntmps57]; exact len_le _ _ rfl) fun hok hokH => ?_
  clear hok
  have bad : ∀ (e : Nat) {H' : Hp} {V' : List Nat}, loadS d a = ([], 0, e) → H'.take H.length = H → V'.take V.length = V → Fin H.length V.length (Pu (ldV (loadS d a)) H V) (.tup [.v (.slice none 0 0), .v (.int .i64 0), er e]) H' V' := fun e H' V' h1 h2 h3 => by
    rw [h1]
    exact Fin.pu (.tup (.cons (.nil 1 (by decide)) (.cons (.refl _) (.cons (.refl _) .nil)))) (okV_ldV _ _ _) hokH h2 h3
  refine SWp.seq (Wp.s ?_)
  simp -implicitDefEqProofs [go_sem, args0]
  refine SWp.seq (Wp.s ?_)
  simp -implicitDefEqProofs [go_sem]
  refine CC.mono (sfind_cc _ _ d a hl) ?_
  rintro _ _ _ ⟨rfl, rfl, rfl⟩
  by_cases he : findE d a = 0
  case neg =>
    have hV : findV d a = .tup [.agg (repC (0, []) [] ++ repC (0, []) []), ci 0, er (findE d a)] := by rw [findV, if_pos he]
    rw [hV]
    simp -implicitDefEqProofs [go_sem, repC]
    refine Wp.s ?_
    simp -implicitDefEqProofs [go_sem, he]
    exact bad _ (by rw [loadS, if_pos he]) (by simp) (by simp)
  by_cases hb : (best (findL d a)).1 = 0
  · have hV : findV d a = .tup [.agg (bothC (findL d a)), ci 0, er 9] := by rw [findV, if_neg (by simpa using he), if_pos hb]
    rw [hV]
    simp -implicitDefEqProofs [go_sem, bothC, repC]
    refine Wp.s ?_
    simp -implicitDefEqProofs [go_sem]
    exact bad 9 (by rw [loadS, if_neg (by simpa using he), if_pos hb]) (by simp) (by simp)
  have hV : findV d a = .tup [.agg (bothC (findL d a)), ci (new1 (findL d a)), er 0] := by rw [findV, if_neg (by simpa using he), if_neg hb]
  have hL : loadS d a = ((best (findL d a)).2, (best (findL d a)).1, 0) := by rw [loadS, if_neg (by simpa using he), if_neg hb]
  rw [hV, hL]
  clear bad hV hL hb
  generalize findL d a = l at *
  simp -implicitDefEqProofs [go_sem, bothC, repC]
  refine SWp.seq (Wp.s ?_)
  simp -implicitDefEqProofs [go_sem]
  refine SWp.seq (SWp.drawnL [0, 1, 2, 3, 4, 6, 7, 8, 9, 10, 5, 11, 12, 13] (by kernel_rfl) (by kernel_rfl) rfl ?_)
  have hn : new1 l = 1 ∨ new1 l = 0 := by unfold new1; split <;> simp
  have hbe := best_eq l
  rcases hn with hn | hn
  · rw [hn] at hbe
    rw [hn]
    simp -implicitDefEqProofs [go_sem]
    refine CC.mono (scloneBy_cc _ _ .sh _ (by rw [bs_len]; have : (cB l).2.length ≤ 256 := pay_len _; omega)) ?_
    rintro _ _ _ ⟨v, rfl, rfl, rfl⟩
    simp -implicitDefEqProofs [go_sem]
    refine Wp.s ?_
    simp -implicitDefEqProofs [go_sem]
    rw [hbe]
    exact Fin.pu (.tup (.cons (.sh _ _ _) (.cons (.refl _) (.cons (.refl _) .nil)))) (okV_ldV _ _ _) hokH (by simp) (by simp)
  · rw [hn] at hbe
    rw [hn]
    simp -implicitDefEqProofs [go_sem]
    refine CC.mono (scloneBy_cc _ _ .sh _ (by rw [bs_len]; have : (cA l).2.length ≤ 256 := pay_len _; omega)) ?_
    rintro _ _ _ ⟨v, rfl, rfl, rfl⟩
    simp -implicitDefEqProofs [go_sem]
    refine Wp.s ?_
    simp -implicitDefEqProofs [go_sem]
    rw [hbe]
    exact Fin.pu (.tup (.cons (.sh _ _ _) (.cons (.refl _) (.cons (.refl _) .nil)))) (okV_ldV _ _ _) hokH (by simp) (by simp)
end Go.Proofs.YtmgoflhjblombaaGreatDoor
namespace Go.Proofs.YtmgoflhjblombaaGreatDoor
open Go.Proofs
section
variable {n nb nv : Nat} {T T' : Tm} {H : Hp} {V : List Nat}
end
def stV (x : List Opn × Nat) : CV := .tup [opsV x.1, er x.2]
theorem okV_stV (i j : Nat) (x : List Opn × Nat) : okV i j (stV x) := by
  rw [stV, okV, okL, okL, okL, opsV, okV_sh, okE_ops]
  exact ⟨trivial, okV_er _ _ _, trivial⟩
theorem fmt_fin {H : Hp} {V : List Nat} {a : Int} {p : List UInt8} (hokH : ∀ (b : Nat) cs, H[b]? = some (some cs) → okL H.length V.length cs) :
    Fin H.length V.length (Pu (stV ([opW a (List.replicate 16 sec0), opS, opW a (copyS 1 p), opS], 0)) H V)
      (.tup [.sl .ti 3 [[.v (.int .i64 0), .v (.int .i64 a), .bsl H.length 0 16 8], [.v (.int .i64 1), .v (.int .i64 0), .v (.slice none 0 0)], [.v (.int .i64 0), .v (.int .i64 a), .sl .sh 8 ((copyS 1 p).map secC)], [.v (.int .i64 1), .v (.int .i64 0), .v (.slice none 0 0)]], .v (.int .i64 0)])
      (H ++ [some (List.replicate 16 [CV.v (.int .u8 0), CV.v (.int .u8 0), CV.v (.int .u8 0), CV.v (.int .u8 0), CV.v (.int .u8 0), CV.v (.int .u8 0), CV.v (.int .u8 0), CV.v (.int .u8 0)]).flatten]) V := by
  have hz0 : (List.replicate 16 [CV.v (.int .u8 0), CV.v (.int .u8 0), CV.v (.int .u8 0), CV.v (.int .u8 0), CV.v (.int .u8 0), CV.v (.int .u8 0), CV.v (.int .u8 0), CV.v (.int .u8 0)]).flatten = secsF (List.replicate 16 sec0) := zeros_secs 16
  have hch : chunks 8 16 ((secsF (List.replicate 16 sec0)).drop 0) = (List.replicate 16 sec0).map secC := by
    have := chunks_secs (List.replicate 16 sec0)
    rwa [List.length_replicate] at this
  rw [hz0]
  have n3 : LeL [.v (.int .i64 1), .v (.int .i64 0), .v (.slice none 0 0)] [.v (.int .i64 1), .v (.int .i64 0), secsV []] := .cons (.refl _) (.cons (.refl _) (.cons (.nil 8 (by decide)) .nil))
  have r3 : ∀ x y z : CV, LeL [x, y, z] [x, y, z] := fun x y z => .cons (.refl _) (.cons (.refl _) (.cons (.refl _) .nil))
  have f3 : ∀ x y z : CV, FyL H.length (secsF (List.replicate 16 sec0)) [x, y, z] [x, y, z] := fun x y z => .cons (.refl _) (.cons (.refl _) (.cons (.refl _) .nil))
  refine Fin.frozY (b := H.length) (cs := secsF (List.replicate 16 sec0))
    (r1 := .tup [.sl .sh 3 [[.v (.int .i64 0), .v (.int .i64 a), .bsl H.length 0 16 8], [.v (.int .i64 1), .v (.int .i64 0), secsV []], [.v (.int .i64 0), .v (.int .i64 a), .sl .sh 8 ((copyS 1 p).map secC)], [.v (.int .i64 1), .v (.int .i64 0), secsV []]], .v (.int .i64 0)])
    ⟨rfl, rfl, rfl⟩ (.tup (.cons (.sle _ _ (.cons (r3 _ _ _) (.cons n3 (.cons (r3 _ _ _) (.cons n3 .nil))))) (.cons (.refl _) .nil))) (by simp) ?_ (Nat.le_refl _) (okV_stV _ _ _) hokH (by simp) (by simp)
  refine .tup (.cons (.sl _ _ (.cons (.cons (.refl _) (.cons (.refl _) (.cons ?_ .nil))) (.cons (f3 _ _ _) (.cons (f3 _ _ _) (.cons (f3 _ _ _) .nil))))) (.cons (.refl _) .nil))
  show Fy _ _ _ (.sl .sh 8 ((List.replicate 16 sec0).map secC))
  rw [← hch]
  exact .bsl _ _ _ (by simp)
theorem sFormat_cc (H : Hp) (V : List Nat) (a : Int) (tk : Tk) (p : List UInt8) : CC Tryz.prog 72 [ci a, .sl tk 1 (bs p)] H V (Pu (stV (formatS a p)) H V) := by
  refine CC.of_swp Tryz.func72 rfl (by kernel_rfl) (by rw [Tryz.ntmps72]; exact len_le _ _ rfl) fun hok hokH => ?_
  clear hok
  have bad : ∀ (e : Nat) {H' : Hp} {V' : List Nat}, formatS a p = ([], e) → H'.take H.length = H → V'.take V.length = V → Fin H.length V.length (Pu (stV (formatS a p)) H V) (.tup [.v (.slice none 0 0), er e]) H' V' := fun e H' V' h1 h2 h3 => by
    rw [h1]
    exact Fin.pu (.tup (.cons (.nil 3 (by decide)) (.cons (.refl _) .nil))) (okV_stV _ _ _) hokH h2 h3
  refine SWp.seq (Wp.s ?_)
  simp -implicitDefEqProofs [go_sem, args0]
  refine SWp.seq (SWp.block (SWp.seq (Wp.s ?_)))
  by_cases h1 : a < 0
  · simp -implicitDefEqProofs [go_sem, h1]
    refine Wp.s ?_
    simp -implicitDefEqProofs [go_sem]
    exact bad 2 (by rw [formatS, if_pos (.inl h1)]) (by simp) (by simp)
  by_cases h2 : 4080 < a
  · simp -implicitDefEqProofs [go_sem, h1, h2]
    refine Wp.s ?_
    simp -implicitDefEqProofs [go_sem]
    exact bad 2 (by rw [formatS, if_pos (.inr h2)]) (by simp) (by simp)
  simp -implicitDefEqProofs [go_sem, h1, h2]
  refine Wp.s ?_
  by_cases h3 : 31 < p.length
  · simp -implicitDefEqProofs [go_sem, show (31 : Int) < p.length by omega]
    exact bad 5 (by rw [formatS, if_neg (by omega), if_pos h3]) (by simp) (by simp)
  simp -implicitDefEqProofs [go_sem, show ¬ (31 : Int) < p.length by omega]
  have hF : formatS a p = ([opW a (List.replicate 16 sec0), opS, opW a (copyS 1 p), opS], 0) := by rw [formatS, if_neg (by omega), if_neg h3]
  refine SWp.seq (SWp.drawnT [] [] (.s 0 .pl <| .s 3 .pl <| .s 4 .pl <| .s 5 .pl <| .s 9 .pl <| .c 6 <| .s 7 .pl <| .s 8 .pl <| .s 1 .pl <| .s 2 .pl <| .s 10 .pl <| .s 11 .pl <| .s 12 .pl <| .n) (by kernel_rfl) (by kernel_rfl) ?_)
  simp -implicitDefEqProofs [go_sem, -List.reduceReplicate]
  refine ⟨.agg [ci 1, .sl .sh 1 (bs p), secsV (copyS 1 p)], fun H V => sput_cc H V 1 tk p (by decide) (by omega), ?_⟩
  simp -implicitDefEqProofs [go_sem, -List.reduceReplicate]
  refine Wp.s ?_
  simp -implicitDefEqProofs [go_sem, -List.reduceReplicate]
  rw [hF]
  exact fmt_fin hokH
end Go.Proofs.YtmgoflhjblombaaGreatDoor
namespace Go.Proofs.YtmgoflhjblombaaGreatDoor
open Go.Proofs
def mxS (m : Nat) (l : List Sec) : Nat := l.foldl (fun m s => max m (gn s)) m
theorem mxS_take (m : Nat) (l : List Sec) (i : Nat) (h : i < l.length) : mxS m (l.take (i + 1)) = max (mxS m (l.take i)) (gn l[i]) := foldl_take_succ _ _ _ _ h
theorem mxS_app (m : Nat) (a b : List Sec) : mxS m (a ++ b) = mxS (mxS m a) b := List.foldl_append ..
theorem topS_eq (l : List Sec) : topS l = mxS 0 l := rfl
theorem mxS_lt : ∀ (l : List Sec) (m : Nat), m < 4294967296 → mxS m l < 4294967296
  | [], m, h => h
  | s :: l, m, h => mxS_lt l (max m (gn s)) (by have := gn_lt s; omega)
theorem imax (a b : Nat) : max (a : Int) (b : Int) = ((max a b : Nat) : Int) := by omega
theorem sto_fin {H H' : Hp} {V V' : List Nat} {b : Int} {s : List Sec} (hokH : ∀ (b : Nat) cs, H[b]? = some (some cs) → okL H.length V.length cs) (hH : H'.take H.length = H) (hV : V'.take V.length = V) :
    Fin H.length V.length (Pu (stV ([opW b s, opS], 0)) H V)
      (.tup [.sl .ti 3 [[.v (.int .i64 0), .v (.int .i64 b), .sl .sh 8 (s.map secC)], [.v (.int .i64 1), .v (.int .i64 0), .v (.slice none 0 0)]], .v (.int .i64 0)]) H' V' := by
  refine Fin.pu (.tup (.cons (.sle _ _ (.cons ?_ (.cons ?_ .nil))) (.cons (.refl _) .nil))) (okV_stV _ _ ([opW b s, opS], 0)) hokH hH hV
  · exact .cons (.refl _) (.cons (.refl _) (.cons (.refl _) .nil))
  · exact .cons (.refl _) (.cons (.refl _) (.cons (.nil 8 (by decide)) .nil))
theorem sStore_cc (H : Hp) (V : List Nat) (d : Dk) (a : Int) (tk : Tk) (p : List UInt8) (hl : DkS d) : CC Tryz.prog 110 [.agg (dkC d), ci a, .sl tk 1 (bs p)] H V (Pu (stV (storeS d a p)) H V) := by
  refine CC.of_swp Tryz.func110 rfl (by kernel_rfl) (by rw [Tryz.ntmps110]; exact len_le _ _ rfl) fun hok hokH => ?_
  have bad : ∀ (e : Nat) {H' : Hp} {V' : List Nat}, storeS d a p = ([], e) → H'.take H.length = H → V'.take V.length = V → Fin H.length V.length (Pu (stV (storeS d a p)) H V) (.tup [.v (.slice none 0 0), er e]) H' V' := fun e H' V' h1 h2 h3 => by
    rw [h1]
    exact Fin.pu (.tup (.cons (.nil 3 (by decide)) (.cons (.refl _) .nil))) (okV_stV _ _ _) hokH h2 h3
  refine SWp.seq (Wp.s ?_)
  simp -implicitDefEqProofs [go_sem, args0]
  refine SWp.seq (Wp.s ?_)
  simp -implicitDefEqProofs [go_sem]
  refine CC.mono (sfind_cc _ _ d a hl) ?_
  rintro _ _ _ ⟨rfl, rfl, rfl⟩
  by_cases he : findE d a = 0
  case neg =>
    have hV : findV d a = .tup [.agg (repC (0, []) [] ++ repC (0, []) []), ci 0, er (findE d a)] := by rw [findV, if_pos he]
    rw [hV]
    simp -implicitDefEqProofs [go_sem, repC]
    refine SWp.seq (Wp.s ?_)
    simp -implicitDefEqProofs [go_sem, he]
    exact bad _ (by rw [storeS, if_pos he]) (by simp) (by simp)
  by_cases hb : (best (findL d a)).1 = 0
  · have hV : findV d a = .tup [.agg (bothC (findL d a)), ci 0, er 9] := by rw [findV, if_neg (by simpa using he), if_pos hb]
    rw [hV]
    simp -implicitDefEqProofs [go_sem, bothC, repC]
    refine SWp.seq (Wp.s ?_)
    simp -implicitDefEqProofs [go_sem]
    exact bad 9 (by rw [storeS, if_neg (by simpa using he), if_pos hb]) (by simp) (by simp)
  have hV : findV d a = .tup [.agg (bothC (findL d a)), ci (new1 (findL d a)), er 0] := by rw [findV, if_neg (by simpa using he), if_neg hb]
  have hl16 := findL_len he
  have hat : 0 ≤ a ∧ a ≤ 1000000 := by
    unfold findE readD at he
    split at he
    · rename_i h1; exact absurd he h1
    · split at he
      · cases he
      · rename_i h1 h2
        have hq : insideB d a 16 = true := by simpa using h2
        simp only [insideB, Bool.and_eq_true, decide_eq_true_eq] at hq
        have := hl.1
        omega
  rw [hV]
  simp -implicitDefEqProofs [go_sem, bothC, repC]
  refine SWp.seq (Wp.s ?_)
  simp -implicitDefEqProofs [go_sem]
  refine SWp.seq (Wp.s ?_)
  by_cases h31 : 31 < p.length
  · simp -implicitDefEqProofs [go_sem, show (31 : Int) < p.length by omega]
    exact bad 5 (by rw [storeS, if_neg (by simpa using he), if_neg hb, if_pos h31]) (by simp) (by simp)
  simp -implicitDefEqProofs [go_sem, show ¬ (31 : Int) < p.length by omega]
  have hS : storeS d a p = if topS (findL d a) = 4294967295 then ([], 11) else ([opW (a + 8 - 8 * (new1 (findL d a) : Int)) (copyS (topS (findL d a) + 1) p), opS], 0) := by rw [storeS, if_neg (by simpa using he), if_neg hb, if_neg h31]
  generalize findL d a = l at *
  have hn : new1 l = 1 ∨ new1 l = 0 := by unfold new1; split <;> simp
  refine SWp.seq (Wp.s ?_)
  simp -implicitDefEqProofs [go_sem]
  have hBox : ∀ j, V.length ≤ j → okH (H.length + 2) j [some (dkC d), some (bothC l)] := fun j hj => by
    rw [okH_some, okH_some, okL_dkC]
    exact ⟨trivial, okL_app (okL_repC _ _ _ _) (okL_repC _ _ _ _), trivial⟩
  refine SWp.join (α := Unit) (fun _ => ([(1, ci a), (2, .sl tk 1 (bs p)), (9, ci (new1 l)), (11, ci (topS l))], H ++ [some (dkC d), some (bothC l)], V)) (fun _ => True) ?_ ?_
  · refine SWp.seq (Wp.s ?_)
    simp -implicitDefEqProofs [go_sem]
    refine SWp.block ?_
    refine SWp.loop (α := Nat) (fun i => ([(1, ci a), (2, .sl tk 1 (bs p)), (9, ci (new1 l)), (11, ci (mxS 0 (l.take (8 * i)))), (30, .agg (bothC l)), (31, ci i)], H ++ [some (dkC d), some (bothC l)], V)) (fun i => i ≤ 2) (fun i => 2 - i) 0 (by omega) (Sh.forget (by simp -implicitDefEqProofs [go_sem, mxS, bothC, repC]) (by simp [bothC, repC]) rfl) ?_
    intro i hi
    dsimp only
    refine SWp.seq (Wp.s ?_)
    simp -implicitDefEqProofs [go_sem]
    refine SWp.seq (Wp.s ?_)
    simp -implicitDefEqProofs [go_sem]
    refine ⟨fun h => ?_, fun h => ?_⟩
    case refine_2 =>
      obtain rfl : i = 2 := by omega
      exact Sh.forget (by simp -implicitDefEqProofs [go_sem, topS_eq, List.take_of_length_le (show l.length ≤ 8 * 2 by omega)]) rfl rfl
    have hi2 : i = 0 ∨ i = 1 := by omega
    generalize hs : (l.drop (8 * i)).take 8 = s
    have hs8 : s.length = 8 := by rw [← hs, List.length_take, List.length_drop]; omega
    have hnext : mxS (mxS 0 (l.take (8 * i))) s = mxS 0 (l.take (8 * (i + 1))) := by
      rw [← mxS_app, ← hs, ← List.take_add]
      rfl
    have hBox3 : ∀ (c : Nat × List UInt8) (j : Nat), V.length ≤ j → okH (H.length + 3) j [some (dkC d), some (bothC l), some (repC c s)] := fun c j hj => by
      rw [okH_some, okH_some, okH_some, okL_dkC]
      exact ⟨trivial, okL_app (okL_repC _ _ _ _) (okL_repC _ _ _ _), okL_repC _ _ _ _, trivial⟩
    refine SWp.seq (SWp.block (SWp.join (α := Nat × List UInt8) (fun c => ([(1, ci a), (2, .sl tk 1 (bs p)), (9, ci (new1 l)), (11, ci (mxS 0 (l.take (8 * i)))), (30, .agg (bothC l)), (31, ci i), (13, .ptr (H.length + 2) 0)], H ++ [some (dkC d), some (bothC l), some (repC c s)], V)) (fun _ => True) ?_ ?_))
    · refine Wp.s ?_
      rcases hi2 with rfl | rfl
      · simp -implicitDefEqProofs [go_sem, bothC, repC]
        refine ⟨(cA l).1, (cA l).2, Sh.forget (by simp -implicitDefEqProofs [go_sem]) ?_ rfl⟩
        rw [← hs]; rfl
      · simp -implicitDefEqProofs [go_sem, bothC, repC]
        refine ⟨(cB l).1, (cB l).2, Sh.forget (by simp -implicitDefEqProofs [go_sem]) ?_ rfl⟩
        rw [← hs, show (l.drop (8 * 1)).take 8 = l.drop 8 from List.take_of_length_le (by rw [List.length_drop]; omega)]
    rintro ⟨c1, c2⟩ -
    dsimp only
    refine SWp.seq (Wp.s ?_)
    simp -implicitDefEqProofs [go_sem, repC]
    refine SWp.block ?_
    refine SWp.loop (α := Nat) (fun k => ([(1, ci a), (2, .sl tk 1 (bs p)), (9, ci (new1 l)), (11, ci (mxS (mxS 0 (l.take (8 * i))) (s.take k))), (30, .agg (bothC l)), (31, ci i), (35, secsV s), (36, ci 8), (37, ci k)], H ++ [some (dkC d), some (bothC l), some (repC (c1, c2) s)], V)) (fun k => k ≤ 8) (fun k => 8 - k) 0 (by omega) (Sh.forget (by simp -implicitDefEqProofs [go_sem, hs8, mxS]) (by simp [repC]) rfl) ?_
    intro k hk
    dsimp only
    refine SWp.seq (Wp.s ?_)
    simp -implicitDefEqProofs [go_sem]
    refine SWp.seq (Wp.s ?_)
    simp -implicitDefEqProofs [go_sem]
    refine ⟨fun hk8 => ?_, fun hk8 => ?_⟩
    case refine_2 =>
      obtain rfl : k = 8 := by omega
      refine Wp.s ?_
      simp -implicitDefEqProofs [go_sem, wrap_succ (show i ≤ 1000000000 by omega)]
      refine ⟨i + 1, by omega, by omega, Sh.trim (L := [some (dkC d), some (bothC l)]) ?_ ?_ hokH (hBox _ (Nat.le_refl _)) (Nat.le_refl _) (by simp) (by simp)⟩
      · rw [List.take_of_length_le (show s.length ≤ 8 by omega), hnext]
        simp -implicitDefEqProofs [go_sem]
      · rw [okL, okL, okL] at hok
        simp only [TOk_cons, TOk_nil]
        exact ⟨by simp -implicitDefEqProofs [go_sem], okV_mono (by omega) (Nat.le_refl _) hok.2.2.1, by simp -implicitDefEqProofs [go_sem], by simp -implicitDefEqProofs [go_sem], by rw [okV_agg]; exact okL_app (okL_repC _ _ _ _) (okL_repC _ _ _ _), by simp -implicitDefEqProofs [go_sem], trivial⟩
    have hks : k < s.length := by omega
    refine SWp.seq (SWp.block (SWp.seq (Wp.s ?_)))
    simp -implicitDefEqProofs [go_sem, hks]
    refine Wp.s ?_
    simp -implicitDefEqProofs [go_sem]
    refine CC.mono (sgeneration_cc _ _ _) ?_
    rintro _ _ _ ⟨rfl, rfl, rfl⟩
    simp -implicitDefEqProofs [go_sem]
    refine Wp.s ?_
    simp -implicitDefEqProofs [go_sem, wrap_succ (show k ≤ 1000000000 by omega), imax]
    refine ⟨k + 1, by omega, by omega, Sh.trim (L := [some (dkC d), some (bothC l), some (repC (c1, c2) s)]) ?_ ?_ hokH (hBox3 _ _ (Nat.le_refl _)) (Nat.le_refl _) (by simp) (by simp)⟩
    · rw [mxS_take _ _ _ hks]
      simp -implicitDefEqProofs [go_sem, imax]
    · rw [okL, okL, okL] at hok
      simp only [TOk_cons, TOk_nil]
      exact ⟨by simp -implicitDefEqProofs [go_sem], okV_mono (by omega) (Nat.le_refl _) hok.2.2.1, by simp -implicitDefEqProofs [go_sem], by simp -implicitDefEqProofs [go_sem], by rw [okV_agg]; exact okL_app (okL_repC _ _ _ _) (okL_repC _ _ _ _), by simp -implicitDefEqProofs [go_sem], okV_secsV _ _ _, by simp -implicitDefEqProofs [go_sem], by simp -implicitDefEqProofs [go_sem], trivial⟩
  · rintro _ -
    dsimp only
    have htop : topS l < 4294967296 := mxS_lt _ _ (by omega)
    rw [hS]
    refine SWp.seq (Wp.s ?_)
    by_cases ht : topS l = 4294967295
    · rw [if_pos ht] at hS
      rw [← hS]
      simp -implicitDefEqProofs [go_sem, ht]
      exact bad 11 hS (by simp) (by simp)
    rw [if_neg ht]
    simp -implicitDefEqProofs [go_sem, show ¬ (topS l : Int) = 4294967295 by omega]
    refine SWp.seq (Wp.s ?_)
    have e0 : IntKind.i64.wrap (1 - (new1 l : Int)) = 1 - (new1 l : Int) := IntWalk.i64_in _ ⟨by omega, by omega⟩
    have e1 : IntKind.i64.wrap ((1 - (new1 l : Int)) * 8) = 8 - 8 * (new1 l : Int) := by rw [IntWalk.i64_in _ ⟨by omega, by omega⟩]; omega
    have e2 : IntKind.i64.wrap (a + (8 - 8 * (new1 l : Int))) = a + 8 - 8 * (new1 l : Int) := by rw [IntWalk.i64_in _ ⟨by omega, by omega⟩]; omega
    have e3 : IntKind.i64.wrap ((topS l : Int) + 1) = ((topS l + 1 : Nat) : Int) := by rw [IntWalk.i64_in _ ⟨by omega, by omega⟩]; rfl
    simp -implicitDefEqProofs [go_sem, e0]
    refine SWp.seq (Wp.s ?_)
    simp -implicitDefEqProofs [go_sem, e1, e2, e3]
    have hput := fun (H : Hp) (V : List Nat) => sput_cc H V (topS l + 1) tk p (by omega) (by omega)
    rw [Int.natCast_succ] at hput
    refine CC.mono (hput _ _) ?_
    rintro _ _ _ ⟨rfl, rfl, rfl⟩
    simp -implicitDefEqProofs [go_sem]
    refine Wp.s ?_
    simp -implicitDefEqProofs [go_sem]
    exact sto_fin hokH (by simp) (by simp)
end Go.Proofs.YtmgoflhjblombaaGreatDoor
namespace Go.Proofs.YtmgoflhjblombaaGreatDoor
open Go.Proofs
@[go_sem] theorem azTy3 : azTy Tryz.prog 3 = true := by kernel_rfl
def DecR (len n : Nat) (H : Hp) (V : List Nat) : CV → Hp → List Nat → Prop := fun r H' V' => ∃ (k : Nat) (l' : List Int), (k < n ∧ l'.length ≤ len) ∧ r = .tup [ci k, .sl .sh 1 (l'.map ic)] ∧ H = H' ∧ V = V'
theorem sdecide_cc (H : Hp) (V : List Nat) (tk : Tk) (l : List Int) (n : Nat) (h0 : 0 < n) (hn : n ≤ 2000000) : CC Tryz.prog 113 [.sl tk 1 (l.map ic), ci n] H V (DecR l.length n H V) := by
  refine CC.of_swp Tryz.func113 rfl (by kernel_rfl) (by rw [Tryz.ntmps113]; exact len_le _ _ rfl) fun hok hokH => ?_
  clear hok
  have fin : ∀ (k : Nat) (l' : List Int) (c : CV) {H' : Hp} {V' : List Nat}, k < n ∧ l'.length ≤ l.length → Le c (.sl .sh 1 (l'.map ic)) → H'.take H.length = H → V'.take V.length = V → Fin H.length V.length (DecR l.length n H V) (.tup [ci k, c]) H' V' := fun k l' c H' V' hk hc h1 h2 =>
    Fin.pure ⟨k, l', hk, rfl, rfl, rfl⟩ h1 h2 (.tup (.cons (.refl _) (.cons hc .nil))) (by rw [okV]; simp -implicitDefEqProofs [go_sem, okE_ints]) hokH
  refine SWp.seq (Wp.s ?_)
  simp -implicitDefEqProofs [go_sem, args0]
  refine SWp.seq (Wp.s ?_)
  by_cases hl : l = []
  · subst hl
    simp -implicitDefEqProofs [go_sem]
    exact fin 0 [] _ ⟨h0, Nat.le_refl _⟩ (.nil 1 (by decide)) (by simp) (by simp)
  have hlp : 0 < l.length := List.length_pos_iff.2 hl
  simp -implicitDefEqProofs [go_sem, hl, show ¬ l.length = 0 by omega]
  refine SWp.seq (SWp.drawnL (List.range 13) (by kernel_rfl) (by kernel_rfl) rfl ?_)
  simp -implicitDefEqProofs [go_sem, List.range, List.range.loop, hlp]
  have hn0 : (0 : Int) < n := by omega
  have x1 := Int.tmod_lt_of_pos l[0] hn0
  have x2 : -(n : Int) < l[0].tmod n := by
    have := Int.lt_tmod_of_pos l[0] hn0
    omega
  have hw : IntKind.i64.wrap (l[0].tmod n + n) = l[0].tmod n + n := IntWalk.i64_in _ ⟨by omega, by omega⟩
  have y1 := Int.tmod_lt_of_pos (l[0].tmod n + n) hn0
  have y2 : 0 ≤ (l[0].tmod n + n).tmod n := Int.tmod_nonneg _ (by omega)
  rw [hw]
  generalize (l[0].tmod n + n).tmod n = y at *
  obtain ⟨k, rfl⟩ := Int.eq_ofNat_of_zero_le y2
  refine ⟨by omega, by omega, Wp.s ?_⟩
  simp -implicitDefEqProofs [go_sem]
  exact fin k (l.drop 1) _ ⟨by omega, by rw [List.length_drop]; omega⟩ (.trans (.sh _ _ _) (.of_eq (by rw [List.map_drop, List.drop_one]))) (by simp) (by simp)
end Go.Proofs.YtmgoflhjblombaaGreatDoor
namespace Go.Proofs.YtmgoflhjblombaaGreatDoor
open Go.Proofs
theorem sKeys_cc (H : Hp) (V : List Nat) (b : Nat) (hb : b < H.length) : CC Tryz.prog 112 [.mv b] H V (fun r H' V' => r = .fn 124 [.ptr H.length 0] ∧ H' = H ++ [some [.mv b]] ∧ V = V') := by
  refine CC.of_swp Tryz.func112 rfl (by kernel_rfl) (by rw [Tryz.ntmps112]; exact len_le _ _ rfl) fun hok hokH => ?_
  refine SWp.seq (Wp.s ?_)
  simp -implicitDefEqProofs [go_sem, args0]
  refine Wp.s ?_
  simp -implicitDefEqProofs [go_sem]
  refine Fin.cut (H.length + 1) V.length ⟨rfl, rfl, rfl⟩ (by omega) (Nat.le_refl _) (List.take_of_length_le (by simp)) (List.take_of_length_le (Nat.le_refl _)) (.refl _) (by simp -implicitDefEqProofs [go_sem]) ?_
  intro c cs hb'
  rw [List.getElem?_append] at hb'
  split at hb'
  · exact okL_mono (by omega) (Nat.le_refl _) (hokH c cs hb')
  · exact okH_get (i := H.length + 1) (j := V.length) (L := [some [.mv b]]) (by rw [okH_some, okL, okL, okV]; exact ⟨⟨by omega, trivial⟩, trivial⟩) _ _ hb'
def uns (s l : List Nat) : Nat := (l.filter fun x => !s.contains x).length
theorem uns_le (s : List Nat) (i : Nat) : ∀ l : List Nat, uns (s ++ [i]) l ≤ uns s l
  | [] => Nat.le_refl _
  | x :: l => by
    have ih := uns_le s i l
    unfold uns at *
    rw [List.filter_cons, List.filter_cons]
    by_cases h : x ∈ s
    · have h1 : (!(s ++ [i]).contains x) = false := by simp [h]
      have h2 : (!s.contains x) = false := by simp [h]
      rw [h1, h2]; exact ih
    · have h2 : (!s.contains x) = true := by simp [h]
      rw [h2]
      split
      · rw [if_pos rfl, List.length_cons, List.length_cons]; omega
      · rw [if_pos rfl, List.length_cons]; omega
theorem uns_lt (s : List Nat) (i : Nat) (hs : i ∉ s) : ∀ l : List Nat, i ∈ l → uns (s ++ [i]) l < uns s l
  | x :: l, hi => by
    by_cases hx : x = i
    · subst hx
      have := uns_le s x l
      unfold uns at *
      rw [List.filter_cons, List.filter_cons]
      have h1 : (!(s ++ [x]).contains x) = false := by simp
      have h2 : (!s.contains x) = true := by simp [hs]
      rw [h1, h2, if_neg (by decide), if_pos rfl, List.length_cons]; omega
    · have ih := uns_lt s i hs l (by rcases List.mem_cons.1 hi with h | h; exact absurd h.symm hx; exact h)
      unfold uns at *
      rw [List.filter_cons, List.filter_cons]
      by_cases h : x ∈ s
      · have h1 : (!(s ++ [i]).contains x) = false := by simp [h]
        have h2 : (!s.contains x) = false := by simp [h]
        rw [h1, h2]; exact ih
      · have h1 : (!(s ++ [i]).contains x) = true := by simp [h, hx]
        have h2 : (!s.contains x) = true := by simp [h]
        rw [h1, h2, if_pos rfl, if_pos rfl, List.length_cons, List.length_cons]; omega
theorem skeys1_cc (H : Hp) (V : List Nat) (L b2 b : Nat) (ks : List Int) (vs : List CV) (I : List Nat → Hp → List Nat → Prop)
    (hb2 : H[b2]? = some (some [.mv b])) (hb : H[b]? = some (some [.objm ks vs]))
    (h0 : I [] (H ++ [some [.obji b ks.length []]]) V)
    (hI : ∀ s G W, I s G W → G[H.length]? = some (some [.obji b ks.length s]) ∧ G[b]? = some (some [.objm ks vs]) ∧ ∀ i ∈ s, i < ks.length)
    (hy : ∀ s i G W, I s G W → (h : i < ks.length) → i ∉ s → YC Tryz.prog L [ci (ks[i])] (G.set H.length (some [.obji b ks.length (s ++ [i])])) W (fun r G' W' => r = .v (.bool true) ∧ I (s ++ [i]) G' W')) :
    CC Tryz.prog 124 [.yl L, .ptr b2 0] H V (fun _ H' V' => ∃ s, I s H' V') := by
  refine CC.of_swp Tryz.func124 rfl (by kernel_rfl) (by rw [Tryz.ntmps124]; exact len_le _ _ rfl) fun hok hokH => ?_
  clear hok
  refine SWp.seq (Wp.s ?_)
  simp -implicitDefEqProofs [go_sem, args0, hbx_of hb2, hbm_some hb]
  refine SWp.block ?_
  refine SWp.loop (α := List Nat × Hp × List Nat) (fun x => ([(0, .yl L), (5, .it H.length)], x.2.1, x.2.2)) (fun x => I x.1 x.2.1 x.2.2) (fun x => uns x.1 (List.range ks.length)) ([], _, V) h0 (Sh.forget (by simp -implicitDefEqProofs [go_sem]) rfl rfl) ?_
  rintro ⟨s, G, W⟩ hi
  dsimp only at hi ⊢
  obtain ⟨g1, g2, g3⟩ := hI _ _ _ hi
  refine SWp.seq (Wp.s ?_)
  simp -implicitDefEqProofs [go_sem]
  unfold cnext
  dsimp only
  refine ⟨rfl, b, ks.length, s, ks, vs, g1, g2, rfl, g3, fun hall => ?_, fun i hil hni => ?_⟩
  · simp -implicitDefEqProofs [go_sem]
    refine SWp.seq (Wp.s ?_)
    simp -implicitDefEqProofs [go_sem]
    exact Fin.self ⟨s, hi⟩
  · have hbl : b < H.length := by
      rcases Nat.lt_or_ge b H.length with h | h
      · exact h
      · rw [List.getElem?_eq_none h] at hb; cases hb
    have hql : H.length < G.length := (List.getElem?_eq_some_iff.1 g1).1
    have q1 : (G.set H.length (some [.obji b ks.length (s ++ [i])]))[H.length]? = some (some [.obji b ks.length (s ++ [i])]) := List.getElem?_set_self hql
    have q2 : (G.set H.length (some [.obji b ks.length (s ++ [i])]))[b]? = some (some [.objm ks vs]) := by rw [List.getElem?_set_ne (by omega)]; exact g2
    simp -implicitDefEqProofs [go_sem]
    refine SWp.seq (Wp.s ?_)
    simp -implicitDefEqProofs [go_sem]
    refine SWp.block (SWp.seq (Wp.s ?_))
    simp -implicitDefEqProofs [go_sem]
    unfold centry
    dsimp only
    refine ⟨b, ks.length, s, i, ks, vs, q1, q2, rfl, hil, ?_⟩
    rw [List.getElem?_eq_getElem hil, Option.getD_some]
    simp -implicitDefEqProofs [go_sem]
    refine SWp.seq (Wp.s ?_)
    simp -implicitDefEqProofs [go_sem]
    refine YC.mono (hy s i G W hi hil hni) ?_
    rintro _ G2 W2 ⟨rfl, hi2⟩
    simp -implicitDefEqProofs [go_sem]
    refine Wp.s ?_
    simp -implicitDefEqProofs [go_sem]
    exact ⟨s ++ [i], G2, W2, hi2, uns_lt s i hni _ (by simpa using hil), Sh.forget (by simp -implicitDefEqProofs [go_sem]) rfl rfl⟩
def Cl (h : Nat) (ks : List Int) (cv : CV) (xs : List Int) (W : Hp) : Prop :=
  (∀ x ∈ xs, x ∈ ks) ∧ ((cv = .sl .ti 1 [] ∧ xs = []) ∨ ∃ j, cv = .bsa (h + (j + 3)) xs.length 1 ∧ W[j]? = some (some (xs.map ci)))
theorem Cl.one {h : Nat} {ks : List Int} {cv : CV} {xs : List Int} {W : Hp} (h : Cl h ks cv xs W) : cv.one = true := by
  rcases h.2 with ⟨rfl, _⟩ | ⟨b, rfl, _⟩ <;> rfl
def ColR (ks : List Int) (H : Hp) (V : List Nat) : CV → Hp → List Nat → Prop := fun r H' V' => ∃ (xs : List Int) (W : Hp), H' = H ++ W ∧ V' = V ∧ (∀ x ∈ xs, x ∈ ks) ∧ xs.length ≤ ks.length ∧ ((r = .sl .ti 1 [] ∧ xs = []) ∨ ∃ j, r = .bsa (H.length + j) xs.length 1 ∧ W[j]? = some (some (xs.map ci)))
@[go_sem] theorem hbx_W3 (H W : Hp) (a0 a1 a2 : Option (List CV)) (j : Nat) (K : List CV → Prop) : hbx (H ++ (a0 :: a1 :: a2 :: W)) (H.length + (j + 3)) K = hbx W j K := by
  unfold hbx
  have : (H ++ (a0 :: a1 :: a2 :: W))[H.length + (j + 3)]? = W[j]? := by
    rw [hget]; simp only [List.getElem?_cons_succ]
  rw [this]
theorem set_W3 (H W : Hp) (a0 a1 a2 : Option (List CV)) (j : Nat) (y : Option (List CV)) : (H ++ (a0 :: a1 :: a2 :: W)).set (H.length + (j + 3)) y = H ++ (a0 :: a1 :: a2 :: W.set j y) := by
  rw [List.set_append_right _ _ (by omega), Nat.add_sub_cancel_left]; rfl
theorem sAppendSeq_cc (H : Hp) (V : List Nat) (b2 b : Nat) (ks : List Int) (vs : List CV) (hb2 : H[b2]? = some (some [.mv b])) (hb : H[b]? = some (some [.objm ks vs])) (hkl : ks.length ≤ 1000000) :
    CC Tryz.prog 129 [.sl .ti 1 [], .fn 124 [.ptr b2 0]] H V (ColR ks H V) := by
  refine CC.of_swp0 Tryz.func129 rfl (by kernel_rfl) (by rw [Tryz.ntmps129]; exact len_le _ _ rfl) fun hok hokH => ?_
  have hb2l := (List.getElem?_eq_some_iff.1 hb2).1
  have hbl := (List.getElem?_eq_some_iff.1 hb).1
  refine SWp0.seq (SWp.s0 (Wp.s ?_))
  simp -implicitDefEqProofs [go_sem, args0]
  refine SWp0.join (α := CV × List Int × Option (List CV) × Hp) (fun x => ([(2, .ptr H.length 0)], H ++ (some [x.1] :: none :: x.2.2.1 :: x.2.2.2), V)) (fun x => Cl H.length ks x.1 x.2.1 x.2.2.2 ∧ x.2.1.length ≤ ks.length) ?_ ?_
  · refine SWp0.seq (SWp.s0 (Wp.s ?_))
    simp -implicitDefEqProofs [go_sem]
    refine SWp0.block (SWp0.range [(2, .ptr H.length 0)] rfl (by simp -implicitDefEqProofs [go_sem]) ?_)
    simp -implicitDefEqProofs [go_sem]
    generalize hbd : Code.block 1 _ = bd
    generalize has : Code.region 2 _ _ = asg
    refine CC.mono (skeys1_cc _ V _ b2 b ks vs (fun s G W => W = V ∧ ∃ cv xs Wg, G = H ++ (some [cv] :: some [lpc 13 #[7] asg bd [(2, .ptr H.length 0)] .ready none] :: some [.obji b ks.length s] :: Wg) ∧ Cl H.length ks cv xs Wg ∧ (∀ i ∈ s, i < ks.length) ∧ xs.length + uns s (List.range ks.length) ≤ ks.length) ?_ ?_ ?_ ?_ ?_) ?_
    · rw [List.getElem?_append_left hb2l]; exact hb2
    · rw [List.getElem?_append_left hbl]; exact hb
    · exact ⟨rfl, .sl .ti 1 [], [], [], by simp, ⟨by simp, .inl ⟨rfl, rfl⟩⟩, by simp, by have := List.length_filter_le (fun x => !([] : List Nat).contains x) (List.range ks.length); rw [List.length_range] at this; simpa [uns] using this⟩
    · rintro s _ _ ⟨rfl, cv, xs, Wg, rfl, hc, hs, hu⟩
      exact ⟨by rw [List.length_append]; exact hget H _ 2, by rw [List.getElem?_append_left hbl]; exact hb, hs⟩
    · rintro s i _ V1 ⟨rfl, cv, xs, Wg, rfl, hc, hs, hu⟩ hil hni
      have e : List.set (H ++ (some [cv] :: some [lpc 13 #[7] asg bd [(2, .ptr H.length 0)] .ready none] :: some [.obji b ks.length s] :: Wg)) (H ++ [some [.sl .ti 1 []], some [lpc 13 #[7] asg bd [(2, .ptr H.length 0)] .ready none]]).length (some [.obji b ks.length (s ++ [i])]) =
          H ++ (some [cv] :: some [lpc 13 #[7] asg bd [(2, .ptr H.length 0)] .ready none] :: some [.obji b ks.length (s ++ [i])] :: Wg) := by
        rw [List.length_append, List.set_append_right _ _ (by omega), Nat.add_sub_cancel_left]; rfl
      rw [e]
      have hsi : ∀ j ∈ s ++ [i], j < ks.length := by
        intro j hj
        rcases List.mem_append.1 hj with hj | hj
        · exact hs j hj
        · rw [List.mem_singleton.1 hj]; exact hil
      have hsi' : ∀ j, j ∈ s ∨ j = i → j < ks.length := fun j hj => hsi j (by simpa using hj)
      have hlt := uns_lt s i hni (List.range ks.length) (by simpa using hil)
      have hki : ks[i] ∈ ks := List.getElem_mem hil
      refine YC.of_round (n := 13) (ps := #[7]) (bd := bd) (T := [(2, .ptr H.length 0)]) (hget _ _ 1) rfl (by decide) ?_
      subst hbd has
      refine Wp.s ?_
      simp -implicitDefEqProofs [go_sem, tps]
      generalize hlp : lpc 13 #[7] _ _ _ LoopState.busy none = lp
      generalize hqq : RQ 13 #[7] _ _ _ _ _ = QQ
      rcases hc with ⟨hx0, ⟨rfl, rfl⟩ | ⟨j, rfl, hj⟩⟩
      · refine SWp.block (SWp.opx (pre := [_, _, _]) (post := [_]) rfl (by intro c e; cases e) ?_)
        simp -implicitDefEqProofs [go_sem]
        refine ⟨_, _, _, appbox (sz := 1) (tk := .ti) (ys := [[ci ks[i]]]) slTy29 slTy29 rfl rfl (by simp) (by simp), ?_⟩
        simp -implicitDefEqProofs [go_sem]
        rw [← hqq, ← hlp]
        refine ⟨hget _ _ 1, rfl, rfl, .bsa (H.length + (Wg.length + 3)) 1 1, [ks[i]], Wg ++ [some [ci ks[i]]], ?_, ⟨fun x hx => by rw [List.mem_singleton.1 hx]; exact hki, .inr ⟨Wg.length, rfl, by simp⟩⟩, hsi', by simp at hu ⊢; omega⟩
        rw [List.set_append_right _ _ (by omega), Nat.add_sub_cancel_left]
        simp
      · refine SWp.block (Wp.s ?_)
        simp -implicitDefEqProofs [go_sem, hbx_of hj, set_W3]
        rw [← hqq, ← hlp]
        refine ⟨by omega, hget _ _ 1, rfl, rfl, .bsa (H.length + (Wg.length + 3)) (xs ++ [ks[i]]).length 1, xs ++ [ks[i]], Wg.set j none ++ [some ((xs ++ [ks[i]]).map ci)], ?_, ⟨fun x hx => ?_, .inr ⟨Wg.length, rfl, by simp⟩⟩, hsi', by simp; omega⟩
        · rw [List.set_append_right _ _ (by omega), Nat.add_sub_cancel_left]
          simp
        · rcases List.mem_append.1 hx with hx | hx'
          · exact hx0 x hx
          · rw [List.mem_singleton.1 hx']; exact hki
    · rintro _ _ _ ⟨s, rfl, cv, xs, Wg, rfl, hc, hs, hu⟩
      refine .inl ⟨hget _ _ 1, ?_⟩
      refine ⟨cv, xs, some [.obji b ks.length s], Wg, ⟨hc, by omega⟩, Sh.forget (by simp -implicitDefEqProofs [go_sem]) ?_ rfl⟩
      rw [List.set_append_right _ _ (by omega), Nat.add_sub_cancel_left]; rfl
  · rintro ⟨cv, xs, ob, Wg⟩ ⟨hc, hxl⟩
    dsimp only at hc hxl ⊢
    refine SWp0.seq (SWp.s0 (Wp.s ?_))
    simp -implicitDefEqProofs [go_sem]
    refine SWp.s0 (Wp.s ?_)
    simp -implicitDefEqProofs [go_sem]
    refine Fin.self ⟨xs, _, rfl, rfl, hc.1, hxl, ?_⟩
    rcases hc.2 with ⟨rfl, rfl⟩ | ⟨j, rfl, hj⟩
    · exact .inl ⟨rfl, rfl⟩
    · exact .inr ⟨j + 3, rfl, hj⟩
end Go.Proofs.YtmgoflhjblombaaGreatDoor
namespace Go.Proofs.YtmgoflhjblombaaGreatDoor
open Go.Proofs
theorem sCollect_cc (H : Hp) (V : List Nat) (b2 b : Nat) (ks : List Int) (vs : List CV) (hb2 : H[b2]? = some (some [.mv b])) (hb : H[b]? = some (some [.objm ks vs])) (hkl : ks.length ≤ 1000000) :
    CC Tryz.prog 122 [.fn 124 [.ptr b2 0]] H V (ColR ks H V) := by
  refine CC.of_swp Tryz.func122 rfl (by kernel_rfl) (by rw [Tryz.ntmps122]; exact len_le _ _ rfl) fun hok hokH => ?_
  clear hok
  refine SWp.seq (Wp.s ?_)
  simp -implicitDefEqProofs [go_sem, args0]
  refine SWp.seq (Wp.s ?_)
  simp -implicitDefEqProofs [go_sem]
  refine CC.le (.cons (.nilti 1 (by decide)) (.cons (.refl _) .nil)) (CC.mono (sAppendSeq_cc _ _ b2 b ks vs hb2 hb hkl) ?_)
  rintro r _ _ ⟨xs, W, rfl, rfl, h1, hxl, h2⟩
  simp -implicitDefEqProofs [go_sem]
  refine Wp.s ?_
  simp -implicitDefEqProofs [go_sem]
  exact Fin.self ⟨xs, W, rfl, rfl, h1, hxl, h2⟩
structure SortOK : Prop where
  box : ∀ (H : Hp) (V : List Nat) (b : Nat) (xs : List Int), H[b]? = some (some (xs.map ci)) → xs.length ≤ 1000000 →
    CC Tryz.prog 123 [.bsa b xs.length 1] H V (fun _ H' V' => ∃ ys : List Int, (∀ y ∈ ys, y ∈ xs) ∧ ys.length = xs.length ∧ H' = H.set b (some (ys.map ci)) ∧ V' = V)
  none : ∀ (H : Hp) (V : List Nat), CC Tryz.prog 123 [.sl .ti 1 []] H V (fun _ H' V' => H' = H ∧ V' = V)
def SrtR (ks : List Int) (H : Hp) (V : List Nat) : CV → Hp → List Nat → Prop := fun r H' V' => ∃ ys : List Int, (∀ y ∈ ys, y ∈ ks) ∧ ys.length ≤ 1000000 ∧ r = .sl .sh 1 (ys.map ic) ∧ H' = H ∧ V' = V
theorem chunks_ci : ∀ ys : List Int, chunks 1 ys.length (ys.map ci) = ys.map ic
  | [] => rfl
  | y :: ys => by
    rw [List.length_cons, chunks]
    exact congrArg (_ :: ·) (chunks_ci ys)
theorem sSorted_cc (hs : SortOK) (H : Hp) (V : List Nat) (b2 b : Nat) (ks : List Int) (vs : List CV) (hb2 : H[b2]? = some (some [.mv b])) (hb : H[b]? = some (some [.objm ks vs])) (hkl : ks.length ≤ 1000000) :
    CC Tryz.prog 111 [.fn 124 [.ptr b2 0]] H V (SrtR ks H V) := by
  refine CC.of_swp Tryz.func111 rfl (by kernel_rfl) (by rw [Tryz.ntmps111]; exact len_le _ _ rfl) fun hok hokH => ?_
  clear hok
  refine SWp.seq (Wp.s ?_)
  simp -implicitDefEqProofs [go_sem, args0]
  refine SWp.seq (Wp.s ?_)
  simp -implicitDefEqProofs [go_sem]
  refine CC.mono (sCollect_cc _ _ b2 b ks vs hb2 hb hkl) ?_
  rintro r _ _ ⟨xs, W, rfl, rfl, h1, hxl, ⟨rfl, rfl⟩ | ⟨j, rfl, hj⟩⟩
  · simp -implicitDefEqProofs [go_sem]
    refine SWp.seq (Wp.s ?_)
    simp -implicitDefEqProofs [go_sem]
    refine CC.mono (hs.none _ _) ?_
    rintro _ _ _ ⟨rfl, rfl⟩
    simp -implicitDefEqProofs [go_sem]
    refine Wp.s ?_
    simp -implicitDefEqProofs [go_sem]
    exact Fin.pure (r' := .sl .sh 1 []) ⟨[], by simp, by simp, rfl, rfl, rfl⟩ (by simp) (by simp) (.sh _ _ _) (by simp -implicitDefEqProofs [go_sem]) hokH
  · simp -implicitDefEqProofs [go_sem]
    refine SWp.seq (Wp.s ?_)
    simp -implicitDefEqProofs [go_sem]
    have hj' : (H ++ W)[H.length + j]? = some (some (xs.map ci)) := by rw [hget]; exact hj
    refine CC.mono (hs.box _ _ _ xs hj' (by omega)) ?_
    rintro _ _ _ ⟨ys, hy1, hy2, rfl, rfl⟩
    simp -implicitDefEqProofs [go_sem]
    refine Wp.s ?_
    simp -implicitDefEqProofs [go_sem]
    have hjl := (List.getElem?_eq_some_iff.1 hj').1
    refine Fin.froz (b := H.length + j) (o := 0) (n := xs.length) (sz := 1) (cs := ys.map ci) (xs := ys.map ic) ⟨ys, fun y hy => h1 y (hy1 y hy), ?_, rfl, rfl, rfl⟩ (.bsa _ _ _) (by rw [hget]; exact List.getElem?_set_self (List.getElem?_eq_some_iff.1 hj).1) ?_ ?_ (by omega) (by rw [okE_ints]; trivial) hokH ?_ (by simp)
    · omega
    · rw [List.drop_zero, ← hy2, chunks_ci]
    · rw [List.length_map]; omega
    · simp
end Go.Proofs.YtmgoflhjblombaaGreatDoor
namespace Go.Proofs.YtmgoflhjblombaaGreatDoor
open Go.Proofs
theorem scloneI_cc (H : Hp) (V : List Nat) (tk : Tk) (l : List Int) (hx : l.length ≤ 1000000000) : CC Tryz.prog 114 [.sl tk 1 (l.map ic)] H V (Fr 1 (l.map ic) H V) := by
  refine CC.of_swp Tryz.func114 rfl (by kernel_rfl) (by rw [Tryz.ntmps114]; exact len_le _ _ rfl) fun hok hokH => ?_
  clear hok
  refine SWp.seq (Wp.s ?_)
  simp -implicitDefEqProofs [go_sem, args0]
  refine SWp.seq (Wp.s ?_)
  simp -implicitDefEqProofs [go_sem]
  refine ⟨Wp.s ?_, fun e => Fin.frtok (by decide) (.inl ⟨rfl, by rw [e]; rfl⟩) (by simp -implicitDefEqProofs [go_sem, okE_ints]) hokH (by simp) (by simp)⟩
  simp -implicitDefEqProofs [go_sem]
  exact ⟨by omega, Fin.fr (by simp -implicitDefEqProofs [go_sem, okE_ints]) hokH (by simp)⟩
def Mix (d d' : Dk) : Prop := d'.cache = [] ∧ d'.stable.length = d.stable.length ∧ ∀ (i : Nat) (h : i < d'.stable.length), (∃ h' : i < d.stable.length, d'.stable[i] = d.stable[i]) ∨ ∃ c ∈ d.cache, c.pos = (i : Int) ∧ d'.stable[i] = c.data
def MixS (d : Dk) (ss : List Sec) : Prop := ss.length = d.stable.length ∧ ∀ (i : Nat) (h : i < ss.length), (∃ h' : i < d.stable.length, ss[i] = d.stable[i]) ∨ ∃ c ∈ d.cache, c.pos = (i : Int) ∧ ss[i] = c.data
theorem MixS.put {d : Dk} {ss : List Sec} {c : Cach} {n : Nat} (h : MixS d ss) (hc : c ∈ d.cache) (hn : c.pos = (n : Int)) : MixS d (ss.set n c.data) := by
  obtain ⟨h1, h2⟩ := h
  refine ⟨by rw [List.length_set]; exact h1, fun i hi => ?_⟩
  rw [List.length_set] at hi
  rw [List.getElem_set]
  split
  · rename_i e; subst e; exact .inr ⟨c, hc, hn, rfl⟩
  · exact h2 i hi
structure Vrs where
  key : Int
  tok : Nat
  ver : Nat
  secs : List Sec
def entV (e : Vrs) : CV := .sl (.own e.tok e.ver) 8 (e.secs.map secC)
def EOk (nv : Nat) (cs : List Cach) (es : List Vrs) (V : List Nat) : Prop :=
  (es.map Vrs.tok).Nodup ∧ (∀ e ∈ es, V[e.tok]? = some e.ver ∧ nv ≤ e.tok ∧ e.secs.length ≤ cs.length ∧ (∃ c ∈ cs, c.pos = e.key) ∧ ∀ s ∈ e.secs, ∃ c ∈ cs, c.pos = e.key ∧ c.data = s) ∧ es.length ≤ cs.length
theorem EOk.new {nv : Nat} {cs : List Cach} {es : List Vrs} {V : List Nat} {c : Cach} (he : EOk nv cs es V) (hv : nv ≤ V.length) : EOk nv (cs ++ [c]) (es ++ [⟨c.pos, V.length, 0, [c.data]⟩]) (V ++ [0]) := by
  obtain ⟨h1, h2, h3⟩ := he
  have hlt : ∀ e ∈ es, e.tok < V.length := fun e m => (List.getElem?_eq_some_iff.1 (h2 e m).1).1
  refine ⟨?_, ?_, by simp; omega⟩
  · rw [List.map_append, List.nodup_append]
    refine ⟨h1, by simp, ?_⟩
    intro a ha b hb
    simp only [List.map_cons, List.map_nil, List.mem_singleton] at hb
    obtain ⟨e, m, rfl⟩ := List.mem_map.1 ha
    have := hlt e m
    omega
  · intro e m
    rcases List.mem_append.1 m with m | m
    · obtain ⟨q1, q2, q3, ⟨c', q4, q5⟩, q6⟩ := h2 e m
      refine ⟨by rw [List.getElem?_append_left (hlt e m)]; exact q1, q2, by simp; omega, ⟨c', List.mem_append_left _ q4, q5⟩, fun s hs => ?_⟩
      obtain ⟨c2, r1, r2⟩ := q6 s hs
      exact ⟨c2, List.mem_append_left _ r1, r2⟩
    · rw [List.mem_singleton] at m
      subst m
      refine ⟨by simp, hv, by simp, ⟨c, by simp, rfl⟩, fun s hs => ⟨c, by simp, rfl, ?_⟩⟩
      simp only [List.mem_singleton] at hs
      exact hs.symm
theorem EOk.more {nv : Nat} {cs : List Cach} {es : List Vrs} {V : List Nat} {c : Cach} {j : Nat} (he : EOk nv cs es V) (hj : j < es.length) (hk : es[j].key = c.pos) : EOk nv (cs ++ [c]) (es.set j ⟨es[j].key, es[j].tok, es[j].ver + 1, es[j].secs ++ [c.data]⟩) (V.set es[j].tok (es[j].ver + 1)) := by
  obtain ⟨h1, h2, h3⟩ := he
  have hlt : ∀ e ∈ es, e.tok < V.length := fun e m => (List.getElem?_eq_some_iff.1 (h2 e m).1).1
  have hm : (es.set j ⟨es[j].key, es[j].tok, es[j].ver + 1, es[j].secs ++ [c.data]⟩).map Vrs.tok = es.map Vrs.tok := by
    rw [List.map_set]
    exact List.ext_getElem (by simp) fun n a b => by
      rw [List.getElem_set]
      split
      · rename_i e; subst e; simp
      · rfl
  refine ⟨by rw [hm]; exact h1, ?_, by simp; omega⟩
  intro e m
  obtain ⟨k, hk2, rfl⟩ := List.getElem_of_mem m
  simp only [List.length_set] at hk2
  rw [List.getElem_set]
  split
  · rename_i e; subst e
    obtain ⟨q1, q2, q3, ⟨c', q4, q5⟩, q6⟩ := h2 es[j] (List.getElem_mem hj)
    refine ⟨by rw [List.getElem?_set_self (hlt _ (List.getElem_mem hj))], q2, by simp; omega, ⟨c, by simp, hk.symm⟩, fun s hs => ?_⟩
    rcases List.mem_append.1 hs with hs | hs
    · obtain ⟨c2, r1, r2⟩ := q6 s hs
      exact ⟨c2, List.mem_append_left _ r1, r2⟩
    · simp only [List.mem_singleton] at hs
      exact ⟨c, by simp, hk.symm, hs.symm⟩
  · rename_i hne
    obtain ⟨q1, q2, q3, ⟨c', q4, q5⟩, q6⟩ := h2 es[k] (List.getElem_mem hk2)
    have hnt : es[j].tok ≠ es[k].tok := fun e => hne (by
      have hp := List.pairwise_iff_getElem.1 h1
      rcases Nat.lt_trichotomy j k with q | q | q
      · exact (hp j k (by simpa using hj) (by simpa using hk2) q (by simpa using e)).elim
      · exact q
      · exact (hp k j (by simpa using hk2) (by simpa using hj) q (by simpa using e.symm)).elim)
    refine ⟨by rw [List.getElem?_set_ne hnt]; exact q1, q2, by simp; omega, ⟨c', List.mem_append_left _ q4, q5⟩, fun s hs => ?_⟩
    obtain ⟨c2, r1, r2⟩ := q6 s hs
    exact ⟨c2, List.mem_append_left _ r1, r2⟩
theorem EOk.okL {nv nb : Nat} {cs : List Cach} {es : List Vrs} {V : List Nat} (he : EOk nv cs es V) : Go.Proofs.YtmgoflhjblombaaGreatDoor.okL nb V.length (es.map entV) := by
  rw [okL_iff]
  intro x hx
  obtain ⟨e, m, rfl⟩ := List.mem_map.1 hx
  have hlt : e.tok < V.length := (List.getElem?_eq_some_iff.1 (he.2.1 e m).1).1
  simp -implicitDefEqProofs [go_sem, entV, hlt, okE_secs]
def CrR (d : Dk) (n : Nat) (H : Hp) (V : List Nat) : CV → Hp → List Nat → Prop := fun r H' V' => ∃ (d' : Dk) (l' : List Int), (Mix d d' ∧ l'.length ≤ n) ∧ r = .tup [.agg (dkC d'), .sl .sh 1 (l'.map ic)] ∧ H' = H ∧ V' = V
theorem sCrash_cc (hs : SortOK) (H : Hp) (V : List Nat) (d : Dk) (tk : Tk) (l : List Int) (hd : DkS d) (hc : checkD d = 0) (hll : l.length ≤ 1000000) : CC Tryz.prog 96 [.agg (dkC d), .sl tk 1 (l.map ic)] H V (CrR d l.length H V) := by
  refine CC.of_swp Tryz.func96 rfl (by kernel_rfl) (by rw [Tryz.ntmps96]; exact len_le _ _ rfl) fun hok hokH => ?_
  have htk : ∀ {a b : Nat}, H.length ≤ a → V.length ≤ b → okV a b (.sl tk 1 (l.map ic)) := fun ha hb => okV_mono ha hb (okL_iff.1 hok _ (by simp))
  clear hok
  have hl1 := hd.1
  have hl2 := hd.2
  refine SWp.seq (Wp.s ?_)
  simp -implicitDefEqProofs [go_sem, args0]
  refine SWp.seq (Wp.s ?_)
  simp -implicitDefEqProofs [go_sem]
  refine CC.mono (sCheck_cc _ _ d hd) ?_
  rintro _ _ _ ⟨rfl, rfl, rfl⟩
  simp -implicitDefEqProofs [go_sem, hc]
  refine SWp.seq (Wp.s ?_)
  simp -implicitDefEqProofs [go_sem]
  refine SWp.join (α := List Vrs × List Nat) (fun x => ([(1, .sl tk 1 (l.map ic)), (2, .ptr H.length 0), (4, .ptr (H.length + 1) 0), (6, .mv (H.length + 2))], H ++ [some (dkC d), some [.v (.slice none 0 0), .v (.slice none 0 0)], some [.objm (x.1.map Vrs.key) (x.1.map entV)]], x.2))
    (fun x => EOk V.length d.cache x.1 x.2 ∧ V.length ≤ x.2.length ∧ x.2.take V.length = V) ?_ ?_
  · refine SWp.seq (Wp.s ?_)
    simp -implicitDefEqProofs [go_sem]
    refine SWp.block ?_
    refine SWp.loop (α := Nat × List Vrs × List Nat) (fun x => ([(1, .sl tk 1 (l.map ic)), (2, .ptr H.length 0), (4, .ptr (H.length + 1) 0), (6, .mv (H.length + 2)), (21, cachV d.cache), (22, ci d.cache.length), (23, ci x.1)], H ++ [some (dkC d), some [.v (.slice none 0 0), .v (.slice none 0 0)], some [.objm (x.2.1.map Vrs.key) (x.2.1.map entV)]], x.2.2))
      (fun x => x.1 ≤ d.cache.length ∧ EOk V.length (d.cache.take x.1) x.2.1 x.2.2 ∧ V.length ≤ x.2.2.length ∧ x.2.2.take V.length = V) (fun x => d.cache.length - x.1) (0, [], V) ⟨Nat.zero_le _, ⟨by simp, by simp, by simp⟩, Nat.le_refl _, by simp⟩ (Sh.forget (by simp -implicitDefEqProofs [go_sem]) (by simp) rfl) ?_
    rintro ⟨i, es, V'⟩ ⟨hi, he, hv1, hv2⟩
    dsimp only at hi he hv1 hv2 ⊢
    refine SWp.seq (Wp.s ?_)
    simp -implicitDefEqProofs [go_sem]
    refine SWp.seq (Wp.s ?_)
    simp -implicitDefEqProofs [go_sem]
    refine ⟨fun h => ?_, fun h => ⟨es, V', ⟨by rw [List.take_of_length_le h] at he; exact he, hv1, hv2⟩, Sh.forget (by simp -implicitDefEqProofs [go_sem]) rfl rfl⟩⟩
    refine SWp.seq (SWp.block (SWp.seq (Wp.s ?_)))
    simp -implicitDefEqProofs [go_sem, h]
    refine SWp.drawnT [H.length + 3] [11] (.s 0 .pl <| .s 1 .pl <| .s 2 .ld <| .s 3 .pl <| .s 4 .pl <| .s 5 .ld <| .s 7 .pl <| .s 8 .ld <| .s 9 .pl <| .s 6 .pl <| .s 10 .pl <| .s 11 .st <| .n) (by kernel_rfl) (by kernel_rfl) ?_
    simp -implicitDefEqProofs [go_sem]
    rw [hbm_some (hget H _ 2)]
    rcases hk : keyAt (es.map Vrs.key) d.cache[i].pos with _ | j
    · simp -implicitDefEqProofs only [mlook, hk]
      simp -implicitDefEqProofs [go_sem]
      rw [hbm_some (hget H _ 2)]
      simp -implicitDefEqProofs only [mput, hk]
      refine ⟨fun b hb cs q => by rw [List.mem_singleton] at hb; subst hb; rw [hget] at q ⊢; exact q, Wp.s ?_⟩
      simp -implicitDefEqProofs [go_sem, wrap_succ (show i ≤ 1000000000 by omega)]
      have hn := he.new (c := d.cache[i]) hv1
      refine ⟨i + 1, _, _, ⟨by omega, by rw [List.take_succ_eq_append_getElem h]; exact hn, by simp; omega, by rw [List.take_append_of_le_length hv1]; exact hv2⟩, by omega, Sh.trim (L := [some (dkC d), some [.v (.slice none 0 0), .v (.slice none 0 0)], some [.objm _ _]]) ?_ ?_ hokH ?_ (by simp; omega) ?_ (List.take_of_length_le (Nat.le_refl _))⟩
      · simp -implicitDefEqProofs [go_sem]
      · exact ⟨htk (by simp) (by simp; omega), by simp -implicitDefEqProofs [go_sem]; rw [okV]; omega⟩
      · rw [okH_some, okH_some, okH_some]
        refine ⟨by simp -implicitDefEqProofs [go_sem], by simp -implicitDefEqProofs [go_sem], ?_, trivial⟩
        rw [okL, okV, okL]
        exact ⟨hn.okL, trivial⟩
      · simp [List.take_append, entV]
        exact List.take_of_length_le (by simp)
    · obtain ⟨hj, hjn⟩ := keyAt_lt hk
      simp only [List.length_map] at hj
      have hje := he.2.1 es[j] (List.getElem_mem hj)
      simp -implicitDefEqProofs only [mlook, hk, List.getElem?_map, List.getElem?_eq_getElem hj, Option.map_some, Option.getD_some, entV]
      simp -implicitDefEqProofs [go_sem, hje.1]
      refine ⟨by have := hje.2.2.1; have := List.length_take_le i d.cache; omega, ?_⟩
      rw [hbm_some (hget H _ 2)]
      simp -implicitDefEqProofs only [mput, hk]
      refine ⟨fun b hb cs q => by rw [List.mem_singleton] at hb; subst hb; rw [hget] at q ⊢; exact q, Wp.s ?_⟩
      simp -implicitDefEqProofs [go_sem, wrap_succ (show i ≤ 1000000000 by omega)]
      have hkj : es[j].key = d.cache[i].pos := by
        rw [List.getElem?_map, List.getElem?_eq_getElem hj] at hjn
        exact Option.some.inj hjn
      have hn := he.more (c := d.cache[i]) hj hkj
      refine ⟨i + 1, _, _, ⟨by omega, by rw [List.take_succ_eq_append_getElem h]; exact hn, by simp; omega, by rw [List.take_set_of_le hje.2.1]; exact hv2⟩, by omega, Sh.trim (L := [some (dkC d), some [.v (.slice none 0 0), .v (.slice none 0 0)], some [.objm _ _]]) ?_ ?_ hokH ?_ (by simp; omega) ?_ (List.take_of_length_le (Nat.le_refl _))⟩
      · simp -implicitDefEqProofs [go_sem]
      · exact ⟨htk (by simp) (by simp; omega), by simp -implicitDefEqProofs [go_sem]; rw [okV]; omega⟩
      · rw [okH_some, okH_some, okH_some]
        refine ⟨by simp -implicitDefEqProofs [go_sem], by simp -implicitDefEqProofs [go_sem], ?_, trivial⟩
        rw [okL, okV, okL]
        exact ⟨hn.okL, trivial⟩
      · have ek : (es.set j ⟨es[j].key, es[j].tok, es[j].ver + 1, es[j].secs ++ [d.cache[i].data]⟩).map Vrs.key = es.map Vrs.key := by
          rw [List.map_set]
          exact List.ext_getElem (by simp) fun n a b => by
            rw [List.getElem_set]
            split
            · rename_i e; subst e; simp
            · rfl
        rw [ek, List.map_set]
        simp [List.take_append, entV]
        exact List.take_of_length_le (by simp)
  · rintro ⟨es, V1⟩ ⟨he, hv1, hv2⟩
    dsimp only at he hv1 hv2 ⊢
    by_cases h0 : d.stable = []
    · have hcc : d.cache = [] := by
        rcases hcl : d.cache with _ | ⟨c0, cs⟩
        · rfl
        · have := (checkD_0 hc).2 c0 (by rw [hcl]; simp)
          rw [h0] at this
          simp at this
      have hes : es = [] := by
        have := he.2.2
        rw [hcc] at this
        exact List.eq_nil_of_length_eq_zero (by simpa using this)
      subst hes
      refine SWp.seq (Wp.s ?_)
      simp -implicitDefEqProofs [go_sem]
      refine CC.mono (scloneS_cc _ _ .sh _ (by omega)) ?_
      rintro _ _ _ ⟨v, rfl, rfl, rfl⟩
      simp -implicitDefEqProofs [go_sem]
      refine SWp.seq (Wp.s ?_)
      simp -implicitDefEqProofs [go_sem]
      refine SWp.seq (SWp.seq (Wp.s ?_))
      simp -implicitDefEqProofs [go_sem]
      refine CC.mono (sKeys_cc _ _ (H.length + 2) (by simp)) ?_
      rintro _ _ _ ⟨rfl, rfl, rfl⟩
      simp -implicitDefEqProofs [go_sem]
      refine CC.mono (sSorted_cc hs _ _ (H.length + 4) (H.length + 2) [] [] (hget H _ 4) (hget H _ 2) (by simp)) ?_
      rintro _ _ V9 ⟨ys, hy, hyl, rfl, rfl, eV⟩
      obtain rfl := eV.symm
      have hys : ys = [] := by
        rcases ys with _ | ⟨y, ys⟩
        · rfl
        · have := hy y (by simp)
          simp at this
      subst hys
      simp -implicitDefEqProofs [go_sem]
      refine SWp.block ?_
      refine SWp.loop (α := Unit) (fun _ => ([(4, .ptr (H.length + 1) 0), (9, .ptr (H.length + 3) 0), (10, .sl tk 1 (l.map ic)), (47, ci 0), (48, ci 0)], H ++ [some (dkC d), some [.v (.slice none 0 0), .v (.slice none 0 0)], some [.objm [] []], some [.sl (.own V1.length v) 8 (d.stable.map secC), .v (.slice none 0 0)], some [.mv (H.length + 2)]], V1 ++ [v]))
        (fun _ => True) (fun _ => 0) () trivial (Sh.forget (by simp -implicitDefEqProofs [go_sem]) (by simp) rfl) ?_
      rintro - -
      dsimp only
      refine SWp.seq (Wp.s ?_)
      simp -implicitDefEqProofs [go_sem]
      refine SWp.seq (Wp.s ?_)
      simp -implicitDefEqProofs [go_sem]
      refine SWp.seq ?_
      refine SWp.drawnT [H.length + 3] [3] (.s 0 .ld <| .s 1 .pl <| .s 2 .pl <| .s 3 .st <| .s 4 .pl <| .n) (by kernel_rfl) (by kernel_rfl) ?_
      simp -implicitDefEqProofs [go_sem]
      refine CC.mono (scloneI_cc _ _ tk l (by omega)) ?_
      rintro _ _ _ ⟨v2, rfl, rfl, rfl⟩
      simp -implicitDefEqProofs [go_sem]
      refine ⟨fun b hb cs q => by rw [List.mem_singleton] at hb; subst hb; rw [hget] at q ⊢; exact q, Wp.s ?_⟩
      simp -implicitDefEqProofs [go_sem]
      refine Fin.pure (r' := .tup [.agg (dkC ⟨d.stable, []⟩), .sl .sh 1 (l.map ic)]) ⟨⟨d.stable, []⟩, l, ⟨⟨rfl, rfl, fun i h => .inl ⟨h, rfl⟩⟩, Nat.le_refl _⟩, rfl, rfl, rfl⟩ (by simp) ?_ (.tup (.cons (.agg (.cons (.sh _ _ _) (.cons (.nil 9 (by decide)) .nil))) (.cons (.sh _ _ _) .nil))) ?_ hokH
      · rw [List.take_append_of_le_length hv1]; exact hv2
      · simp -implicitDefEqProofs [go_sem, dkC, okE_secs, okE_ints, okE_cach]
    refine SWp.seq (Wp.s ?_)
    simp -implicitDefEqProofs [go_sem]
    refine CC.mono (scloneB_cc _ _ .sh _ h0 (by omega)) ?_
    rintro _ _ _ ⟨rfl, rfl, rfl⟩
    simp -implicitDefEqProofs [go_sem]
    refine SWp.seq (Wp.s ?_)
    simp -implicitDefEqProofs [go_sem]
    refine SWp.seq (SWp.seq (Wp.s ?_))
    simp -implicitDefEqProofs [go_sem]
    refine CC.mono (sKeys_cc _ _ (H.length + 2) (by simp)) ?_
    rintro _ _ _ ⟨rfl, rfl, rfl⟩
    simp -implicitDefEqProofs [go_sem]
    refine CC.mono (sSorted_cc hs _ _ (H.length + 5) (H.length + 2) (es.map Vrs.key) (es.map entV) (hget H _ 5) (hget H _ 2) (by have := he.2.2; simp; omega)) ?_
    rintro _ _ V9 ⟨ys, hy, hyl, rfl, rfl, eV⟩
    obtain rfl := eV.symm
    simp -implicitDefEqProofs [go_sem]
    refine SWp.block ?_
    refine SWp.loop (α := Nat × (Tk × List Int) × List Sec) (fun x => ([(4, .ptr (H.length + 1) 0), (6, .mv (H.length + 2)), (9, .ptr (H.length + 4) 0), (10, .sl x.2.1.1 1 (x.2.1.2.map ic)), (46, .sl .sh 1 (ys.map ic)), (47, ci ys.length), (48, ci x.1)], H ++ [some (dkC d), some [.v (.slice none 0 0), .v (.slice none 0 0)], some [.objm (es.map Vrs.key) (es.map entV)], some (secsF x.2.2), some [.bsl (H.length + 3) 0 d.stable.length 8, .v (.slice none 0 0)], some [.mv (H.length + 2)]], V1))
      (fun x => x.1 ≤ ys.length ∧ MixS d x.2.2 ∧ (x.2.1.1 = tk ∨ x.2.1.1 = .sh) ∧ x.2.1.2.length ≤ l.length) (fun x => ys.length - x.1) (0, (tk, l), d.stable) ⟨Nat.zero_le _, ⟨rfl, fun i h => .inl ⟨h, rfl⟩⟩, .inl rfl, Nat.le_refl _⟩ (Sh.forget (by simp -implicitDefEqProofs [go_sem]) (by simp) rfl) ?_
    rintro ⟨i, ⟨tk', l'⟩, ss⟩ ⟨hi, hm, ht, hll'⟩
    dsimp only at hi hm ht hll' ⊢
    refine SWp.seq (Wp.s ?_)
    simp -implicitDefEqProofs [go_sem]
    refine SWp.seq (Wp.s ?_)
    simp -implicitDefEqProofs [go_sem]
    refine ⟨fun h => ?_, fun h => ?_⟩
    · refine SWp.join (α := List Int × List Sec) (fun q => ([(4, .ptr (H.length + 1) 0), (6, .mv (H.length + 2)), (9, .ptr (H.length + 4) 0), (10, .sl .sh 1 (q.1.map ic)), (46, .sl .sh 1 (ys.map ic)), (47, ci ys.length), (48, ci i)], H ++ [some (dkC d), some [.v (.slice none 0 0), .v (.slice none 0 0)], some [.objm (es.map Vrs.key) (es.map entV)], some (secsF q.2), some [.bsl (H.length + 3) 0 d.stable.length 8, .v (.slice none 0 0)], some [.mv (H.length + 2)]], V1)) (fun q => MixS d q.2 ∧ q.1.length ≤ l.length) ?_ (by
        rintro ⟨l2, ss'⟩ ⟨hm', hl2'⟩
        dsimp only at hm' hl2' ⊢
        refine Wp.s ?_
        simp -implicitDefEqProofs [go_sem, wrap_succ (show i ≤ 1000000000 by omega)]
        exact ⟨i + 1, .sh, l2, ss', ⟨by omega, hm', .inr rfl, hl2'⟩, by omega, Sh.forget (by simp -implicitDefEqProofs [go_sem]) rfl rfl⟩)
      refine SWp.block (SWp.seq (Wp.s ?_))
      simp -implicitDefEqProofs [go_sem, h]
      refine SWp.seq (Wp.s ?_)
      simp -implicitDefEqProofs [go_sem]
      refine SWp.seq (Wp.s ?_)
      simp -implicitDefEqProofs [go_sem]
      rw [hbm_some (hget H _ 2)]
      obtain ⟨j, hk⟩ : ∃ j, keyAt (es.map Vrs.key) ys[i] = some j := by
        rcases hk : keyAt (es.map Vrs.key) ys[i] with _ | j
        · have hm := hy _ (List.getElem_mem h)
          unfold keyAt at hk
          rw [List.findIdx?_eq_none_iff] at hk
          exact absurd (hk _ hm) (by simp)
        · exact ⟨j, rfl⟩
      obtain ⟨hj, hjn⟩ := keyAt_lt hk
      simp only [List.length_map] at hj
      have hje := he.2.1 es[j] (List.getElem_mem hj)
      have hjl : es[j].secs.length ≤ 1000000 := by have := hje.2.2.1; omega
      have hkj : es[j].key = ys[i] := by
        rw [List.getElem?_map, List.getElem?_eq_getElem hj] at hjn
        exact Option.some.inj hjn
      simp -implicitDefEqProofs only [mlook, hk, List.getElem?_map, List.getElem?_eq_getElem hj, Option.map_some, Option.getD_some, entV]
      simp -implicitDefEqProofs [go_sem, wrap_succ (show es[j].secs.length ≤ 1000000000 by omega)]
      refine CC.mono (sdecide_cc _ _ tk' l' (es[j].secs.length + 1) (by omega) (by omega)) ?_
      rintro _ H9 V9 ⟨k, l2, ⟨hk2, hl2'⟩, rfl, eH, eV⟩
      subst eH eV
      simp -implicitDefEqProofs [go_sem]
      refine SWp.seq (Wp.s ?_)
      simp -implicitDefEqProofs [go_sem]
      refine Wp.s ?_
      simp -implicitDefEqProofs [go_sem]
      refine ⟨fun h2 => ?_, fun h2 => ⟨l2, ss, ⟨hm, by omega⟩, Sh.forget (by simp -implicitDefEqProofs [go_sem]) rfl rfl⟩⟩
      refine SWp.drawnT [H.length + 4] [11] (.s 0 .pl <| .s 1 .pl <| .s 2 .pl <| .s 3 .pl <| .s 4 .pl <| .s 6 .pl <| .s 7 .pl <| .s 5 .pl <| .s 8 .pl <| .s 9 .pl <| .s 10 .pl <| .s 11 .st <| .n) (by kernel_rfl) (by kernel_rfl) ?_
      simp -implicitDefEqProofs [go_sem]
      rw [hbm_some (hget H _ 2)]
      have hwk : IntKind.i64.wrap ((k : Int) - 1) = ((k - 1 : Nat) : Int) := by rw [IntWalk.i64_in _ ⟨by omega, by omega⟩]; omega
      have hk1 : k - 1 < es[j].secs.length := by omega
      obtain ⟨c0, hc0, hcp⟩ := hje.2.2.2.1
      have hpos := (checkD_0 hc).2 c0 hc0
      rw [hcp, hkj] at hpos
      simp -implicitDefEqProofs only [mlook, hk, List.getElem?_map, List.getElem?_eq_getElem hj, Option.map_some, Option.getD_some, entV, hwk]
      simp -implicitDefEqProofs [go_sem, hk1, hpos.1]
      obtain ⟨c1, hc1, hcp1, hcd1⟩ := hje.2.2.2.2 _ (List.getElem_mem hk1)
      refine ⟨by omega, by have := hm.1; omega, fun b hb cs q => by rw [List.mem_singleton] at hb; subst hb; rw [hget] at q ⊢; exact q, l2, ss.set ys[i].toNat es[j].secs[k - 1], ⟨?_, by omega⟩, Sh.forget (by simp -implicitDefEqProofs [go_sem]) ?_ rfl⟩
      · rw [← hcd1]; exact hm.put hc1 (by rw [hcp1, hkj]; omega)
      · rw [secsF_set' (by have := hm.1; omega)]
    · refine SWp.seq ?_
      refine SWp.drawnT [H.length + 4] [3] (.s 0 .ld <| .s 1 .pl <| .s 2 .pl <| .s 3 .st <| .s 4 .pl <| .n) (by kernel_rfl) (by kernel_rfl) ?_
      simp -implicitDefEqProofs [go_sem]
      refine CC.mono (scloneI_cc _ _ tk' l' (by omega)) ?_
      rintro _ _ _ ⟨v, rfl, rfl, rfl⟩
      simp -implicitDefEqProofs [go_sem]
      refine ⟨fun b hb cs q => by rw [List.mem_singleton] at hb; subst hb; rw [hget] at q ⊢; exact q, Wp.s ?_⟩
      simp -implicitDefEqProofs [go_sem]
      refine Fin.frozG (b := H.length + 3) (cs := secsF ss) (r1 := .tup [.agg [.bsl (H.length + 3) 0 d.stable.length 8, cachV []], .sl .sh 1 (l'.map ic)]) (r2 := .tup [.agg (dkC ⟨ss, []⟩), .sl .sh 1 (l'.map ic)]) ⟨⟨ss, []⟩, l', ⟨⟨rfl, hm.1, hm.2⟩, hll'⟩, rfl, rfl, rfl⟩ (.tup (.cons (.agg (.cons (.refl _) (.cons (.nil 9 (by decide)) .nil))) (.cons (.sh _ _ _) .nil))) (by rw [hget]; rfl) ?_ (by omega) ?_ hokH (by simp) ?_
      · have hz := Fz.bsl (b := H.length + 3) (cs := secsF ss) 0 d.stable.length 8 (by have := hm.1; simp; omega)
        rw [List.drop_zero, ← hm.1, chunks_secs] at hz
        rw [← hm.1]
        exact .tup (.cons (.agg (.cons hz (.cons (.refl _) .nil))) (.cons (.refl _) .nil))
      · simp -implicitDefEqProofs [go_sem, dkC, okE_secs, okE_ints, okE_cach]
      · rw [List.take_append_of_le_length hv1]; exact hv2
end Go.Proofs.YtmgoflhjblombaaGreatDoor
namespace Go.Proofs.YtmgoflhjblombaaGreatDoor
open Go.Proofs
theorem stepD_inv {d d' : Dk} {o : Opn} (hc : checkD d = 0) (h : stepD d o = .ok d') : checkD d' = 0 ∧ d'.stable.length = d.stable.length ∧ d'.cache.length ≤ d.cache.length + o.data.length := by
  unfold stepD at h
  split at h
  · cases h
  · split at h
    · cases hw : writeD d o.pos o.data with
      | none => rw [hw] at h; cases h
      | some d2 =>
        rw [hw] at h; cases h
        unfold writeD at hw
        split at hw
        · rename_i hi
          cases hw
          exact ⟨check_wr hc hi, rfl, by simp⟩
        · cases hw
    · cases h
      exact ⟨check_sy hc, newestD_len _, by simp⟩
theorem runD_inv : ∀ (ops : List Opn) {d d' : Dk} {i n : Nat}, checkD d = 0 → runD d ops i = .ok (d', n) → checkD d' = 0 ∧ d'.stable.length = d.stable.length ∧ d'.cache.length ≤ d.cache.length + tot ops
  | [], d, d', i, n, hc, h => by cases h; exact ⟨hc, rfl, by simp [tot]⟩
  | o :: ops, d, d', i, n, hc, h => by
    rw [runD] at h
    cases hs : stepD d o with
    | error e => rw [hs] at h; cases h
    | ok d2 =>
      rw [hs] at h
      obtain ⟨h1, h2, h3⟩ := stepD_inv hc hs
      obtain ⟨g1, g2, g3⟩ := runD_inv ops h1 h
      refine ⟨g1, g2.trans h2, ?_⟩
      have : tot (o :: ops) = o.data.length + tot ops := by simp [tot]
      omega
theorem runR_inv {d : Dk} {ops : List Opn} (h : (runR d ops).2.2 = 0) : checkD d = 0 ∧ checkD (runR d ops).1 = 0 ∧ (runR d ops).1.stable.length = d.stable.length ∧ (runR d ops).1.cache.length ≤ d.cache.length + tot ops := by
  unfold runR at h ⊢
  split at h
  · rename_i hc; exact absurd h hc
  · rename_i hc
    have hc : checkD d = 0 := Classical.not_not.1 hc
    rw [if_neg (by simp [hc])]
    cases hr : runD d ops 0 with
    | error x =>
      obtain ⟨i, e⟩ := x
      rw [hr] at h
      exact absurd h (runD_err _ _ _ _ _ hr)
    | ok x =>
      obtain ⟨d', n⟩ := x
      exact ⟨hc, runD_inv _ hc hr⟩
theorem tot_take (ops : List Opn) (n : Nat) : tot (ops.take n) ≤ tot ops := by
  have h : tot ops = tot (ops.take n) + tot (ops.drop n) := by
    conv => lhs; rw [← List.take_append_drop n ops]
    rw [tot, List.map_append, List.sum_append]; rfl
  omega
def ItrS (d : Dk) (ops : List Opn) (a : Int) (d' : Dk) (e : Nat) : Prop :=
  if checkD d ≠ 0 then e = checkD d ∧ d' = dk0
  else if a < 0 ∨ (ops.length : Int) < a then e = 2 ∧ d' = dk0
  else if (runR d (ops.take a.toNat)).2.2 ≠ 0 then e = (runR d (ops.take a.toNat)).2.2 ∧ d' = dk0
  else e = 0 ∧ Mix (runR d (ops.take a.toNat)).1 d'
def ItrR (d : Dk) (ops : List Opn) (a : Int) (n : Nat) (H : Hp) (V : List Nat) : CV → Hp → List Nat → Prop := fun r H' V' => ∃ (d' : Dk) (l' : List Int) (e : Nat), (ItrS d ops a d' e ∧ l'.length ≤ n) ∧ r = .tup [.agg (dkC d'), .sl .sh 1 (l'.map ic), er e] ∧ H' = H ∧ V' = V
theorem sInterrupt_cc (H : Hp) (V : List Nat) (d : Dk) (ops : List Opn) (a : Int) (tk : Tk) (l : List Int) (hl : d.stable.length ≤ 1000000) (hl2 : d.cache.length + tot ops ≤ 1000000) (hl3 : ops.length ≤ 1000000) (hll : l.length ≤ 1000000) (hs : SortOK) :
    CC Tryz.prog 71 [.agg (dkC d), opsV ops, ci a, .sl tk 1 (l.map ic)] H V (ItrR d ops a l.length H V) := by
  refine CC.of_swp Tryz.func71 rfl (by kernel_rfl) (by rw [Tryz.ntmps71]; exact len_le _ _ rfl) fun hok hokH => ?_
  clear hok
  have hd : DkS d := ⟨hl, by omega⟩
  have bad : ∀ (e : Nat) {H' : Hp} {V' : List Nat}, ItrS d ops a dk0 e → H'.take H.length = H → V'.take V.length = V → Fin H.length V.length (ItrR d ops a l.length H V) (.tup [.agg [.v (.slice none 0 0), .v (.slice none 0 0)], .v (.slice none 0 0), er e]) H' V' := fun e H' V' h1 h2 h3 =>
    Fin.pure (r' := .tup [.agg (dkC dk0), .sl .sh 1 (([] : List Int).map ic), er e]) ⟨dk0, [], e, ⟨h1, Nat.zero_le _⟩, rfl, rfl, rfl⟩ h2 h3 (.tup (.cons (.agg (.cons (.nil 8 (by decide)) (.cons (.nil 9 (by decide)) .nil))) (.cons (.nil 1 (by decide)) (.cons (.refl _) .nil)))) (by simp -implicitDefEqProofs [go_sem, dkC, okE_secs, okE_ints, okE_cach]) hokH
  refine SWp.seq (Wp.s ?_)
  simp -implicitDefEqProofs [go_sem, args0]
  refine SWp.seq (Wp.s ?_)
  simp -implicitDefEqProofs [go_sem]
  refine CC.mono (sCheck_cc _ _ d hd) ?_
  rintro _ _ _ ⟨rfl, rfl, rfl⟩
  simp -implicitDefEqProofs [go_sem]
  refine ⟨fun hc => ?_, fun hc => ?_⟩
  case refine_1 => exact bad _ (by rw [ItrS, if_pos hc]; exact ⟨rfl, rfl⟩) (by simp) (by simp)
  refine SWp.seq (Wp.s ?_)
  simp -implicitDefEqProofs [go_sem]
  refine ⟨fun h1 => ⟨fun h2 => ?_, fun h2 => ?_⟩, fun h1 => ?_⟩
  case refine_2.refine_1 => exact bad 2 (by rw [ItrS, if_neg (by simp [hc]), if_pos (.inr h2)]; exact ⟨rfl, rfl⟩) (by simp) (by simp)
  case refine_2.refine_3 => exact bad 2 (by rw [ItrS, if_neg (by simp [hc]), if_pos (.inl h1)]; exact ⟨rfl, rfl⟩) (by simp) (by simp)
  obtain ⟨a, rfl⟩ := Int.eq_ofNat_of_zero_le h1
  have h2' : a ≤ ops.length := by omega
  refine SWp.seq (SWp.drawnT [] [10] (.s 0 .pl <| .s 1 .pl <| .s 2 .pl <| .s 3 .pl <| .c 4 <| .s 5 .pl <| .s 6 .pl <| .s 7 .pl <| .s 8 .pl <| .s 9 .pl <| .s 10 .st <| .s 11 .pl <| .s 12 .pl <| .n) (by kernel_rfl) (by kernel_rfl) ?_)
  simp -implicitDefEqProofs [go_sem, h2']
  have htt := tot_take ops a
  refine ⟨runV (runR d (ops.take a)), fun H V => ?_, ?_⟩
  · show CC Tryz.prog 22 [.agg (dkC d), .sl .sh 3 ((ops.map opC).take a)] H V _
    rw [← List.map_take]
    exact sRun_cc H V d (ops.take a) hl (by omega) (by rw [List.length_take]; omega)
  have hI : ∀ d' e, ItrS d ops a d' e = if (runR d (ops.take a)).2.2 ≠ 0 then e = (runR d (ops.take a)).2.2 ∧ d' = dk0 else e = 0 ∧ Mix (runR d (ops.take a)).1 d' := fun d' e => by
    rw [ItrS, if_neg (by simp [hc]), if_neg (by omega)]; rfl
  have hinv := fun h => runR_inv (d := d) (ops := ops.take a) h
  generalize hr : runR d (ops.take a) = r at *
  obtain ⟨d2, n2, e2⟩ := r
  simp -implicitDefEqProofs [go_sem, runV]
  refine SWp.seq (Wp.s ?_)
  simp -implicitDefEqProofs [go_sem]
  refine ⟨fun he => bad e2 (by rw [hI, if_pos he]; exact ⟨rfl, rfl⟩) (by simp) (by simp), fun he => ?_⟩
  obtain ⟨i1, i2, i3, i4⟩ := hinv he
  dsimp only at i2 i3 i4
  refine SWp.seq (Wp.s ?_)
  simp -implicitDefEqProofs [go_sem]
  refine CC.mono (sCrash_cc hs _ _ d2 tk l ⟨by omega, by omega⟩ i2 hll) ?_
  rintro _ _ _ ⟨d3, l3, ⟨hm, hl3'⟩, rfl, rfl, rfl⟩
  simp -implicitDefEqProofs [go_sem]
  refine SWp.seq (Wp.s ?_)
  simp -implicitDefEqProofs [go_sem]
  refine Wp.s ?_
  simp -implicitDefEqProofs [go_sem]
  exact Fin.pure (r' := .tup [.agg (dkC d3), .sl .sh 1 (l3.map ic), er 0]) ⟨d3, l3, 0, ⟨by rw [hI, if_neg (by simp [he])]; exact ⟨rfl, hm⟩, hl3'⟩, rfl, rfl, rfl⟩ (by simp) (by simp) (.refl _) (by simp -implicitDefEqProofs [go_sem, dkC, okE_secs, okE_ints, okE_cach]) hokH
end Go.Proofs.YtmgoflhjblombaaGreatDoor
namespace Go.Proofs.YtmgoflhjblombaaGreatDoor
open Go.Proofs
theorem skeysA_cc (H : Hp) (V : List Nat) (L b2 b : Nat) (ks : List Int) (vs : List CV) (I : List Nat → Hp → List Nat → Prop)
    (hb2 : H[b2]? = some (some [.mv b])) (hb : H[b]? = some (some [.objm ks vs]))
    (h0 : I [] (H ++ [some [.obji b ks.length []]]) V)
    (hI : ∀ s G W, I s G W → G[H.length]? = some (some [.obji b ks.length s]) ∧ G[b]? = some (some [.objm ks vs]) ∧ ∀ i ∈ s, i < ks.length)
    (hy : ∀ s i G W, I s G W → (h : i < ks.length) → i ∉ s → YC Tryz.prog L [ci (ks[i])] (G.set H.length (some [.obji b ks.length (s ++ [i])])) W (fun r G' W' => r = .v (.bool true) ∧ I (s ++ [i]) G' W')) :
    CC Tryz.prog 124 [.yl L, .ptr b2 0] H V (fun _ H' V' => ∃ s, I s H' V' ∧ ∀ i, i < ks.length → i ∈ s) := by
  refine CC.of_swp Tryz.func124 rfl (by kernel_rfl) (by rw [Tryz.ntmps124]; exact len_le _ _ rfl) fun hok hokH => ?_
  clear hok
  refine SWp.seq (Wp.s ?_)
  simp -implicitDefEqProofs [go_sem, args0, hbx_of hb2, hbm_some hb]
  refine SWp.block ?_
  refine SWp.loop (α := List Nat × Hp × List Nat) (fun x => ([(0, .yl L), (5, .it H.length)], x.2.1, x.2.2)) (fun x => I x.1 x.2.1 x.2.2) (fun x => uns x.1 (List.range ks.length)) ([], _, V) h0 (Sh.forget (by simp -implicitDefEqProofs [go_sem]) rfl rfl) ?_
  rintro ⟨s, G, W⟩ hi
  dsimp only at hi ⊢
  obtain ⟨g1, g2, g3⟩ := hI _ _ _ hi
  refine SWp.seq (Wp.s ?_)
  simp -implicitDefEqProofs [go_sem]
  unfold cnext
  dsimp only
  refine ⟨rfl, b, ks.length, s, ks, vs, g1, g2, rfl, g3, fun hall => ?_, fun i hil hni => ?_⟩
  · simp -implicitDefEqProofs [go_sem]
    refine SWp.seq (Wp.s ?_)
    simp -implicitDefEqProofs [go_sem]
    exact Fin.self ⟨s, hi, hall⟩
  · have hbl : b < H.length := by
      rcases Nat.lt_or_ge b H.length with h | h
      · exact h
      · rw [List.getElem?_eq_none h] at hb; cases hb
    have hql : H.length < G.length := (List.getElem?_eq_some_iff.1 g1).1
    have q1 : (G.set H.length (some [.obji b ks.length (s ++ [i])]))[H.length]? = some (some [.obji b ks.length (s ++ [i])]) := List.getElem?_set_self hql
    have q2 : (G.set H.length (some [.obji b ks.length (s ++ [i])]))[b]? = some (some [.objm ks vs]) := by rw [List.getElem?_set_ne (by omega)]; exact g2
    simp -implicitDefEqProofs [go_sem]
    refine SWp.seq (Wp.s ?_)
    simp -implicitDefEqProofs [go_sem]
    refine SWp.block (SWp.seq (Wp.s ?_))
    simp -implicitDefEqProofs [go_sem]
    unfold centry
    dsimp only
    refine ⟨b, ks.length, s, i, ks, vs, q1, q2, rfl, hil, ?_⟩
    rw [List.getElem?_eq_getElem hil, Option.getD_some]
    simp -implicitDefEqProofs [go_sem]
    refine SWp.seq (Wp.s ?_)
    simp -implicitDefEqProofs [go_sem]
    refine YC.mono (hy s i G W hi hil hni) ?_
    rintro _ G2 W2 ⟨rfl, hi2⟩
    simp -implicitDefEqProofs [go_sem]
    refine Wp.s ?_
    simp -implicitDefEqProofs [go_sem]
    exact ⟨s ++ [i], G2, W2, hi2, uns_lt s i hni _ (by simpa using hil), Sh.forget (by simp -implicitDefEqProofs [go_sem]) rfl rfl⟩
def ClA (h : Nat) (ks : List Int) (s : List Nat) (cv : CV) (xs : List Int) (W : Hp) : Prop :=
  (xs = s.map (fun i => ks.getD i 0) ∧ s.Nodup) ∧ ((cv = .sl .ti 1 [] ∧ xs = []) ∨ ∃ j, cv = .bsa (h + (j + 3)) xs.length 1 ∧ W[j]? = some (some (xs.map ci)))
def ColA (ks : List Int) (H : Hp) (V : List Nat) : CV → Hp → List Nat → Prop := fun r H' V' => ∃ (xs : List Int) (W : Hp), H' = H ++ W ∧ V' = V ∧ xs.Perm ks ∧ ((r = .sl .ti 1 [] ∧ xs = []) ∨ ∃ j, r = .bsa (H.length + j) xs.length 1 ∧ W[j]? = some (some (xs.map ci)))
theorem nodup_lenL : ∀ (s l : List Nat), s.Nodup → (∀ i ∈ s, i ∈ l) → s.length ≤ l.length
  | [], l, _, _ => Nat.zero_le _
  | x :: s, l, h, h2 => by
    rw [List.nodup_cons] at h
    have hx := h2 x (by simp)
    have := nodup_lenL s (l.erase x) h.2 fun i hi => (List.mem_erase_of_ne (fun e : i = x => h.1 (e ▸ hi))).2 (h2 i (by simp [hi]))
    rw [List.length_erase_of_mem hx] at this
    have := List.length_pos_of_mem hx
    rw [List.length_cons]; omega
theorem nodup_len {s : List Nat} {n : Nat} (h : s.Nodup) (h2 : ∀ i ∈ s, i < n) : s.length ≤ n := by
  have := nodup_lenL s (List.range n) h fun i hi => List.mem_range.2 (h2 i hi)
  rwa [List.length_range] at this
theorem seen_perm {s : List Nat} {ks : List Int} (h : s.Nodup) (h2 : ∀ i ∈ s, i < ks.length) (h3 : ∀ i, i < ks.length → i ∈ s) : (s.map (fun i => ks.getD i 0)).Perm ks := by
  have hp : s.Perm (List.range ks.length) := by
    rw [List.perm_ext_iff_of_nodup h List.nodup_range]
    intro i
    rw [List.mem_range]
    exact ⟨h2 i, h3 i⟩
  refine (hp.map _).trans (.of_eq ?_)
  refine List.ext_getElem (by simp) fun i a b => ?_
  simp [List.getD_eq_getElem?_getD, b]
theorem sAppendSeqA_cc (H : Hp) (V : List Nat) (b2 b : Nat) (ks : List Int) (vs : List CV) (hb2 : H[b2]? = some (some [.mv b])) (hb : H[b]? = some (some [.objm ks vs])) (hkl : ks.length ≤ 1000000) :
    CC Tryz.prog 129 [.sl .ti 1 [], .fn 124 [.ptr b2 0]] H V (ColA ks H V) := by
  refine CC.of_swp0 Tryz.func129 rfl (by kernel_rfl) (by rw [Tryz.ntmps129]; exact len_le _ _ rfl) fun hok hokH => ?_
  have hb2l := (List.getElem?_eq_some_iff.1 hb2).1
  have hbl := (List.getElem?_eq_some_iff.1 hb).1
  refine SWp0.seq (SWp.s0 (Wp.s ?_))
  simp -implicitDefEqProofs [go_sem, args0]
  refine SWp0.join (α := CV × List Int × Option (List CV) × Hp) (fun x => ([(2, .ptr H.length 0)], H ++ (some [x.1] :: none :: x.2.2.1 :: x.2.2.2), V)) (fun x => (∃ s, ClA H.length ks s x.1 x.2.1 x.2.2.2) ∧ x.2.1.Perm ks) ?_ ?_
  · refine SWp0.seq (SWp.s0 (Wp.s ?_))
    simp -implicitDefEqProofs [go_sem]
    refine SWp0.block (SWp0.range [(2, .ptr H.length 0)] rfl (by simp -implicitDefEqProofs [go_sem]) ?_)
    simp -implicitDefEqProofs [go_sem]
    generalize hbd : Code.block 1 _ = bd
    generalize has : Code.region 2 _ _ = asg
    refine CC.mono (skeysA_cc _ V _ b2 b ks vs (fun s G W => W = V ∧ ∃ cv xs Wg, G = H ++ (some [cv] :: some [lpc 13 #[7] asg bd [(2, .ptr H.length 0)] .ready none] :: some [.obji b ks.length s] :: Wg) ∧ ClA H.length ks s cv xs Wg ∧ (∀ i ∈ s, i < ks.length)) ?_ ?_ ?_ ?_ ?_) ?_
    · rw [List.getElem?_append_left hb2l]; exact hb2
    · rw [List.getElem?_append_left hbl]; exact hb
    · exact ⟨rfl, .sl .ti 1 [], [], [], by simp, ⟨⟨rfl, List.nodup_nil⟩, .inl ⟨rfl, rfl⟩⟩, by simp⟩
    · rintro s _ _ ⟨rfl, cv, xs, Wg, rfl, hc, hs⟩
      exact ⟨by rw [List.length_append]; exact Go.Proofs.YtmgoflhjblombaaGreatDoor.hget H _ 2, by rw [List.getElem?_append_left hbl]; exact hb, hs⟩
    · rintro s i _ V1 ⟨rfl, cv, xs, Wg, rfl, hc, hs⟩ hil hni
      have e : List.set (H ++ (some [cv] :: some [lpc 13 #[7] asg bd [(2, .ptr H.length 0)] .ready none] :: some [.obji b ks.length s] :: Wg)) (H ++ [some [.sl .ti 1 []], some [lpc 13 #[7] asg bd [(2, .ptr H.length 0)] .ready none]]).length (some [.obji b ks.length (s ++ [i])]) =
          H ++ (some [cv] :: some [lpc 13 #[7] asg bd [(2, .ptr H.length 0)] .ready none] :: some [.obji b ks.length (s ++ [i])] :: Wg) := by
        rw [List.length_append, List.set_append_right _ _ (by omega), Nat.add_sub_cancel_left]; rfl
      rw [e]
      have hsi : ∀ j ∈ s ++ [i], j < ks.length := by
        intro j hj
        rcases List.mem_append.1 hj with hj | hj
        · exact hs j hj
        · rw [List.mem_singleton.1 hj]; exact hil
      have hsi' : ∀ j, j ∈ s ∨ j = i → j < ks.length := fun j hj => hsi j (by simpa using hj)
      have hnd : (s ++ [i]).Nodup := by
        rw [List.nodup_append]
        refine ⟨hc.1.2, by simp, fun a1 ha1 b1 hb1 e1 => ?_⟩
        rw [List.mem_singleton] at hb1
        rw [e1, hb1] at ha1; exact hni ha1
      have hxl : xs.length < ks.length := by
        have := nodup_len hnd hsi
        rw [hc.1.1, List.length_map]
        simp at this; omega
      have hget : ks.getD i 0 = ks[i] := by rw [List.getD_eq_getElem?_getD, List.getElem?_eq_getElem hil]; rfl
      refine YC.of_round (n := 13) (ps := #[7]) (bd := bd) (T := [(2, .ptr H.length 0)]) (Go.Proofs.YtmgoflhjblombaaGreatDoor.hget _ _ 1) rfl (by decide) ?_
      subst hbd has
      refine Wp.s ?_
      simp -implicitDefEqProofs [go_sem, tps]
      generalize hlp : lpc 13 #[7] _ _ _ LoopState.busy none = lp
      generalize hqq : RQ 13 #[7] _ _ _ _ _ = QQ
      rcases hc with ⟨hx0, ⟨rfl, hxe⟩ | ⟨j, rfl, hj⟩⟩
      · refine SWp.block (SWp.opx (pre := [_, _, _]) (post := [_]) rfl (by intro c e; cases e) ?_)
        simp -implicitDefEqProofs [go_sem]
        refine ⟨_, _, _, appbox (sz := 1) (tk := .ti) (ys := [[ci ks[i]]]) slTy29 slTy29 rfl rfl (by simp) (by simp), ?_⟩
        simp -implicitDefEqProofs [go_sem]
        rw [← hqq, ← hlp]
        refine ⟨Go.Proofs.YtmgoflhjblombaaGreatDoor.hget _ _ 1, rfl, rfl, .bsa (H.length + (Wg.length + 3)) 1 1, [ks[i]], Wg ++ [some [ci ks[i]]], ?_, ⟨⟨by have h1 := hx0.1; rw [hxe] at h1; rw [List.map_append, ← h1, List.map_singleton, hget]; rfl, hnd⟩, .inr ⟨Wg.length, rfl, by simp⟩⟩, hsi'⟩
        rw [List.set_append_right _ _ (by omega), Nat.add_sub_cancel_left]
        simp
      · refine SWp.block (Wp.s ?_)
        simp -implicitDefEqProofs [go_sem, hbx_of hj, set_W3]
        rw [← hqq, ← hlp]
        refine ⟨by omega, Go.Proofs.YtmgoflhjblombaaGreatDoor.hget _ _ 1, rfl, rfl, .bsa (H.length + (Wg.length + 3)) (xs ++ [ks[i]]).length 1, xs ++ [ks[i]], Wg.set j none ++ [some ((xs ++ [ks[i]]).map ci)], ?_, ⟨⟨by rw [List.map_append, ← hx0.1, List.map_singleton, hget], hnd⟩, .inr ⟨Wg.length, rfl, by simp⟩⟩, hsi'⟩
        rw [List.set_append_right _ _ (by omega), Nat.add_sub_cancel_left]
        simp
    · rintro _ _ _ ⟨s, ⟨rfl, cv, xs, Wg, rfl, hc, hs⟩, hall⟩
      refine .inl ⟨Go.Proofs.YtmgoflhjblombaaGreatDoor.hget _ _ 1, ?_⟩
      refine ⟨cv, xs, some [.obji b ks.length s], Wg, ⟨⟨s, hc⟩, by rw [hc.1.1]; exact seen_perm hc.1.2 hs hall⟩, Sh.forget (by simp -implicitDefEqProofs [go_sem]) ?_ rfl⟩
      rw [List.set_append_right _ _ (by omega), Nat.add_sub_cancel_left]; rfl
  · rintro ⟨cv, xs, ob, Wg⟩ ⟨⟨s, hc⟩, hxl⟩
    dsimp only at hc hxl ⊢
    refine SWp0.seq (SWp.s0 (Wp.s ?_))
    simp -implicitDefEqProofs [go_sem]
    refine SWp.s0 (Wp.s ?_)
    simp -implicitDefEqProofs [go_sem]
    refine Fin.self ⟨xs, _, rfl, rfl, hxl, ?_⟩
    rcases hc.2 with ⟨rfl, rfl⟩ | ⟨j, rfl, hj⟩
    · exact .inl ⟨rfl, rfl⟩
    · exact .inr ⟨j + 3, rfl, hj⟩
theorem sCollectA_cc (H : Hp) (V : List Nat) (b2 b : Nat) (ks : List Int) (vs : List CV) (hb2 : H[b2]? = some (some [.mv b])) (hb : H[b]? = some (some [.objm ks vs])) (hkl : ks.length ≤ 1000000) :
    CC Tryz.prog 122 [.fn 124 [.ptr b2 0]] H V (ColA ks H V) := by
  refine CC.of_swp Tryz.func122 rfl (by kernel_rfl) (by rw [Tryz.ntmps122]; exact len_le _ _ rfl) fun hok hokH => ?_
  clear hok
  refine SWp.seq (Wp.s ?_)
  simp -implicitDefEqProofs [go_sem, args0]
  refine SWp.seq (Wp.s ?_)
  simp -implicitDefEqProofs [go_sem]
  refine CC.le (.cons (.nilti 1 (by decide)) (.cons (.refl _) .nil)) (CC.mono (sAppendSeqA_cc _ _ b2 b ks vs hb2 hb hkl) ?_)
  rintro r _ _ ⟨xs, W, rfl, rfl, h1, h2⟩
  simp -implicitDefEqProofs [go_sem]
  refine Wp.s ?_
  simp -implicitDefEqProofs [go_sem]
  exact Fin.self ⟨xs, W, rfl, rfl, h1, h2⟩
def srt (l : List Int) : List Int := l.mergeSort fun x y => decide (x ≤ y)
theorem srt_len (l : List Int) : (srt l).length = l.length := by rw [srt, List.length_mergeSort]
theorem srt_mem {l : List Int} {x : Int} : x ∈ srt l ↔ x ∈ l := by rw [srt, List.mem_mergeSort]
theorem srt_perm {l m : List Int} (h : l.Perm m) : srt l = srt m := by
  have hs : ∀ z : List Int, (srt z).Pairwise fun x y => x ≤ y := fun z => by
    have := List.pairwise_mergeSort (le := fun x y : Int => decide (x ≤ y)) (fun a b c => by simp; omega) (fun a b => by simp; omega) z
    exact this.imp fun h => by simpa using h
  refine List.Perm.eq_of_pairwise (fun a b _ _ h1 h2 => Int.le_antisymm h1 h2) (hs l) (hs m) ?_
  exact ((List.mergeSort_perm l _).trans h).trans (List.mergeSort_perm m _).symm
structure SortA : Prop where
  box : ∀ (H : Hp) (V : List Nat) (b : Nat) (xs : List Int), H[b]? = some (some (xs.map ci)) → xs.length ≤ 1000000 →
    CC Tryz.prog 123 [.bsa b xs.length 1] H V (fun _ H' V' => H' = H.set b (some ((srt xs).map ci)) ∧ V' = V)
  none : ∀ (H : Hp) (V : List Nat), CC Tryz.prog 123 [.sl .ti 1 []] H V (fun _ H' V' => H' = H ∧ V' = V)
def SrtA (ks : List Int) (H : Hp) (V : List Nat) : CV → Hp → List Nat → Prop := fun r H' V' => r = .sl .sh 1 ((srt ks).map ic) ∧ H' = H ∧ V' = V
theorem sSortedA_cc (hs : SortA) (H : Hp) (V : List Nat) (b2 b : Nat) (ks : List Int) (vs : List CV) (hb2 : H[b2]? = some (some [.mv b])) (hb : H[b]? = some (some [.objm ks vs])) (hkl : ks.length ≤ 1000000) :
    CC Tryz.prog 111 [.fn 124 [.ptr b2 0]] H V (SrtA ks H V) := by
  refine CC.of_swp Tryz.func111 rfl (by kernel_rfl) (by rw [Tryz.ntmps111]; exact len_le _ _ rfl) fun hok hokH => ?_
  clear hok
  refine SWp.seq (Wp.s ?_)
  simp -implicitDefEqProofs [go_sem, args0]
  refine SWp.seq (Wp.s ?_)
  simp -implicitDefEqProofs [go_sem]
  refine CC.mono (sCollectA_cc _ _ b2 b ks vs hb2 hb hkl) ?_
  rintro r _ _ ⟨xs, W, rfl, rfl, h1, ⟨rfl, hxe⟩ | ⟨j, rfl, hj⟩⟩
  · simp -implicitDefEqProofs [go_sem]
    refine SWp.seq (Wp.s ?_)
    simp -implicitDefEqProofs [go_sem]
    refine CC.mono (hs.none _ _) ?_
    rintro _ _ _ ⟨rfl, rfl⟩
    simp -implicitDefEqProofs [go_sem]
    refine Wp.s ?_
    simp -implicitDefEqProofs [go_sem]
    exact Fin.pure (r' := .sl .sh 1 []) ⟨by subst hxe; rw [← srt_perm h1, show srt [] = [] from List.mergeSort_nil]; rfl, rfl, rfl⟩ (by simp) (by simp) (.sh _ _ _) (by simp -implicitDefEqProofs [go_sem]) hokH
  · simp -implicitDefEqProofs [go_sem]
    refine SWp.seq (Wp.s ?_)
    simp -implicitDefEqProofs [go_sem]
    have hxl : xs.length = ks.length := h1.length_eq
    have hxs := srt_len xs
    have hj' : (H ++ W)[H.length + j]? = some (some (xs.map ci)) := by rw [hget]; exact hj
    refine CC.mono (hs.box _ _ _ xs hj' (by omega)) ?_
    rintro _ _ _ ⟨rfl, rfl⟩
    simp -implicitDefEqProofs [go_sem]
    refine Wp.s ?_
    simp -implicitDefEqProofs [go_sem]
    have hjl := (List.getElem?_eq_some_iff.1 hj').1
    refine Fin.froz (b := H.length + j) (o := 0) (n := xs.length) (sz := 1) (cs := (srt xs).map ci) (xs := (srt xs).map ic) ⟨by rw [srt_perm h1], rfl, rfl⟩ (.bsa _ _ _) (by rw [hget]; exact List.getElem?_set_self (List.getElem?_eq_some_iff.1 hj).1) ?_ ?_ (by omega) (by rw [okE_ints]; trivial) hokH ?_ (by simp)
    · rw [List.drop_zero, ← hxs, chunks_ci]
    · rw [List.length_map]; omega
    · simp
end Go.Proofs.YtmgoflhjblombaaGreatDoor
namespace Go.Proofs.YtmgoflhjblombaaGreatDoor
open Go.Proofs Go.Shelf Go.Sort
def sortRen : Go.Shelf.Ren := ⟨fun | 5 => 123 | 8 => 131 | 7 => 130 | 19 => 144 | 20 => 145 | 10 => 135 | 11 => 136 | 12 => 137 | 13 => 138 | 14 => 139 | 15 => 140 | 16 => 141 | 17 => 142 | 18 => 143 | 30 => 148 | 31 => 149 | 32 => 150 | 33 => 151 | 34 => 152 | 35 => 153 | 40 => 155 | n => n, fun | 23 => 29 | 25 => 3 | 3 => 3 | 32 => 136 | 22 => 29 | 0 => 0 | 44 => 95 | 46 => 234 | 4 => 4 | 36 => 225 | 35 => 224 | 41 => 230 | 5 => 5 | 9 => 9 | 53 => 235 | 57 => 239 | 63 => 241 | 64 => 242 | n => n, fun | n => n⟩
theorem sortLay : SlLaysM.n5 Tryz.prog sortRen := {
  mixed := by kernel_rfl
  f5 := ⟨Tryz.f123.name, by decide, Tryz.func123.trans (congrArg some (by kernel_rfl))⟩
  f7 := ⟨Tryz.f130.name, by decide, Tryz.func130.trans (congrArg some (by kernel_rfl))⟩
  f8 := Tryz.func131.trans (congrArg some (by kernel_rfl))
  f10 := ⟨Tryz.f135.name, by decide, Tryz.func135.trans (congrArg some (by kernel_rfl))⟩
  f11 := ⟨Tryz.f136.name, by decide, Tryz.func136.trans (congrArg some (by kernel_rfl))⟩
  f12 := ⟨Tryz.f137.name, by decide, Tryz.func137.trans (congrArg some (by kernel_rfl))⟩
  f13 := ⟨Tryz.f138.name, by decide, Tryz.func138.trans (congrArg some (by kernel_rfl))⟩
  f14 := ⟨Tryz.f139.name, by decide, Tryz.func139.trans (congrArg some (by kernel_rfl))⟩
  f15 := ⟨Tryz.f140.name, by decide, Tryz.func140.trans (congrArg some (by kernel_rfl))⟩
  f16 := ⟨Tryz.f141.name, by decide, Tryz.func141.trans (congrArg some (by kernel_rfl))⟩
  f17 := ⟨Tryz.f142.name, by decide, Tryz.func142.trans (congrArg some (by kernel_rfl))⟩
  f18 := ⟨Tryz.f143.name, by decide, Tryz.func143.trans (congrArg some (by kernel_rfl))⟩
  f19 := Tryz.func144.trans (congrArg some (by kernel_rfl))
  f20 := Tryz.func145.trans (congrArg some (by kernel_rfl))
  f30 := ⟨Tryz.f148.name, by decide, Tryz.func148.trans (congrArg some (by kernel_rfl))⟩
  f31 := Tryz.func149.trans (congrArg some (by kernel_rfl))
  f32 := Tryz.func150.trans (congrArg some (by kernel_rfl))
  f33 := ⟨Tryz.f151.name, by decide, Tryz.func151.trans (congrArg some (by kernel_rfl))⟩
  f34 := ⟨Tryz.f152.name, by decide, Tryz.func152.trans (congrArg some (by kernel_rfl))⟩
  f35 := ⟨Tryz.f153.name, by decide, Tryz.func153.trans (congrArg some (by kernel_rfl))⟩
  f40 := ⟨Tryz.f155.name, by decide, Tryz.func155.trans (congrArg some (by kernel_rfl))⟩
  t0 := Tryz.underlying0
  a0 := Tryz.isAgg0
  z0 := Tryz.sizeOf0
  v0 := Tryz.zeroValue0
  t3 := Tryz.underlying3
  a3 := Tryz.isAgg3
  z3 := Tryz.sizeOf3
  v3 := Tryz.zeroValue3
  t4 := Tryz.underlying4
  a4 := Tryz.isAgg4
  z4 := Tryz.sizeOf4
  v4 := Tryz.zeroValue4
  t5 := Tryz.underlying5
  a5 := Tryz.isAgg5
  z5 := Tryz.sizeOf5
  v5 := Tryz.zeroValue5
  t9 := Tryz.underlying9
  a9 := Tryz.isAgg9
  z9 := Tryz.sizeOf9
  v9 := Tryz.zeroValue9
  t22 := Tryz.underlying29
  a22 := Tryz.isAgg29
  z22 := Tryz.sizeOf29
  v22 := Tryz.zeroValue29
  t23 := Tryz.underlying29
  a23 := Tryz.isAgg29
  z23 := Tryz.sizeOf29
  v23 := Tryz.zeroValue29
  t25 := Tryz.underlying3
  a25 := Tryz.isAgg3
  z25 := Tryz.sizeOf3
  v25 := Tryz.zeroValue3
  t32 := Tryz.underlying136
  a32 := Tryz.isAgg136
  z32 := Tryz.sizeOf136
  v32 := Tryz.zeroValue136
  t35 := Tryz.underlying224
  a35 := Tryz.isAgg224
  z35 := Tryz.sizeOf224
  v35 := Tryz.zeroValue224
  t36 := Tryz.underlying225
  a36 := Tryz.isAgg225
  z36 := Tryz.sizeOf225
  v36 := Tryz.zeroValue225
  t41 := Tryz.underlying230
  a41 := Tryz.isAgg230
  z41 := Tryz.sizeOf230
  v41 := Tryz.zeroValue230
  t44 := Tryz.underlying95
  a44 := Tryz.isAgg95
  z44 := Tryz.sizeOf95
  v44 := Tryz.zeroValue95
  t46 := Tryz.underlying234
  a46 := Tryz.isAgg234
  z46 := Tryz.sizeOf234
  v46 := Tryz.zeroValue234
  t53 := Tryz.underlying235
  a53 := Tryz.isAgg235
  z53 := Tryz.sizeOf235
  v53 := Tryz.zeroValue235
  t57 := Tryz.underlying239
  a57 := Tryz.isAgg239
  z57 := Tryz.sizeOf239
  v57 := Tryz.zeroValue239
  t63 := Tryz.underlying241
  a63 := Tryz.isAgg241
  z63 := Tryz.sizeOf241
  v63 := Tryz.zeroValue241
  t64 := Tryz.underlying242
  a64 := Tryz.isAgg242
  z64 := Tryz.sizeOf242
  v64 := Tryz.zeroValue242 }

theorem Inv.more {m : Gh} {w w' : World} {H : List (Option (List CV))} {V : List Nat} (hi : Inv m w H V) (h1 : w'.os = w.os) (h2 : w'.tape = w.tape) (h3 : w'.output = w.output) (h4 : w.heap.size ≤ w'.heap.size) (h5 : ∀ j, j < w.heap.size → w'.heap[j]? = w.heap[j]?) :
    Inv m w' H V ∧ Ext m w V m w' V := by
  have hlt : ∀ {k : Nat} {x : Obj}, w.heap[k]? = some x → w'.heap[k]? = some x := fun h => by
    rw [h5 _ (Array.getElem?_eq_some_iff.1 h).1]; exact h
  have hx : Ext m w V m w' V := by
    refine ⟨h1, h2, h3, h4, fun k c e fr h => ⟨c, hlt h, rfl⟩, fun _ => Nat.le_refl _, fun k o ho => ?_, fun k ds h => hlt h, fun k hk _ _ => h5 k hk, fun _ _ h => h, fun b _ h => .inl ⟨b, h⟩, fun _ _ h => .inl h, fun _ v h => ⟨v, h, Nat.le_refl _, fun _ => ⟨rfl, fun _ _ => rfl⟩⟩⟩
    rcases Nat.lt_or_ge k w.heap.size with h | h
    · exact World.cell?_of_block (w := w) (a := ⟨k, o, none⟩) (h5 k h)
    · rw [hi.lim_new h] at ho; omega
  refine ⟨⟨hi.boxlen, hi.tiplen, fun k hk => ?_, fun t k h => ?_, fun b k h => Nat.lt_of_lt_of_le (hi.boxes b k h) h4, hi.uniq, fun b cs h => (hi.live b cs h).mono hx fun k hk => ⟨h5 k (hi.boxes b k hk), rfl⟩⟩, hx⟩
  · obtain ⟨c, e, fr, q1, q2⟩ := hi.limv k hk
    exact ⟨c, e, fr, hlt q1, q2⟩
  · obtain ⟨⟨c, e, q1⟩, q2, q3⟩ := hi.tips t k h
    exact ⟨⟨c, e, hlt q1⟩, q2, q3⟩
theorem relL_cis (m : Gh) (w : World) (V : List Nat) : ∀ ys : List Int, RelL m w V (ys.map ci) (ys.map (Value.int .i64))
  | [] => by rw [List.map_nil, RelL]; rfl
  | y :: ys => by rw [List.map_cons, RelL]; exact ⟨_, _, rfl, by rw [RelV], relL_cis m w V ys⟩
theorem step_sorted {m : Gh} {w : World} {H : List (Option (List CV))} {V : List Nat} {b k : Nat} {xs ys : List Int} {c : Array Value} {e : TypeId} (hi : Inv m w H V) (hb : H[b]? = some (some (xs.map ci))) (hk : m.box[b]? = some k)
    (hc : w.heap[k]? = some (.cells c e (0, 0))) (hl : ys.length = xs.length) (n : Nat) (os : Array Obj) :
    let w' := grow (putRow (Value.int .i64) (Sort.ahead w n) k 0 ys.toArray) os
    Inv m w' (H.set b (some (ys.map ci))) V ∧ Ext m w V m w' V := by
  intro w'
  have hkl := (Array.getElem?_eq_some_iff.1 hc).1
  have hcl : xs.length ≤ c.size := by
    obtain ⟨c', e', g1, g2, _⟩ := hi.alive hb hk ⟨c, e, _, hc⟩
    rw [hc] at g1; cases g1
    simpa using g2
  obtain ⟨s1, s2⟩ := step_store (o := 0) (us := ys.map (Value.int .i64)) (ds := ys.map ci) hi hb hk hc (relL_cis _ _ _ _) (fun u hu => by obtain ⟨z, _, rfl⟩ := List.mem_map.1 hu; rfl) (by simp; omega)
  have hnew := setRow_heap w k c ((c.toList.take 0 ++ ys.map (Value.int .i64) ++ c.toList.drop (0 + (ys.map (Value.int .i64)).length)).toArray) e (0, 0) hc
  have hoth := fun j hj => setRow_other w k j ((c.toList.take 0 ++ ys.map (Value.int .i64) ++ c.toList.drop (0 + (ys.map (Value.int .i64)).length)).toArray) hj
  have he : H.set b (some ((xs.map ci).take 0 ++ ys.map ci ++ (xs.map ci).drop (0 + (ys.map ci).length))) = H.set b (some (ys.map ci)) := by
    congr 2
    rw [List.drop_of_length_le (by simp; omega)]; simp
  rw [he] at s1
  obtain ⟨t1, t2⟩ := s1.more (w' := w') rfl rfl rfl (by simp [w', grow, World.setRow, putRow, mapBlock, Sort.ahead]) (fun j hj => by
    have hj' : j < w.heap.size := by simpa [World.setRow] using hj
    have hg : w'.heap[j]? = (putRow (Value.int .i64) (Sort.ahead w n) k 0 ys.toArray).heap[j]? := by
      show (_ ++ os)[j]? = _
      rw [Array.getElem?_append_left (by simpa [Sort.ahead] using hj')]
    rw [hg]
    show ((w.heap.modify k _)[j]?) = _
    rw [Array.getElem?_modify]
    by_cases hjk : k = j
    · subst hjk
      rw [if_pos rfl, hc, hnew]
      simp only [Option.map_some, onCells]
      congr 2
      apply Array.ext
      · simp [putCells]; omega
      · intro i h1 h2
        simp only [putCells, Array.getElem_mapIdx, Nat.zero_le, true_and, Nat.zero_add, List.size_toArray, List.getElem_toArray, List.take_zero, List.nil_append, List.length_map, Nat.sub_zero]
        by_cases hi2 : i < ys.length
        · rw [if_pos hi2, List.getElem_append_left (by simpa using hi2), List.getElem_map, getElem!_pos _ i (by simpa using hi2)]
          simp
        · rw [if_neg hi2, List.getElem_append_right (by simp; omega), List.getElem_drop]
          simp only [List.length_map, Array.getElem_toList]
          congr 1; omega
    · rw [if_neg hjk, hoth j (Ne.symm hjk)])
  exact ⟨t1, s2.trans t2⟩
theorem sortOK : SortOK where
  box H V b xs hb hx := by
    refine ⟨⟨Tryz.f123, Tryz.func123, rfl, by kernel_rfl⟩, fun m w us hi hu => ?_⟩
    rw [RelL] at hu
    obtain ⟨u, r, rfl, h1, h2⟩ := hu
    rw [RelL] at h2; subst h2
    rw [RelV] at h1
    obtain ⟨k, cap, c, e, rfl, g1, g2, hk, hc, g3⟩ := h1
    obtain ⟨c', e', q1, q2, q3, q4⟩ := hi.alive hb hk ⟨c, e, _, hc⟩
    rw [hc] at q1; cases q1
    have hH : Holds (Value.int .i64) w k 0 xs.toArray := by
      intro j hj
      have hj' : j < xs.length := by simpa using hj
      obtain ⟨v, a1, a2, _⟩ := relC_get q4 j (ci xs[j]) (by rw [List.getElem?_map, List.getElem?_eq_getElem hj']; rfl)
      rw [RelV] at a2; subst a2
      refine ⟨by rw [a1, getElem!_pos _ j (by simpa using hj')]; simp, ?_⟩
      simp [World.frozen?, hc]
    refine (AnyM.slices_Sort_int sortLay k 0 cap xs w hH (Array.getElem?_eq_some_iff.1 hc).1 (by omega)).mono ?_
    rintro _ _ ⟨rfl, n, os, rfl⟩
    obtain ⟨s1, s2⟩ := step_sorted (ys := xs.mergeSort fun x y => decide (x ≤ y)) hi hb hk hc (by simp) n os
    exact ⟨_, m, .any, _, _, rfl, ⟨_, fun y hy => by simpa using hy, by simp, rfl, rfl⟩, s1, by rw [RelV]; trivial, s2⟩
  none H V := by
    refine ⟨⟨Tryz.f123, Tryz.func123, rfl, by kernel_rfl⟩, fun m w us hi hu => ?_⟩
    rw [RelL] at hu
    obtain ⟨u, r, rfl, h1, h2⟩ := hu
    rw [RelL] at h2; subst h2
    rw [RelV] at h1
    obtain ⟨base, cap, rfl, g1, g2, g3, g4⟩ := h1
    refine (AnyM.slices_Sort_int_none sortLay base cap w).mono ?_
    rintro _ _ ⟨rfl, rfl⟩
    exact ⟨_, m, .any, _, _, rfl, ⟨rfl, rfl⟩, hi, by rw [RelV]; trivial, Ext.refl _ _ _⟩
end Go.Proofs.YtmgoflhjblombaaGreatDoor
namespace Go.Proofs.YtmgoflhjblombaaGreatDoor
open Go.Proofs Go.Shelf Go.Sort
theorem sortA : SortA where
  box H V b xs hb hx := by
    refine ⟨⟨Tryz.f123, Tryz.func123, rfl, by kernel_rfl⟩, fun m w us hi hu => ?_⟩
    rw [RelL] at hu
    obtain ⟨u, r, rfl, h1, h2⟩ := hu
    rw [RelL] at h2; subst h2
    rw [RelV] at h1
    obtain ⟨k, cap, c, e, rfl, g1, g2, hk, hc, g3⟩ := h1
    obtain ⟨c', e', q1, q2, q3, q4⟩ := hi.alive hb hk ⟨c, e, _, hc⟩
    rw [hc] at q1; cases q1
    have hH : Holds (Value.int .i64) w k 0 xs.toArray := by
      intro j hj
      have hj' : j < xs.length := by simpa using hj
      obtain ⟨v, a1, a2, _⟩ := relC_get q4 j (ci xs[j]) (by rw [List.getElem?_map, List.getElem?_eq_getElem hj']; rfl)
      rw [RelV] at a2; subst a2
      refine ⟨by rw [a1, getElem!_pos _ j (by simpa using hj')]; simp, ?_⟩
      simp [World.frozen?, hc]
    refine (AnyM.slices_Sort_int sortLay k 0 cap xs w hH (Array.getElem?_eq_some_iff.1 hc).1 (by omega)).mono ?_
    rintro _ _ ⟨rfl, n, os, rfl⟩
    obtain ⟨s1, s2⟩ := step_sorted (ys := xs.mergeSort fun x y => decide (x ≤ y)) hi hb hk hc (by simp) n os
    exact ⟨_, m, .any, _, _, rfl, ⟨rfl, rfl⟩, s1, by rw [RelV]; trivial, s2⟩
  none H V := by
    refine ⟨⟨Tryz.f123, Tryz.func123, rfl, by kernel_rfl⟩, fun m w us hi hu => ?_⟩
    rw [RelL] at hu
    obtain ⟨u, r, rfl, h1, h2⟩ := hu
    rw [RelL] at h2; subst h2
    rw [RelV] at h1
    obtain ⟨base, cap, rfl, g1, g2, g3, g4⟩ := h1
    refine (AnyM.slices_Sort_int_none sortLay base cap w).mono ?_
    rintro _ _ ⟨rfl, rfl⟩
    exact ⟨_, m, .any, _, _, rfl, ⟨rfl, rfl⟩, hi, by rw [RelV]; trivial, Ext.refl _ _ _⟩
def decF (l : List Int) (n : Nat) : Nat × List Int :=
  match l with
  | [] => (0, [])
  | c :: l => (((c.tmod n + n).tmod n).toNat, l)
def DecA (l : List Int) (n : Nat) (H : Hp) (V : List Nat) : CV → Hp → List Nat → Prop := fun r H' V' => ((decF l n).1 < n ∧ (decF l n).2.length ≤ l.length) ∧ r = .tup [ci (decF l n).1, .sl .sh 1 ((decF l n).2.map ic)] ∧ H = H' ∧ V = V'
theorem sdecideA_cc (H : Hp) (V : List Nat) (tk : Tk) (l : List Int) (n : Nat) (h0 : 0 < n) (hn : n ≤ 2000000) : CC Tryz.prog 113 [.sl tk 1 (l.map ic), ci n] H V (DecA l n H V) := by
  refine CC.of_swp Tryz.func113 rfl (by kernel_rfl) (by rw [Tryz.ntmps113]; exact len_le _ _ rfl) fun hok hokH => ?_
  clear hok
  refine SWp.seq (Wp.s ?_)
  simp -implicitDefEqProofs [go_sem, args0]
  refine SWp.seq (Wp.s ?_)
  cases l with
  | nil =>
    simp -implicitDefEqProofs [go_sem]
    exact Fin.pure (r' := .tup [ci 0, .sl .sh 1 (([] : List Int).map ic)]) ⟨⟨h0, Nat.le_refl _⟩, rfl, rfl, rfl⟩ (by simp) (by simp) (.tup (.cons (.refl _) (.cons (.nil 1 (by decide)) .nil))) (by rw [okV]; simp -implicitDefEqProofs [go_sem, okE_ints]) hokH
  | cons c l =>
  have hlp : ¬ ((((l.length : Nat) : Int) + 1) = 0) := by omega
  simp -implicitDefEqProofs [go_sem, hlp]
  refine SWp.seq (SWp.drawnL (List.range 13) (by kernel_rfl) (by kernel_rfl) rfl ?_)
  simp -implicitDefEqProofs [go_sem, List.range, List.range.loop]
  have hn0 : (0 : Int) < n := by omega
  have x1 := Int.tmod_lt_of_pos c hn0
  have x2 : -(n : Int) < c.tmod n := by
    have := Int.lt_tmod_of_pos c hn0
    omega
  have hw : IntKind.i64.wrap (c.tmod n + n) = c.tmod n + n := IntWalk.i64_in _ ⟨by omega, by omega⟩
  have y1 := Int.tmod_lt_of_pos (c.tmod n + n) hn0
  have y2 : 0 ≤ (c.tmod n + n).tmod n := Int.tmod_nonneg _ (by omega)
  have y3 : (decF (c :: l) n) = (((c.tmod n + n).tmod n).toNat, l) := rfl
  rw [hw]
  generalize (c.tmod n + n).tmod n = y at *
  obtain ⟨k, rfl⟩ := Int.eq_ofNat_of_zero_le y2
  refine ⟨by omega, Wp.s ?_⟩
  simp -implicitDefEqProofs [go_sem]
  exact Fin.pure (r' := .tup [ci k, .sl .sh 1 (l.map ic)]) (by unfold DecA; rw [y3]; exact ⟨⟨by show k < n; omega, by show l.length ≤ _; simp⟩, rfl, rfl, rfl⟩) (by simp) (by simp) (.tup (.cons (.refl _) (.cons (.sh _ _ _) .nil))) (by rw [okV]; simp -implicitDefEqProofs [go_sem, okE_ints]) hokH
def selF : List Int → List Int → List Int
  | [], _ => []
  | y :: ys, l => if (decF l 2).1 = 0 then selF ys (decF l 2).2 else y :: selF ys (decF l 2).2
theorem selF_mem : ∀ (ys l : List Int) (x : Int), x ∈ selF ys l → x ∈ ys
  | [], _, _, h => h
  | y :: ys, l, x, h => by
    rw [selF] at h
    split at h
    · exact List.mem_cons_of_mem _ (selF_mem _ _ _ h)
    · rcases List.mem_cons.1 h with rfl | h
      · exact List.mem_cons_self
      · exact List.mem_cons_of_mem _ (selF_mem _ _ _ h)
def SelS (d : Dk) (sel : List Int) (ss : List Sec) : Prop := ss.length = d.stable.length ∧ ∀ (i : Nat) (h : i < ss.length), ((i : Int) ∈ sel → ∃ c ∈ d.cache, c.pos = (i : Int) ∧ ss[i] = c.data) ∧ ((i : Int) ∉ sel → ∃ h' : i < d.stable.length, ss[i] = d.stable[i])
theorem SelS.nil (d : Dk) : SelS d [] d.stable := ⟨rfl, fun i h => ⟨fun h => (by cases h), fun _ => ⟨h, rfl⟩⟩⟩
theorem SelS.put {d : Dk} {sel : List Int} {ss : List Sec} {c : Cach} {n : Nat} (h : SelS d sel ss) (hc : c ∈ d.cache) (hn : c.pos = (n : Int)) : SelS d (sel ++ [(n : Int)]) (ss.set n c.data) := by
  obtain ⟨h1, h2⟩ := h
  refine ⟨by rw [List.length_set]; exact h1, fun i hi => ?_⟩
  rw [List.length_set] at hi
  rw [List.getElem_set]
  split
  · rename_i e; subst e
    exact ⟨fun _ => ⟨c, hc, hn, rfl⟩, fun h => absurd (List.mem_append_right _ (List.mem_singleton.2 rfl)) h⟩
  · rename_i e
    refine ⟨fun h => (h2 i hi).1 ?_, fun h => (h2 i hi).2 fun h' => h (List.mem_append_left _ h')⟩
    rcases List.mem_append.1 h with h | h
    · exact h
    · rw [List.mem_singleton] at h; omega
def EOkA (nv : Nat) (cs : List Cach) (es : List Vrs) (V : List Nat) : Prop := EOk nv cs es V ∧ es.map Vrs.key = cs.map Cach.pos ∧ ∀ e ∈ es, e.secs.length = 1
theorem EOkA.new {nv : Nat} {cs : List Cach} {es : List Vrs} {V : List Nat} {c : Cach} (he : EOkA nv cs es V) (hv : nv ≤ V.length) : EOkA nv (cs ++ [c]) (es ++ [⟨c.pos, V.length, 0, [c.data]⟩]) (V ++ [0]) := by
  refine ⟨he.1.new hv, by rw [List.map_append, List.map_append, he.2.1]; rfl, fun e m => ?_⟩
  rcases List.mem_append.1 m with m | m
  · exact he.2.2 e m
  · rw [List.mem_singleton] at m; rw [m]; rfl
theorem Mx_nodup {cs : List Cach} (h : (cs.map Cach.pos).Nodup) {i : Nat} (hi : i < cs.length) : cs[i].pos ∉ (cs.take i).map Cach.pos := fun hm => by
  obtain ⟨c, hc, e⟩ := List.mem_map.1 hm
  obtain ⟨k, hk, rfl⟩ := List.getElem_of_mem hc
  rw [List.length_take] at hk
  rw [List.getElem_take] at e
  have hp := List.pairwise_iff_getElem.1 h
  exact hp k i (by simp; omega) (by simpa using hi) (by omega) (by simpa using e)
def CrA (d : Dk) (l : List Int) (H : Hp) (V : List Nat) : CV → Hp → List Nat → Prop := fun r H' V' => ∃ (ss : List Sec) (l' : List Int), (SelS d (selF (srt (d.cache.map Cach.pos)) l) ss ∧ l'.length ≤ l.length) ∧ r = .tup [.agg (dkC ⟨ss, []⟩), .sl .sh 1 (l'.map ic)] ∧ H' = H ∧ V' = V
theorem sCrashA_cc (hs : SortA) (H : Hp) (V : List Nat) (d : Dk) (tk : Tk) (l : List Int) (hd : DkS d) (hc : checkD d = 0) (hll : l.length ≤ 1000000) (hnd : (d.cache.map Cach.pos).Nodup) : CC Tryz.prog 96 [.agg (dkC d), .sl tk 1 (l.map ic)] H V (CrA d l H V) := by
  refine CC.of_swp Tryz.func96 rfl (by kernel_rfl) (by rw [Tryz.ntmps96]; exact len_le _ _ rfl) fun hok hokH => ?_
  have htk : ∀ {a b : Nat}, H.length ≤ a → V.length ≤ b → okV a b (.sl tk 1 (l.map ic)) := fun ha hb => okV_mono ha hb (okL_iff.1 hok _ (by simp))
  clear hok
  have hl1 := hd.1
  have hl2 := hd.2
  refine SWp.seq (Wp.s ?_)
  simp -implicitDefEqProofs [go_sem, args0]
  refine SWp.seq (Wp.s ?_)
  simp -implicitDefEqProofs [go_sem]
  refine CC.mono (sCheck_cc _ _ d hd) ?_
  rintro _ _ _ ⟨rfl, rfl, rfl⟩
  simp -implicitDefEqProofs [go_sem, hc]
  refine SWp.seq (Wp.s ?_)
  simp -implicitDefEqProofs [go_sem]
  refine SWp.join (α := List Vrs × List Nat) (fun x => ([(1, .sl tk 1 (l.map ic)), (2, .ptr H.length 0), (4, .ptr (H.length + 1) 0), (6, .mv (H.length + 2))], H ++ [some (dkC d), some [.v (.slice none 0 0), .v (.slice none 0 0)], some [.objm (x.1.map Vrs.key) (x.1.map entV)]], x.2))
    (fun x => EOkA V.length d.cache x.1 x.2 ∧ V.length ≤ x.2.length ∧ x.2.take V.length = V) ?_ ?_
  · refine SWp.seq (Wp.s ?_)
    simp -implicitDefEqProofs [go_sem]
    refine SWp.block ?_
    refine SWp.loop (α := Nat × List Vrs × List Nat) (fun x => ([(1, .sl tk 1 (l.map ic)), (2, .ptr H.length 0), (4, .ptr (H.length + 1) 0), (6, .mv (H.length + 2)), (21, cachV d.cache), (22, ci d.cache.length), (23, ci x.1)], H ++ [some (dkC d), some [.v (.slice none 0 0), .v (.slice none 0 0)], some [.objm (x.2.1.map Vrs.key) (x.2.1.map entV)]], x.2.2))
      (fun x => x.1 ≤ d.cache.length ∧ EOkA V.length (d.cache.take x.1) x.2.1 x.2.2 ∧ V.length ≤ x.2.2.length ∧ x.2.2.take V.length = V) (fun x => d.cache.length - x.1) (0, [], V) ⟨Nat.zero_le _, ⟨⟨by simp, by simp, by simp⟩, by simp, by simp⟩, Nat.le_refl _, by simp⟩ (Sh.forget (by simp -implicitDefEqProofs [go_sem]) (by simp) rfl) ?_
    rintro ⟨i, es, V'⟩ ⟨hi, he, hv1, hv2⟩
    dsimp only at hi he hv1 hv2 ⊢
    refine SWp.seq (Wp.s ?_)
    simp -implicitDefEqProofs [go_sem]
    refine SWp.seq (Wp.s ?_)
    simp -implicitDefEqProofs [go_sem]
    refine ⟨fun h => ?_, fun h => ⟨es, V', ⟨by rw [List.take_of_length_le h] at he; exact he, hv1, hv2⟩, Sh.forget (by simp -implicitDefEqProofs [go_sem]) rfl rfl⟩⟩
    refine SWp.seq (SWp.block (SWp.seq (Wp.s ?_)))
    simp -implicitDefEqProofs [go_sem, h]
    refine SWp.drawnT [H.length + 3] [11] (.s 0 .pl <| .s 1 .pl <| .s 2 .ld <| .s 3 .pl <| .s 4 .pl <| .s 5 .ld <| .s 7 .pl <| .s 8 .ld <| .s 9 .pl <| .s 6 .pl <| .s 10 .pl <| .s 11 .st <| .n) (by kernel_rfl) (by kernel_rfl) ?_
    simp -implicitDefEqProofs [go_sem]
    rw [hbm_some (hget H _ 2)]
    rcases hk : keyAt (es.map Vrs.key) d.cache[i].pos with _ | j
    · simp -implicitDefEqProofs only [mlook, hk]
      simp -implicitDefEqProofs [go_sem]
      rw [hbm_some (hget H _ 2)]
      simp -implicitDefEqProofs only [mput, hk]
      refine ⟨fun b hb cs q => by rw [List.mem_singleton] at hb; subst hb; rw [hget] at q ⊢; exact q, Wp.s ?_⟩
      simp -implicitDefEqProofs [go_sem, wrap_succ (show i ≤ 1000000000 by omega)]
      have hn := he.new (c := d.cache[i]) hv1
      refine ⟨i + 1, _, _, ⟨by omega, by rw [List.take_succ_eq_append_getElem h]; exact hn, by simp; omega, by rw [List.take_append_of_le_length hv1]; exact hv2⟩, by omega, Sh.trim (L := [some (dkC d), some [.v (.slice none 0 0), .v (.slice none 0 0)], some [.objm _ _]]) ?_ ?_ hokH ?_ (by simp; omega) ?_ (List.take_of_length_le (Nat.le_refl _))⟩
      · simp -implicitDefEqProofs [go_sem]
      · exact ⟨htk (by simp) (by simp; omega), by simp -implicitDefEqProofs [go_sem]; rw [okV]; omega⟩
      · rw [okH_some, okH_some, okH_some]
        refine ⟨by simp -implicitDefEqProofs [go_sem], by simp -implicitDefEqProofs [go_sem], ?_, trivial⟩
        rw [okL, okV, okL]
        exact ⟨hn.1.okL, trivial⟩
      · simp [List.take_append, entV]
        exact List.take_of_length_le (by simp)
    · obtain ⟨hj, hjn⟩ := keyAt_lt hk
      rw [he.2.1] at hjn
      exact absurd (List.mem_of_getElem? hjn) (Mx_nodup hnd h)
  · rintro ⟨es, V1⟩ ⟨he, hv1, hv2⟩
    dsimp only at he hv1 hv2 ⊢
    by_cases h0 : d.stable = []
    · have hcc : d.cache = [] := by
        rcases hcl : d.cache with _ | ⟨c0, cs⟩
        · rfl
        · have := (checkD_0 hc).2 c0 (by rw [hcl]; simp)
          rw [h0] at this
          simp at this
      have hes : es = [] := by
        have := he.1.2.2
        rw [hcc] at this
        exact List.eq_nil_of_length_eq_zero (by simpa using this)
      subst hes
      refine SWp.seq (Wp.s ?_)
      simp -implicitDefEqProofs [go_sem]
      refine CC.mono (scloneS_cc _ _ .sh _ (by omega)) ?_
      rintro _ _ _ ⟨v, rfl, rfl, rfl⟩
      simp -implicitDefEqProofs [go_sem]
      refine SWp.seq (Wp.s ?_)
      simp -implicitDefEqProofs [go_sem]
      refine SWp.seq (SWp.seq (Wp.s ?_))
      simp -implicitDefEqProofs [go_sem]
      refine CC.mono (sKeys_cc _ _ (H.length + 2) (by simp)) ?_
      rintro _ _ _ ⟨rfl, rfl, rfl⟩
      simp -implicitDefEqProofs [go_sem]
      refine CC.mono (sSortedA_cc hs _ _ (H.length + 4) (H.length + 2) [] [] (hget H _ 4) (hget H _ 2) (by simp)) ?_
      rintro _ _ V9 ⟨rfl, rfl, eV⟩
      obtain rfl := eV.symm
      rw [show srt [] = [] from List.mergeSort_nil]
      simp -implicitDefEqProofs [go_sem]
      refine SWp.block ?_
      refine SWp.loop (α := Unit) (fun _ => ([(4, .ptr (H.length + 1) 0), (9, .ptr (H.length + 3) 0), (10, .sl tk 1 (l.map ic)), (47, ci 0), (48, ci 0)], H ++ [some (dkC d), some [.v (.slice none 0 0), .v (.slice none 0 0)], some [.objm [] []], some [.sl (.own V1.length v) 8 (d.stable.map secC), .v (.slice none 0 0)], some [.mv (H.length + 2)]], V1 ++ [v]))
        (fun _ => True) (fun _ => 0) () trivial (Sh.forget (by simp -implicitDefEqProofs [go_sem]) (by simp) rfl) ?_
      rintro - -
      dsimp only
      refine SWp.seq (Wp.s ?_)
      simp -implicitDefEqProofs [go_sem]
      refine SWp.seq (Wp.s ?_)
      simp -implicitDefEqProofs [go_sem]
      refine SWp.seq ?_
      refine SWp.drawnT [H.length + 3] [3] (.s 0 .ld <| .s 1 .pl <| .s 2 .pl <| .s 3 .st <| .s 4 .pl <| .n) (by kernel_rfl) (by kernel_rfl) ?_
      simp -implicitDefEqProofs [go_sem]
      refine CC.mono (scloneI_cc _ _ tk l (by omega)) ?_
      rintro _ _ _ ⟨v2, rfl, rfl, rfl⟩
      simp -implicitDefEqProofs [go_sem]
      refine ⟨fun b hb cs q => by rw [List.mem_singleton] at hb; subst hb; rw [hget] at q ⊢; exact q, Wp.s ?_⟩
      simp -implicitDefEqProofs [go_sem]
      refine Fin.pure (r' := .tup [.agg (dkC ⟨d.stable, []⟩), .sl .sh 1 (l.map ic)]) ⟨d.stable, l, ⟨by rw [hcc, List.map_nil, show srt [] = [] from List.mergeSort_nil]; exact .nil d, Nat.le_refl _⟩, rfl, rfl, rfl⟩ (by simp) ?_ (.tup (.cons (.agg (.cons (.sh _ _ _) (.cons (.nil 9 (by decide)) .nil))) (.cons (.sh _ _ _) .nil))) ?_ hokH
      · rw [List.take_append_of_le_length hv1]; exact hv2
      · simp -implicitDefEqProofs [go_sem, dkC, okE_secs, okE_ints, okE_cach]
    refine SWp.seq (Wp.s ?_)
    simp -implicitDefEqProofs [go_sem]
    refine CC.mono (scloneB_cc _ _ .sh _ h0 (by omega)) ?_
    rintro _ _ _ ⟨rfl, rfl, rfl⟩
    simp -implicitDefEqProofs [go_sem]
    refine SWp.seq (Wp.s ?_)
    simp -implicitDefEqProofs [go_sem]
    refine SWp.seq (SWp.seq (Wp.s ?_))
    simp -implicitDefEqProofs [go_sem]
    refine CC.mono (sKeys_cc _ _ (H.length + 2) (by simp)) ?_
    rintro _ _ _ ⟨rfl, rfl, rfl⟩
    simp -implicitDefEqProofs [go_sem]
    refine CC.mono (sSortedA_cc hs _ _ (H.length + 5) (H.length + 2) (es.map Vrs.key) (es.map entV) (hget H _ 5) (hget H _ 2) (by have := he.1.2.2; simp; omega)) ?_
    rintro _ _ V9 ⟨rfl, rfl, eV⟩
    obtain rfl := eV.symm
    obtain ⟨ys, hys⟩ : ∃ ys, ys = srt (es.map Vrs.key) := ⟨_, rfl⟩
    rw [← hys]
    have hyl : ys.length ≤ 1000000 := by rw [hys, srt_len, List.length_map]; have := he.1.2.2; omega
    have hy : ∀ y ∈ ys, y ∈ es.map Vrs.key := fun y hy => by rw [hys] at hy; exact srt_mem.1 hy
    simp -implicitDefEqProofs [go_sem]
    refine SWp.block ?_
    refine SWp.loop (α := Nat × (Tk × List Int) × List Sec) (fun x => ([(4, .ptr (H.length + 1) 0), (6, .mv (H.length + 2)), (9, .ptr (H.length + 4) 0), (10, .sl x.2.1.1 1 (x.2.1.2.map ic)), (46, .sl .sh 1 (ys.map ic)), (47, ci ys.length), (48, ci x.1)], H ++ [some (dkC d), some [.v (.slice none 0 0), .v (.slice none 0 0)], some [.objm (es.map Vrs.key) (es.map entV)], some (secsF x.2.2), some [.bsl (H.length + 3) 0 d.stable.length 8, .v (.slice none 0 0)], some [.mv (H.length + 2)]], V1))
      (fun x => x.1 ≤ ys.length ∧ (∃ dn, SelS d dn x.2.2 ∧ selF ys l = dn ++ selF (ys.drop x.1) x.2.1.2) ∧ (x.2.1.1 = tk ∨ x.2.1.1 = .sh) ∧ x.2.1.2.length ≤ l.length) (fun x => ys.length - x.1) (0, (tk, l), d.stable) ⟨Nat.zero_le _, ⟨[], .nil d, rfl⟩, .inl rfl, Nat.le_refl _⟩ (Sh.forget (by simp -implicitDefEqProofs [go_sem]) (by simp) rfl) ?_
    rintro ⟨i, ⟨tk', l'⟩, ss⟩ ⟨hi, ⟨dn, hm, hsel⟩, ht, hll'⟩
    dsimp only at hi hm hsel ht hll' ⊢
    refine SWp.seq (Wp.s ?_)
    simp -implicitDefEqProofs [go_sem]
    refine SWp.seq (Wp.s ?_)
    simp -implicitDefEqProofs [go_sem]
    refine ⟨fun h => ?_, fun h => ?_⟩
    · refine SWp.join (α := List Int × List Sec) (fun q => ([(4, .ptr (H.length + 1) 0), (6, .mv (H.length + 2)), (9, .ptr (H.length + 4) 0), (10, .sl .sh 1 (q.1.map ic)), (46, .sl .sh 1 (ys.map ic)), (47, ci ys.length), (48, ci i)], H ++ [some (dkC d), some [.v (.slice none 0 0), .v (.slice none 0 0)], some [.objm (es.map Vrs.key) (es.map entV)], some (secsF q.2), some [.bsl (H.length + 3) 0 d.stable.length 8, .v (.slice none 0 0)], some [.mv (H.length + 2)]], V1)) (fun q => (∃ dn, SelS d dn q.2 ∧ selF ys l = dn ++ selF (ys.drop (i + 1)) q.1) ∧ q.1.length ≤ l.length) ?_ (by
        rintro ⟨l2, ss'⟩ ⟨hm', hl2'⟩
        dsimp only at hm' hl2' ⊢
        refine Wp.s ?_
        simp -implicitDefEqProofs [go_sem, wrap_succ (show i ≤ 1000000000 by omega)]
        exact ⟨i + 1, .sh, l2, ss', ⟨by omega, hm', .inr rfl, hl2'⟩, by omega, Sh.forget (by simp -implicitDefEqProofs [go_sem]) rfl rfl⟩)
      refine SWp.block (SWp.seq (Wp.s ?_))
      simp -implicitDefEqProofs [go_sem, h]
      refine SWp.seq (Wp.s ?_)
      simp -implicitDefEqProofs [go_sem]
      refine SWp.seq (Wp.s ?_)
      simp -implicitDefEqProofs [go_sem]
      rw [hbm_some (hget H _ 2)]
      obtain ⟨j, hk⟩ : ∃ j, keyAt (es.map Vrs.key) ys[i] = some j := by
        rcases hk : keyAt (es.map Vrs.key) ys[i] with _ | j
        · have hm := hy _ (List.getElem_mem h)
          unfold keyAt at hk
          rw [List.findIdx?_eq_none_iff] at hk
          exact absurd (hk _ hm) (by simp)
        · exact ⟨j, rfl⟩
      obtain ⟨hj, hjn⟩ := keyAt_lt hk
      simp only [List.length_map] at hj
      have hje := he.1.2.1 es[j] (List.getElem_mem hj)
      have hone := he.2.2 es[j] (List.getElem_mem hj)
      have hjl : es[j].secs.length ≤ 1000000 := by have := hje.2.2.1; omega
      have hkj : es[j].key = ys[i] := by
        rw [List.getElem?_map, List.getElem?_eq_getElem hj] at hjn
        exact Option.some.inj hjn
      simp -implicitDefEqProofs only [mlook, hk, List.getElem?_map, List.getElem?_eq_getElem hj, Option.map_some, Option.getD_some, entV]
      simp -implicitDefEqProofs [go_sem, wrap_succ (show es[j].secs.length ≤ 1000000000 by omega)]
      refine CC.mono (sdecideA_cc _ _ tk' l' (es[j].secs.length + 1) (by omega) (by omega)) ?_
      rintro _ H9 V9 ⟨⟨hk2, hl2'⟩, rfl, eH, eV⟩
      subst eH eV
      rw [hone] at hk2 hl2' ⊢
      have hdr : selF (ys.drop i) l' = if (decF l' 2).1 = 0 then selF (ys.drop (i + 1)) (decF l' 2).2 else ys[i] :: selF (ys.drop (i + 1)) (decF l' 2).2 := by
        rw [List.drop_eq_getElem_cons h, selF]
      rw [hdr] at hsel
      generalize decF l' (1 + 1) = kl at *
      obtain ⟨k, l2⟩ := kl
      dsimp only at hk2 hl2' hsel ⊢
      simp -implicitDefEqProofs [go_sem]
      refine SWp.seq (Wp.s ?_)
      simp -implicitDefEqProofs [go_sem]
      refine Wp.s ?_
      simp -implicitDefEqProofs [go_sem]
      refine ⟨fun h2 => ?_, fun h2 => ⟨l2, ss, ⟨⟨dn, hm, by rw [hsel, if_pos (by omega)]⟩, by omega⟩, Sh.forget (by simp -implicitDefEqProofs [go_sem]) rfl rfl⟩⟩
      refine SWp.drawnT [H.length + 4] [11] (.s 0 .pl <| .s 1 .pl <| .s 2 .pl <| .s 3 .pl <| .s 4 .pl <| .s 6 .pl <| .s 7 .pl <| .s 5 .pl <| .s 8 .pl <| .s 9 .pl <| .s 10 .pl <| .s 11 .st <| .n) (by kernel_rfl) (by kernel_rfl) ?_
      simp -implicitDefEqProofs [go_sem]
      rw [hbm_some (hget H _ 2)]
      have hwk : IntKind.i64.wrap ((k : Int) - 1) = ((k - 1 : Nat) : Int) := by rw [IntWalk.i64_in _ ⟨by omega, by omega⟩]; omega
      have hk1 : k - 1 < es[j].secs.length := by omega
      obtain ⟨c0, hc0, hcp⟩ := hje.2.2.2.1
      have hpos := (checkD_0 hc).2 c0 hc0
      rw [hcp, hkj] at hpos
      simp -implicitDefEqProofs only [mlook, hk, List.getElem?_map, List.getElem?_eq_getElem hj, Option.map_some, Option.getD_some, entV, hwk]
      simp -implicitDefEqProofs [go_sem, hk1, hpos.1]
      obtain ⟨c1, hc1, hcp1, hcd1⟩ := hje.2.2.2.2 _ (List.getElem_mem hk1)
      refine ⟨by omega, by have := hm.1; omega, fun b hb cs q => by rw [List.mem_singleton] at hb; subst hb; rw [hget] at q ⊢; exact q, l2, ss.set ys[i].toNat es[j].secs[k - 1], ⟨?_, by omega⟩, Sh.forget (by simp -implicitDefEqProofs [go_sem]) ?_ rfl⟩
      · rw [← hcd1]
        refine ⟨dn ++ [((ys[i].toNat : Nat) : Int)], hm.put hc1 (by rw [hcp1, hkj]; omega), ?_⟩
        rw [hsel, if_neg (by omega), List.append_assoc, List.singleton_append, Int.toNat_of_nonneg (by omega)]
      · rw [secsF_set' (by have := hm.1; omega)]
    · refine SWp.seq ?_
      refine SWp.drawnT [H.length + 4] [3] (.s 0 .ld <| .s 1 .pl <| .s 2 .pl <| .s 3 .st <| .s 4 .pl <| .n) (by kernel_rfl) (by kernel_rfl) ?_
      simp -implicitDefEqProofs [go_sem]
      refine CC.mono (scloneI_cc _ _ tk' l' (by omega)) ?_
      rintro _ _ _ ⟨v, rfl, rfl, rfl⟩
      simp -implicitDefEqProofs [go_sem]
      refine ⟨fun b hb cs q => by rw [List.mem_singleton] at hb; subst hb; rw [hget] at q ⊢; exact q, Wp.s ?_⟩
      simp -implicitDefEqProofs [go_sem]
      refine Fin.frozG (b := H.length + 3) (cs := secsF ss) (r1 := .tup [.agg [.bsl (H.length + 3) 0 d.stable.length 8, cachV []], .sl .sh 1 (l'.map ic)]) (r2 := .tup [.agg (dkC ⟨ss, []⟩), .sl .sh 1 (l'.map ic)]) ⟨ss, l', ⟨by rw [he.2.1] at hys; rw [← hys, hsel, List.drop_of_length_le (by omega), selF, List.append_nil]; exact hm, hll'⟩, rfl, rfl, rfl⟩ (.tup (.cons (.agg (.cons (.refl _) (.cons (.nil 9 (by decide)) .nil))) (.cons (.sh _ _ _) .nil))) (by rw [hget]; rfl) ?_ (by omega) ?_ hokH (by simp) ?_
      · have hz := Fz.bsl (b := H.length + 3) (cs := secsF ss) 0 d.stable.length 8 (by have := hm.1; simp; omega)
        rw [List.drop_zero, ← hm.1, chunks_secs] at hz
        rw [← hm.1]
        exact .tup (.cons (.agg (.cons hz (.cons (.refl _) .nil))) (.cons (.refl _) .nil))
      · simp -implicitDefEqProofs [go_sem, dkC, okE_secs, okE_ints, okE_cach]
      · rw [List.take_append_of_le_length hv1]; exact hv2
def ItrA (d : Dk) (ops : List Opn) (a : Int) (l : List Int) (d' : Dk) (e : Nat) : Prop :=
  if checkD d ≠ 0 then e = checkD d ∧ d' = dk0
  else if a < 0 ∨ (ops.length : Int) < a then e = 2 ∧ d' = dk0
  else if (runR d (ops.take a.toNat)).2.2 ≠ 0 then e = (runR d (ops.take a.toNat)).2.2 ∧ d' = dk0
  else e = 0 ∧ d'.cache = [] ∧ SelS (runR d (ops.take a.toNat)).1 (selF (srt ((runR d (ops.take a.toNat)).1.cache.map Cach.pos)) l) d'.stable
def ItrQ (d : Dk) (ops : List Opn) (a : Int) (l : List Int) (H : Hp) (V : List Nat) : CV → Hp → List Nat → Prop := fun r H' V' => ∃ (d' : Dk) (l' : List Int) (e : Nat), (ItrA d ops a l d' e ∧ l'.length ≤ l.length) ∧ r = .tup [.agg (dkC d'), .sl .sh 1 (l'.map ic), er e] ∧ H' = H ∧ V' = V
theorem sInterruptA_cc (H : Hp) (V : List Nat) (d : Dk) (ops : List Opn) (a : Int) (tk : Tk) (l : List Int) (hl : d.stable.length ≤ 1000000) (hl2 : d.cache.length + tot ops ≤ 1000000) (hl3 : ops.length ≤ 1000000) (hll : l.length ≤ 1000000) (hnd : ((runR d (ops.take a.toNat)).1.cache.map Cach.pos).Nodup) (hs : SortA) :
    CC Tryz.prog 71 [.agg (dkC d), opsV ops, ci a, .sl tk 1 (l.map ic)] H V (ItrQ d ops a l H V) := by
  refine CC.of_swp Tryz.func71 rfl (by kernel_rfl) (by rw [Tryz.ntmps71]; exact len_le _ _ rfl) fun hok hokH => ?_
  clear hok
  have hd : DkS d := ⟨hl, by omega⟩
  have bad : ∀ (e : Nat) {H' : Hp} {V' : List Nat}, ItrA d ops a l dk0 e → H'.take H.length = H → V'.take V.length = V → Fin H.length V.length (ItrQ d ops a l H V) (.tup [.agg [.v (.slice none 0 0), .v (.slice none 0 0)], .v (.slice none 0 0), er e]) H' V' := fun e H' V' h1 h2 h3 =>
    Fin.pure (r' := .tup [.agg (dkC dk0), .sl .sh 1 (([] : List Int).map ic), er e]) ⟨dk0, [], e, ⟨h1, Nat.zero_le _⟩, rfl, rfl, rfl⟩ h2 h3 (.tup (.cons (.agg (.cons (.nil 8 (by decide)) (.cons (.nil 9 (by decide)) .nil))) (.cons (.nil 1 (by decide)) (.cons (.refl _) .nil)))) (by simp -implicitDefEqProofs [go_sem, dkC, okE_secs, okE_ints, okE_cach]) hokH
  refine SWp.seq (Wp.s ?_)
  simp -implicitDefEqProofs [go_sem, args0]
  refine SWp.seq (Wp.s ?_)
  simp -implicitDefEqProofs [go_sem]
  refine CC.mono (sCheck_cc _ _ d hd) ?_
  rintro _ _ _ ⟨rfl, rfl, rfl⟩
  simp -implicitDefEqProofs [go_sem]
  refine ⟨fun hc => ?_, fun hc => ?_⟩
  case refine_1 => exact bad _ (by rw [ItrA, if_pos hc]; exact ⟨rfl, rfl⟩) (by simp) (by simp)
  refine SWp.seq (Wp.s ?_)
  simp -implicitDefEqProofs [go_sem]
  refine ⟨fun h1 => ⟨fun h2 => ?_, fun h2 => ?_⟩, fun h1 => ?_⟩
  case refine_2.refine_1 => exact bad 2 (by rw [ItrA, if_neg (by simp [hc]), if_pos (.inr h2)]; exact ⟨rfl, rfl⟩) (by simp) (by simp)
  case refine_2.refine_3 => exact bad 2 (by rw [ItrA, if_neg (by simp [hc]), if_pos (.inl h1)]; exact ⟨rfl, rfl⟩) (by simp) (by simp)
  obtain ⟨a, rfl⟩ := Int.eq_ofNat_of_zero_le h1
  have h2' : a ≤ ops.length := by omega
  refine SWp.seq (SWp.drawnT [] [10] (.s 0 .pl <| .s 1 .pl <| .s 2 .pl <| .s 3 .pl <| .c 4 <| .s 5 .pl <| .s 6 .pl <| .s 7 .pl <| .s 8 .pl <| .s 9 .pl <| .s 10 .st <| .s 11 .pl <| .s 12 .pl <| .n) (by kernel_rfl) (by kernel_rfl) ?_)
  simp -implicitDefEqProofs [go_sem, h2']
  have htt := tot_take ops a
  refine ⟨runV (runR d (ops.take a)), fun H V => ?_, ?_⟩
  · show CC Tryz.prog 22 [.agg (dkC d), .sl .sh 3 ((ops.map opC).take a)] H V _
    rw [← List.map_take]
    exact sRun_cc H V d (ops.take a) hl (by omega) (by rw [List.length_take]; omega)
  have hI : ∀ d' e, ItrA d ops a l d' e = if (runR d (ops.take a)).2.2 ≠ 0 then e = (runR d (ops.take a)).2.2 ∧ d' = dk0 else e = 0 ∧ d'.cache = [] ∧ SelS (runR d (ops.take a)).1 (selF (srt ((runR d (ops.take a)).1.cache.map Cach.pos)) l) d'.stable := fun d' e => by
    rw [ItrA, if_neg (by simp [hc]), if_neg (by omega)]; rfl
  have hinv := fun h => runR_inv (d := d) (ops := ops.take a) h
  rw [Int.toNat_natCast] at hnd
  generalize hr : runR d (ops.take a) = r at *
  obtain ⟨d2, n2, e2⟩ := r
  simp -implicitDefEqProofs [go_sem, runV]
  refine SWp.seq (Wp.s ?_)
  simp -implicitDefEqProofs [go_sem]
  refine ⟨fun he => bad e2 (by rw [hI, if_pos he]; exact ⟨rfl, rfl⟩) (by simp) (by simp), fun he => ?_⟩
  obtain ⟨i1, i2, i3, i4⟩ := hinv he
  dsimp only at i2 i3 i4
  refine SWp.seq (Wp.s ?_)
  simp -implicitDefEqProofs [go_sem]
  refine CC.mono (sCrashA_cc hs _ _ d2 tk l ⟨by omega, by omega⟩ i2 hll hnd) ?_
  rintro _ _ _ ⟨s3, l3, ⟨hm, hl3'⟩, rfl, rfl, rfl⟩
  simp -implicitDefEqProofs [go_sem]
  refine SWp.seq (Wp.s ?_)
  simp -implicitDefEqProofs [go_sem]
  refine Wp.s ?_
  simp -implicitDefEqProofs [go_sem]
  exact Fin.pure (r' := .tup [.agg (dkC ⟨s3, []⟩), .sl .sh 1 (l3.map ic), er 0]) ⟨⟨s3, []⟩, l3, 0, ⟨by rw [hI, if_neg (by simp [he])]; exact ⟨rfl, rfl, hm⟩, hl3'⟩, rfl, rfl, rfl⟩ (by simp) (by simp) (.refl _) (by simp -implicitDefEqProofs [go_sem, dkC, okE_secs, okE_ints, okE_cach]) hokH
end Go.Proofs.YtmgoflhjblombaaGreatDoor
namespace Go.Proofs.YtmgoflhjblombaaGreatDoor
open Go.Proofs
theorem clone_cc (H : Hp) (V : List Nat) (tk : Tk) (xs : List (List CV)) (hx : xs.length ≤ 1000000000) : CC Tryz.prog 83 [.sl tk 1 xs] H V (Fr 1 xs H V) := by
  refine CC.of_swp Tryz.func83 rfl (by kernel_rfl) (by rw [Tryz.ntmps83]; exact len_le _ _ rfl) fun hok hokH => Wp.s ?_
  simp -implicitDefEqProofs [go_sem, args0]
  simp [okL, okV] at hok
  refine ⟨⟨by omega, ?_⟩, fun h => ?_⟩
  · exact Fin.fr hok.2 hokH (by simp)
  · exact Fin.frtok (by omega) (.inl ⟨rfl, h⟩) hok.2 hokH (by simp) (by simp)

theorem encN_lt {n : Nat} (h : n < 128) : encN n = [UInt8.ofNat n] := by rw [encN, dif_pos h]
theorem encN_ge {n : Nat} (h : 128 ≤ n) : encN n = UInt8.ofNat (n % 128 + 128) :: encN (n / 128) := by rw [encN, dif_neg (by omega)]
theorem or128' : (List.range 128).all (fun n => bitop .or .u8 (n : Int) 128 == (n : Int) + 128) = true := by decide +kernel
theorem or128 (n : Nat) : bitop .or .u8 (IntKind.u8.wrap ((n : Int).tmod 128)) 128 = ((UInt8.ofNat (n % 128 + 128)).toNat : Int) := by
  have h := List.all_eq_true.1 or128' (n % 128) (by simp; omega)
  simp at h
  have e : IntKind.u8.wrap ((n : Int).tmod 128) = ((n % 128 : Nat) : Int) := by
    rw [IntKind.wrap_u8, Int.tmod_eq_emod_of_nonneg (by omega)]; omega
  rw [e, UInt8.toNat_ofNat']
  have h2 : ((n % 128 : Nat) : Int) = (n : Int) % 128 := by omega
  rw [h2, h]
  omega
theorem norm_lt (n : Int) : norm n ≤ 9007199254740991 := by unfold norm; split <;> omega
theorem quo128 (n : Nat) (h : n ≤ 9007199254740991) : IntKind.i64.wrap ((n : Int) / 128) = ((n / 128 : Nat) : Int) := by
  rw [IntWalk.i64_in _ ⟨by omega, by omega⟩]; omega
theorem byt_nat (n : Nat) : byt (n : Int) = UInt8.ofNat n := by
  apply UInt8.toNat_inj.1
  have h := byt_toNat (n : Int)
  rw [UInt8.toNat_ofNat']
  omega
theorem set_self {V : List Nat} {k v : Nat} (h : V[k]? = some v) : V.set k v = V := by
  obtain ⟨h1, h2⟩ := List.getElem?_eq_some_iff.1 h
  rw [← h2]; exact List.set_getElem_self h1

theorem encN_len : ∀ (k n : Nat), n < 128 ^ (k + 1) → (encN n).length ≤ k + 1
  | 0, n, h => by rw [encN_lt (by simpa using h)]; simp
  | k + 1, n, h => by
    by_cases hn : n < 128
    · rw [encN_lt hn]; simp
    · rw [encN_ge (by omega), List.length_cons]
      have := encN_len k (n / 128) (by rw [Nat.div_lt_iff_lt_mul (by omega)]; rwa [← Nat.pow_succ])
      omega
theorem enc_len (n : Int) : (enc n).length ≤ 8 := encN_len 7 _ (Nat.lt_of_le_of_lt (norm_lt n) (by decide))
theorem snoc_or (l : List UInt8) (n : Nat) : bs l ++ [[CV.v (.int .u8 (bitop .or .u8 (IntKind.u8.wrap ((n : Int).tmod 128)) 128))]] = bs (l ++ [UInt8.ofNat (n % 128 + 128)]) := by
  rw [or128, bs, bs, List.map_append]; rfl

theorem putInt_cc (H : Hp) (V : List Nat) (k v : Nat) (l : List UInt8) (n : Int) (hv : V[k]? = some v) (hl : l.length ≤ 1000000000) :
    CC Tryz.prog 115 [.sl (.own k v) 1 (bs l), .v (.int .i64 n)] H V (Ow k 1 (bs (l ++ enc n)) H V) := by
  have hk : k < V.length := (List.getElem?_eq_some_iff.1 hv).1
  have hel := enc_len n
  refine CC.of_swp Tryz.func115 rfl (by kernel_rfl) (by rw [Tryz.ntmps115]; exact len_le _ _ rfl) fun hok hokH => ?_
  clear hok
  refine SWp.seq (Wp.s ?_)
  simp -implicitDefEqProofs [go_sem, args0]
  refine SWp.join (α := Unit) (fun _ => ([(0, .sl (.own k v) 1 (bs l)), (1, .v (.int .i64 (norm n)))], H, V)) (fun _ => True) ?_ ?_
  · refine Wp.s ?_
    simp -implicitDefEqProofs [go_sem]
    refine ⟨fun h1 => ⟨fun h2 => ?_, fun h2 => ?_⟩, fun h1 => ?_⟩
    all_goals exact Sh.forget (by simp -implicitDefEqProofs [go_sem]; exact .int (by unfold norm; split <;> omega)) rfl rfl
  · rintro _ -
    refine SWp.join (α := Nat × List UInt8 × Nat) (fun x => ([(0, .sl (.own k x.1) 1 (bs x.2.1)), (1, .v (.int .i64 x.2.2))], H, V.set k x.1)) (fun x => x.2.2 < 128 ∧ x.2.1 ++ encN x.2.2 = l ++ enc n) ?_ ?_
    · refine SWp.block ?_
      refine SWp.loop (α := Nat × List UInt8 × Nat) (fun x => ([(0, .sl (.own k x.1) 1 (bs x.2.1)), (1, .v (.int .i64 x.2.2))], H, V.set k x.1)) (fun x => x.2.2 ≤ 9007199254740991 ∧ x.2.1 ++ encN x.2.2 = l ++ enc n) (fun x => x.2.2) (v, l, norm n) ⟨norm_lt n, rfl⟩ (Sh.forget (by simp -implicitDefEqProofs [go_sem]) rfl (set_self hv).symm) ?_
      rintro ⟨v1, l1, n1⟩ ⟨hb, h4⟩
      dsimp only at hb h4
      have hlen := congrArg List.length h4
      simp only [List.length_append] at hlen
      refine Wp.s ?_
      simp -implicitDefEqProofs [go_sem, hk, quo128 n1 hb, snoc_or]
      refine ⟨fun h => ⟨by omega, v1 + 1, l1 ++ [UInt8.ofNat (n1 % 128 + 128)], n1 / 128, ⟨by omega, ?_⟩, by omega, Sh.forget (by simp -implicitDefEqProofs [go_sem]) rfl rfl⟩, fun h => ⟨v1, l1, n1, ⟨by omega, h4⟩, Sh.forget (by simp -implicitDefEqProofs [go_sem]) rfl rfl⟩⟩
      rw [← h4, encN_ge (n := n1) (by omega)]; simp
    · rintro ⟨v1, l1, n1⟩ ⟨h1, h3⟩
      dsimp only at h1 h3
      have hlen := congrArg List.length h3
      simp only [List.length_append] at hlen
      refine Wp.s ?_
      simp -implicitDefEqProofs [go_sem, hk, byt_nat]
      exact ⟨by omega, Fin.ownB hk (by rw [← h3, encN_lt h1]) hokH (by simp)⟩

theorem PutInt_cc (H : Hp) (V : List Nat) (tk : Tk) (l : List UInt8) (n : Int) (hl : l.length ≤ 1000000000) :
    CC Tryz.prog 98 [.sl tk 1 (bs l), .v (.int .i64 n)] H V (Fr 1 (bs (l ++ enc n)) H V) := by
  refine CC.of_swp Tryz.func98 rfl (by kernel_rfl) (by rw [Tryz.ntmps98]; exact len_le _ _ rfl) fun hok hokH => Wp.s ?_
  simp -implicitDefEqProofs [go_sem, args0]
  refine CC.mono (clone_cc _ _ _ _ (by simpa using hl)) ?_
  rintro _ _ _ ⟨v, rfl, rfl, rfl⟩
  try simp -implicitDefEqProofs [go_sem]
  refine CC.mono (putInt_cc _ _ _ _ _ _ (by simp) hl) ?_
  rintro _ _ _ ⟨v', rfl, rfl, rfl⟩
  simp -implicitDefEqProofs [go_sem]
  exact Fin.freshB rfl hokH (by simp)

end Go.Proofs.YtmgoflhjblombaaGreatDoor
namespace Go.Proofs.YtmgoflhjblombaaGreatDoor
open Go.Proofs
end Go.Proofs.YtmgoflhjblombaaGreatDoor
namespace Go.Proofs.YtmgoflhjblombaaGreatDoor
open Go.Proofs
end Go.Proofs.YtmgoflhjblombaaGreatDoor
namespace Go.Proofs.YtmgoflhjblombaaGreatDoor
open Go.Proofs
section
variable {P : Program} {H : Hp} {V : List Nat}
theorem CC.args {f : FuncId} {xs ys : List CV} {R : CV → Hp → List Nat → Prop} (h : LeL xs ys) (hc : CC P f ys H V R) : CC P f xs H V R :=
  ⟨hc.1, fun m w us hi hu => hc.2 m w us hi (LeL.rel h hu)⟩
end
theorem LeL.self : ∀ l : List CV, LeL l l
  | [] => .nil
  | c :: l => .cons (.refl c) (LeL.self l)
@[go_sem] theorem sec_snoc (l : List UInt8) (s : Sec) (j : Nat) (h : j < (secC s).length) : bs l ++ [(secC s)[j].cells] = bs (l ++ [s.val[j]'(by simpa [s.len] using h)]) := by
  simp only [bs, secC, List.getElem_map, List.map_append]; rfl
@[go_sem] theorem sec_cells (s : Sec) (j : Nat) (h : j < (secC s).length) : (secC s)[j].cells.length = 1 ∧ allOne (secC s)[j].cells = true := by
  simp only [secC, List.getElem_map]; exact ⟨rfl, rfl⟩
end Go.Proofs.YtmgoflhjblombaaGreatDoor
namespace Go.Proofs.YtmgoflhjblombaaGreatDoor
open Go.Proofs
theorem and127 (x : UInt8) : bitop .and .u8 (x.toNat : Int) 127 = ((x.toNat % 128 : Nat) : Int) := by
  have h : (List.range 256).all (fun n => bitop .and .u8 (n : Int) 127 == ((n % 128 : Nat) : Int)) = true := by decide +kernel
  have h1 := List.all_eq_true.1 h x.toNat (List.mem_range.2 x.toNat_lt)
  exact eq_of_beq h1
theorem and128 (x : UInt8) : bitop .and .u8 (x.toNat : Int) 128 = if x.toNat < 128 then 0 else 128 := by
  have h : (List.range 256).all (fun n => bitop .and .u8 (n : Int) 128 == if n < 128 then 0 else 128) = true := by decide +kernel
  have h1 := List.all_eq_true.1 h x.toNat (List.mem_range.2 x.toNat_lt)
  exact eq_of_beq h1
theorem wrap_nat {n : Nat} (h : n < 9223372036854775808) : IntKind.i64.wrap (n : Int) = (n : Int) := IntWalk.i64_in _ ⟨by omega, by omega⟩
theorem pow128 (i : Nat) : 128 ^ i = 2 ^ (7 * i) := by rw [Nat.pow_mul]
theorem part_lt {a i : Nat} (hi : i < 8) (ha : a < 128) : a * 128 ^ i < 72057594037927936 := by
  have h2 : 128 ^ i ≤ 128 ^ 7 := Nat.pow_le_pow_right (by omega) (by omega)
  have h3 : a * 128 ^ i ≤ 127 * 128 ^ 7 := Nat.mul_le_mul (by omega) h2
  have h4 : 127 * 128 ^ 7 < 72057594037927936 := by decide
  omega
theorem or_shift {n a i : Nat} (hi : i < 8) (hn : n < 128 ^ i) (ha : a < 128) : bitop .or .i64 (n : Int) (shl .i64 (a : Int) (IntKind.i64.wrap (7 * (i : Int)))) = ((n + a * 128 ^ i : Nat) : Int) := by
  have h1 := part_lt hi ha
  have h2 : 128 ^ i ≤ 128 ^ 7 := Nat.pow_le_pow_right (by omega) (by omega)
  have h3 : (128 : Nat) ^ 7 = 562949953421312 := by decide
  have e0 : IntKind.i64.wrap (7 * (i : Int)) = ((7 * i : Nat) : Int) := by rw [IntWalk.i64_in _ ⟨by omega, by omega⟩]; omega
  have e1 : shl .i64 (a : Int) (IntKind.i64.wrap (7 * (i : Int))) = ((a * 128 ^ i : Nat) : Int) := by
    rw [e0, shl]
    have hb : min ((7 * i : Nat) : Int).toNat IntKind.i64.bits = 7 * i := by
      have : IntKind.i64.bits = 64 := rfl
      omega
    rw [hb]
    have hc : ((a : Int) * 2 ^ (7 * i)) = ((a * 128 ^ i : Nat) : Int) := by rw [pow128]; simp
    rw [hc, wrap_nat (by omega)]
  rw [e1]
  have e2 : (BitVec.ofInt 64 (n : Int) ||| BitVec.ofInt 64 ((a * 128 ^ i : Nat) : Int)).toNat = n + a * 128 ^ i := by
    rw [BitVec.toNat_or, BitVec.ofInt_natCast, BitVec.ofInt_natCast, BitVec.toNat_ofNat, BitVec.toNat_ofNat, Nat.mod_eq_of_lt (by omega), Nat.mod_eq_of_lt (by omega), Nat.or_comm, pow128, ← Nat.shiftLeft_eq, ← Nat.shiftLeft_add_eq_or_of_lt (by rw [← pow128]; exact hn), Nat.add_comm]
  have e3 : bitop .or .i64 (n : Int) ((a * 128 ^ i : Nat) : Int) = IntKind.i64.wrap ((BitVec.ofInt 64 (n : Int) ||| BitVec.ofInt 64 ((a * 128 ^ i : Nat) : Int)).toNat : Int) := rfl
  rw [e3, e2, wrap_nat (by omega)]

def numG : Nat → Nat → Nat → List UInt8 → Except Nat (Nat × List UInt8)
  | 0, _, _, _ => .error 3
  | _ + 1, _, _, [] => .error 10
  | f + 1, i, n, b :: r =>
    if b.toNat < 128 then
      if (b.toNat = 0 ∧ 0 < i) ∨ 9007199254740991 < n + b.toNat * 128 ^ i then .error 3 else .ok (n + b.toNat * 128 ^ i, r)
    else numG f (i + 1) (n + b.toNat % 128 * 128 ^ i) r
def number (src : List UInt8) : Except Nat (Nat × List UInt8) := numG 8 0 0 src

def Cur {α : Type} (b : Nat) (tk : Tk) (val : α → CV) (zero : CV) (x : Except Nat (α × List UInt8)) (H : Hp) (V : List Nat) : CV → Hp → List Nat → Prop := fun r H' V' =>
  match x with
  | .ok (a, s) => r = .tup [val a, Go.Proofs.YtmgoflhjblombaaGreatDoor.er 0] ∧ H.set b (some [.sl tk 1 (bs s)]) = H' ∧ V = V'
  | .error e => r = .tup [zero, Go.Proofs.YtmgoflhjblombaaGreatDoor.er e] ∧ H = H' ∧ V = V'
section
variable {H : Hp} {V : List Nat} {b : Nat} {tk : Tk} {src : List UInt8}
theorem Fin.curErr {α : Type} {val : α → CV} {zero z c : CV} {x : Except Nat (α × List UInt8)} {e : Nat} (hx : x = .error e) (hz : okV H.length V.length zero) (h1 : z = zero) (h2 : c = Go.Proofs.YtmgoflhjblombaaGreatDoor.er e) (hokH : ∀ (b : Nat) cs, H[b]? = some (some cs) → okL H.length V.length cs) {H' : Hp} {V' : List Nat} (hH : H'.take H.length = H) (hV : V'.take V.length = V) :
    Fin H.length V.length (Cur b tk val zero x H V) (.tup [z, c]) H' V' := by
  subst hx h1 h2
  exact Fin.pure (by exact ⟨rfl, rfl, rfl⟩) hH hV (.refl _) (by simp -implicitDefEqProofs [go_sem, hz]) hokH
theorem ok_set {jb jv : Nat} {c : List CV} (hc : okL jb jv c) (hokH : ∀ (b : Nat) cs, H[b]? = some (some cs) → okL jb jv cs) (b' : Nat) (cs : List CV) (h : (H.set b (some c))[b']? = some (some cs)) : okL jb jv cs := by
  by_cases hb : b = b'
  · subst hb
    by_cases hl : b < H.length
    · rw [List.getElem?_set_self hl] at h; cases h; exact hc
    · rw [List.set_eq_of_length_le (by omega)] at h; exact hokH _ _ h
  · rw [List.getElem?_set_ne hb] at h; exact hokH _ _ h
theorem tk_of_box {n m sz : Nat} {xs : List (List CV)} {r : List CV} (hb : H[b]? = some (some (.sl tk sz xs :: r))) (hokH : ∀ (b : Nat) cs, H[b]? = some (some cs) → okL n m cs) : okTk m tk := by
  have := hokH b _ hb
  rw [okL, okV] at this; exact this.1.1
theorem Fin.curOk {α : Type} {val : α → CV} {zero z c : CV} {x : Except Nat (α × List UInt8)} {a : α} {s : List UInt8} (hx : x = .ok (a, s)) (hz : okV H.length V.length (val a)) (h1 : Le z (val a)) (h2 : c = Go.Proofs.YtmgoflhjblombaaGreatDoor.er 0) (ht : okTk V.length tk) (hokH : ∀ (b : Nat) cs, H[b]? = some (some cs) → okL H.length V.length cs) {H' : Hp} {V' : List Nat} (hH : H'.take H.length = H.set b (some [.sl tk 1 (bs s)])) (hV : V'.take V.length = V) :
    Fin H.length V.length (Cur b tk val zero x H V) (.tup [z, c]) H' V' := by
  subst hx h2
  exact Fin.pure (r' := .tup [val a, Go.Proofs.YtmgoflhjblombaaGreatDoor.er 0]) (by exact ⟨rfl, rfl, rfl⟩) hH hV (.tup (.cons h1 (.cons (.refl _) .nil))) (by simp -implicitDefEqProofs [go_sem, hz]) (ok_set (by simp -implicitDefEqProofs [go_sem, okV_slt, ht]) hokH)
end
set_option maxHeartbeats 1000000 in
theorem number_cc (H : Hp) (V : List Nat) (b : Nat) (tk : Tk) (src : List UInt8) (hb : H[b]? = some (some [.sl tk 1 (bs src)])) :
    CC Tryz.prog 85 [.ptr b 0] H V (Cur b tk (fun n : Nat => ci n) (ci 0) (number src) H V) := by
  refine CC.of_swp Tryz.func85 rfl (by kernel_rfl) (by rw [Tryz.ntmps85]; exact len_le _ _ rfl) fun hok hokH => ?_
  refine SWp.seq (Wp.s ?_)
  simp -implicitDefEqProofs [go_sem, args0]
  refine SWp.seq (Wp.s ?_)
  simp -implicitDefEqProofs [go_sem]
  refine SWp.join (α := Unit) (fun _ => ([], H, V)) (fun _ => number src = .error 3) ?_ ?_
  · refine SWp.seq (Wp.s ?_)
    simp -implicitDefEqProofs [go_sem]
    refine SWp.block ?_
    refine SWp.loop (α := Nat × Nat) (fun x => ([(0, .ptr b 0), (4, ci x.1), (7, ci x.2)], H, V)) (fun x => x.2 ≤ 8 ∧ x.1 < 128 ^ x.2 ∧ numG (8 - x.2) x.2 x.1 (src.drop x.2) = number src) (fun x => 8 - x.2) (0, 0) ⟨by omega, by simp, rfl⟩ (Sh.forget (by simp -implicitDefEqProofs [go_sem]) rfl rfl) ?_
    rintro ⟨n, i⟩ ⟨hi, hn, h⟩
    dsimp only at hi hn h ⊢
    by_cases h8 : i < 8
    · by_cases hs : i < src.length
      · rw [show 8 - i = (7 - i) + 1 by omega, List.drop_eq_getElem_cons hs, numG] at h
        have e' : IntKind.i64.wrap ((src[i].toNat : Int) % 128) = ((src[i].toNat % 128 : Nat) : Int) := by
          rw [show (src[i].toNat : Int) % 128 = ((src[i].toNat % 128 : Nat) : Int) by omega]; exact wrap_nat (by omega)
        have e : bitop .or .i64 n (shl .i64 (IntKind.i64.wrap ((src[i].toNat : Int) % 128)) (IntKind.i64.wrap (7 * (i : Int)))) = ((n + src[i].toNat % 128 * 128 ^ i : Nat) : Int) := by
          rw [e']; exact or_shift h8 hn (by omega)
        have e7 : 0 ≤ IntKind.i64.wrap (7 * (i : Int)) := by rw [IntWalk.i64_in _ ⟨by omega, by omega⟩]; omega
        have hlt : n + src[i].toNat % 128 * 128 ^ i < 128 ^ (i + 1) := by
          have h1 : src[i].toNat % 128 * 128 ^ i ≤ 127 * 128 ^ i := Nat.mul_le_mul_right _ (by omega)
          rw [Nat.pow_succ]; omega
        have hmod : src[i].toNat < 128 → src[i].toNat % 128 = src[i].toNat := fun h => Nat.mod_eq_of_lt h
        generalize hN : n + src[i].toNat % 128 * 128 ^ i = N at *
        refine Wp.s ?_
        simp -implicitDefEqProofs [go_sem, hbx_some hb, and127, and128, e, e7, hs, wrap_succ (show i ≤ 1000000000 by omega), show (i : Int) < 8 by omega]
        have hT := tk_of_box hb hokH
        refine ⟨fun hq => absurd hq (by omega), fun h1 => ?_, fun h1 => ⟨fun h2 => ⟨fun h3 => ⟨fun h4 => ?_, fun h4 => ⟨by omega, by omega, ?_⟩⟩, fun h3 => ?_⟩, fun h2 => ⟨fun h4 => ?_, fun h4 => ⟨by omega, by omega, ?_⟩⟩⟩⟩
        · rw [if_neg (by omega)] at h
          refine ⟨N, i + 1, ⟨by omega, hlt, ?_⟩, by omega, Sh.forget (by simp -implicitDefEqProofs [go_sem]) rfl rfl⟩
          rw [show 8 - (i + 1) = 7 - i by omega]; exact h
        all_goals
          rw [if_pos h1, ← hmod h1, hN] at h
        · rw [if_pos (by omega)] at h
          exact Fin.curErr h.symm (by simp -implicitDefEqProofs [go_sem]) rfl rfl hokH (by simp) (by simp)
        · rw [if_neg (by omega)] at h
          exact Fin.curOk h.symm (by simp -implicitDefEqProofs [go_sem]) (.refl _) rfl hT hokH (by simp) (by simp)
        · rw [if_pos (by have := hmod h1; omega)] at h
          exact Fin.curErr h.symm (by simp -implicitDefEqProofs [go_sem]) rfl rfl hokH (by simp) (by simp)
        · rw [if_pos (by omega)] at h
          exact Fin.curErr h.symm (by simp -implicitDefEqProofs [go_sem]) rfl rfl hokH (by simp) (by simp)
        · rw [if_neg (by have := hmod h1; omega)] at h
          exact Fin.curOk h.symm (by simp -implicitDefEqProofs [go_sem]) (.refl _) rfl hT hokH (by simp) (by simp)
      · rw [show 8 - i = (7 - i) + 1 by omega, List.drop_eq_nil_of_le (by omega), numG] at h
        refine Wp.s ?_
        simp -implicitDefEqProofs [go_sem, hbx_some hb, show (i : Int) < 8 by omega, show src.length ≤ i by omega]
        exact Fin.curErr h.symm (by simp -implicitDefEqProofs [go_sem]) rfl rfl hokH (by simp) (by simp)
    · rw [show 8 - i = 0 by omega, numG] at h
      refine Wp.s ?_
      simp -implicitDefEqProofs [go_sem, show ¬ ((i : Int) < 8) by omega]
      exact ⟨h.symm, Sh.forget (by simp -implicitDefEqProofs [go_sem]) rfl rfl⟩
  · rintro _ he
    refine Wp.s ?_
    simp -implicitDefEqProofs [go_sem]
    exact Fin.curErr he (by simp -implicitDefEqProofs [go_sem]) rfl rfl hokH (by simp) (by simp)
end Go.Proofs.YtmgoflhjblombaaGreatDoor
namespace Go.Proofs.YtmgoflhjblombaaGreatDoor
open Go.Proofs
def rdv {α : Type} (val : α → CV) (zero : CV) : Except Nat (α × List UInt8) → CV
  | .ok (a, s) => .tup [val a, .sl .sh 1 (bs s), Go.Proofs.YtmgoflhjblombaaGreatDoor.er 0]
  | .error e => .tup [zero, .v (.slice none 0 0), Go.Proofs.YtmgoflhjblombaaGreatDoor.er e]
theorem number_len : ∀ (f i n : Nat) (src : List UInt8) {m : Nat} {r : List UInt8}, numG f i n src = .ok (m, r) → r.length ≤ src.length
  | 0, _, _, _, _, _, h => by rw [numG] at h; cases h
  | f + 1, _, _, [], _, _, h => by rw [numG] at h; cases h
  | f + 1, i, n, b :: s, m, r, h => by
    rw [numG] at h
    split at h
    · split at h
      · cases h
      · cases h; simp
    · have := number_len f _ _ s h
      rw [List.length_cons]; omega
theorem number_err : ∀ (f i n : Nat) (src : List UInt8) {e : Nat}, numG f i n src = .error e → e = 3 ∨ e = 10
  | 0, _, _, _, _, h => by rw [numG] at h; cases h; simp
  | f + 1, _, _, [], _, h => by rw [numG] at h; cases h; simp
  | f + 1, i, n, b :: s, e, h => by
    rw [numG] at h
    split at h
    · split at h
      · cases h; simp
      · cases h
    · exact number_err f _ _ s h

theorem readInt_cc (H : Hp) (V : List Nat) (tk : Tk) (src : List UInt8) (hl : src.length ≤ 1000000000) :
    CC Tryz.prog 84 [.sl tk 1 (bs src), .fn 85 []] H V (Pu (rdv (fun n : Nat => ci n) (ci 0) (number src)) H V) := by
  refine CC.of_swp Tryz.func84 rfl (by kernel_rfl) (by rw [Tryz.ntmps84]; exact len_le _ _ rfl) fun hok hokH => Wp.s ?_
  simp -implicitDefEqProofs [go_sem, args0]
  refine CC.mono (number_cc _ _ _ _ _ (at_len _ _)) ?_
  intro r H' V' h
  unfold Cur at h
  rcases hn : number src with e | ⟨n, s⟩
  · rw [hn] at h
    obtain ⟨rfl, rfl, rfl⟩ := h
    have he : ¬ e = 0 := by rcases number_err _ _ _ _ hn with rfl | rfl <;> decide
    simp -implicitDefEqProofs [go_sem, he]
    exact Fin.pu (.refl _) (by simp -implicitDefEqProofs [go_sem, rdv]) hokH (by simp) (by simp)
  · rw [hn] at h
    obtain ⟨rfl, rfl, rfl⟩ := h
    simp -implicitDefEqProofs [go_sem]
    refine CC.mono (clone_cc _ _ _ _ (by have := number_len _ _ _ _ hn; simp only [bs_len]; omega)) ?_
    rintro _ _ _ ⟨v', rfl, rfl, rfl⟩
    try simp -implicitDefEqProofs [go_sem]
    exact Fin.pu (.tup (.cons (.refl _) (.cons (.sh ..) (.cons (.refl _) .nil)))) (by simp -implicitDefEqProofs [go_sem, rdv]) hokH (by simp) (by simp)
theorem Int_cc (H : Hp) (V : List Nat) (tk : Tk) (src : List UInt8) (hl : src.length ≤ 1000000000) :
    CC Tryz.prog 58 [.sl tk 1 (bs src)] H V (Pu (rdv (fun n : Nat => ci n) (ci 0) (number src)) H V) := by
  refine CC.of_swp Tryz.func58 rfl (by kernel_rfl) (by rw [Tryz.ntmps58]; exact len_le _ _ rfl) fun hok hokH => Wp.s ?_
  simp -implicitDefEqProofs [go_sem, args0]
  refine CC.mono (readInt_cc _ _ _ _ hl) ?_
  rintro _ _ _ ⟨rfl, rfl, rfl⟩
  rcases hn : number src with e | ⟨n, s⟩
  · simp -implicitDefEqProofs [go_sem, rdv]
    exact Fin.pu (.refl _) (by simp -implicitDefEqProofs [go_sem]) hokH (by simp) (by simp)
  · simp -implicitDefEqProofs [go_sem, rdv]
    exact Fin.pu (.refl _) (by simp -implicitDefEqProofs [go_sem]) hokH (by simp) (by simp)
end Go.Proofs.YtmgoflhjblombaaGreatDoor
namespace Go.Proofs.YtmgoflhjblombaaGreatDoor
abbrev Pr (α : Type) := List UInt8 → Except Nat (α × List UInt8)
def ahead {α : Type} (xs : List α) : Except Nat (List α × List UInt8) → Except Nat (List α × List UInt8)
  | .error e => .error e
  | .ok (l, r) => .ok (xs ++ l, r)
def Ne0 {α : Type} (p : Pr α) : Prop := ∀ s e, p s = .error e → e ≠ 0
theorem ne0_number : Ne0 number := fun s e h => by rcases number_err _ _ _ _ h with rfl | rfl <;> decide
end Go.Proofs.YtmgoflhjblombaaGreatDoor
namespace Go.Proofs.YtmgoflhjblombaaGreatDoor
open Go.Proofs
section
variable {H : Hp} {V : List Nat} {b : Nat} {tk : Tk} {α : Type} {val : α → CV} {Z : CV → Prop}
end
section
variable {H L : Hp} {b k : Nat} {c d : Option (List CV)} {cs : List CV} {K : List CV → Prop}
@[go_sem] theorem hbx_at (h : k = H.length) : hbx (H ++ some cs :: L) k K = K cs := by subst h; exact hbx_new H cs L K
@[go_sem] theorem set_at (h : k = H.length) : (H ++ c :: L).set k d = H ++ d :: L := by
  subst h; rw [List.set_append_right _ _ (Nat.le_refl _), Nat.sub_self]; rfl
end
theorem lt_of_box {H : Hp} {b : Nat} {x : Option (List CV)} (h : H[b]? = some x) : b < H.length := (List.getElem?_eq_some_iff.1 h).1
theorem set_same {H : Hp} {b : Nat} {c : Option (List CV)} (h : H[b]? = some c) : H.set b c = H := by
  obtain ⟨h1, h2⟩ := List.getElem?_eq_some_iff.1 h
  rw [← h2]; exact List.set_getElem_self h1
end Go.Proofs.YtmgoflhjblombaaGreatDoor
namespace Go.Proofs.YtmgoflhjblombaaGreatDoor
open Go.Proofs
end Go.Proofs.YtmgoflhjblombaaGreatDoor
namespace Go.Proofs.YtmgoflhjblombaaGreatDoor
open Go.Proofs
end Go.Proofs.YtmgoflhjblombaaGreatDoor
namespace Go.Proofs.YtmgoflhjblombaaGreatDoor
open Go.Proofs
section
variable {H H' : Hp} {V V' : List Nat} {src : List UInt8} {x : Except Nat (Nat × List UInt8)}
end
end Go.Proofs.YtmgoflhjblombaaGreatDoor
namespace Go.Proofs.YtmgoflhjblombaaGreatDoor
open Go.Proofs
end Go.Proofs.YtmgoflhjblombaaGreatDoor
