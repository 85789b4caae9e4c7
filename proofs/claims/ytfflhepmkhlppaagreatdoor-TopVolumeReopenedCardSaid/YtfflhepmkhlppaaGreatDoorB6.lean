import Derived.Test.YtfflhepmkhlppaaGreatDoorB5
import Derived.ChangeKeysEq
import Derived.Test.YtfflhepmkhlppaaGreatDoorB4
set_option linter.unusedSimpArgs false
set_option linter.unusedVariables false
set_option linter.unusedSectionVars false
set_option maxRecDepth 8000
set_option maxHeartbeats 4000000
open List (all_append all_cons all_eq_true all_map any_eq_true append_assoc append_nil cons_append contains_iff_mem drop_append_of_le_length drop_drop drop_eq_getElem_cons drop_eq_nil_of_le drop_of_length_le drop_one drop_succ_cons drop_take drop_zero eq_nil_of_length_eq_zero ext_getElem ext_getElem? filter_cons flatMap_append flatMap_cons flatMap_nil flatten_append flatten_cons flatten_nil foldl_append foldl_cons getD_eq_getElem?_getD getElem?_append getElem?_append_left getElem?_append_right getElem?_cons_succ getElem?_cons_zero getElem?_drop getElem?_eq_getElem getElem?_eq_none getElem?_map getElem?_of_mem getElem?_replicate getElem?_set getElem?_set_ne getElem?_set_self getElem?_take getElem?_toArray getElem_drop getElem_map getElem_mem getElem_of_mem getElem_set length_append length_cons length_drop length_eq_zero_iff length_map length_nil length_pos_iff length_range length_replicate length_set length_singleton length_take mapM_cons map_append map_congr_left map_cons map_drop map_map map_nil map_set map_take mem_append mem_append_left mem_cons mem_cons_of_mem mem_cons_self mem_flatten mem_map mem_of_getElem? mem_of_mem_drop mem_of_mem_take mem_range mem_replicate mem_singleton nil_append not_mem_nil prefix_refl range_succ replicate_succ replicate_succ' set_append_left set_append_right set_eq_take_append_cons_drop set_getElem_self set_set size_toArray take_append take_append_drop take_append_of_le_length take_left take_length take_of_length_le take_set_of_le take_succ_cons take_succ_eq_append_getElem take_take take_zero zip_cons_cons)
open Nat (le_refl zero_le)
namespace Go.Proofs.YtfflhepmkhlppaaGreatDoor
open Go.Proofs
theorem ac.scope {P : Program} {n nb nv : Nat} {c : Code} {Q : Exit -> Tm -> Hp -> List Nat -> Prop} {T : Tm} {H : Hp} {V : List Nat} (h : ac P n nb nv c (NK Q) T H V) : ac P n nb nv (.scope c) Q T H V := by
 intro ro D m w a m0 w0 V0 h1 h2 h3 hx hs;refine gA (wpIn_mono (h ro D m w a m0 w0 V0 h1 h2 h3 hx hs) fun e a' w' ⟨T', H', V', m', k1, k2⟩ => ?_)
 cases e with
 | goto l => exact k1.elim
 | _ => exact ⟨T', H', V', m', k1, k2⟩
def O1 (j : Nat) (l : List UInt8) (cv : CV) (V : List Nat) : Prop := (cv = .v (.slice none 0 0) /\ l = []) \/ ∃ k v, cv = .sl (.own k v) 1 (bs l) /\ V[k]? = some v /\ j <= k
theorem lY (l : List au) (i : Nat) (h : i < l.length) : bb (l.take (i + 1)) = bb (l.take i) ++ l[i].val.drop 4 := by
 rw [take_succ_eq_append_getElem h, bb, flatMap_append]; simp [bb]
theorem jH (s : au) : aY 1 4 ((aE s).drop 4) = bs (s.val.drop 4) := by
 have := nT (s.val.drop 4);rw [length_drop, s.len] at this;have e : (aE s).drop 4 = fb (s.val.drop 4) := by rw [fb, map_drop]; rfl
 rw [e]; exact this
theorem yN (H : Hp) (V : List Nat) (tk : Tk) (l : List au) (hl : l.length = 8) : CC Tryz.prog 163 [.sl tk 8 (l.map aE)] H V (Pu (.agg [ci (bg l).1, .sl .sh 1 (bs (bg l).2), aF l]) H V) := by
 refine aj Tryz.func163 rfl fun hok oH => ?_;refine aa (ab ?_);simp [go_sem, ai];refine ac.scope ?_;refine aa (ab ?_);simp [go_sem];refine aa (ab ?_);simp [go_sem];refine aa (ab ?_);simp [go_sem];have h0 : l.getD 0 aP = l[0] := by rw [getD_eq_getElem?_getD, getElem?_eq_getElem (by omega)]; rfl
 refine am (α := CV × List Nat) (fun x => ([(2, .ptr H.length 0), (3, .ptr (H.length + 1) 0)], H ++ [some [ci 0, .v (.slice none 0 0), .v (.slice none 0 0)], some [ci (bg l).1, x.1, .sl tk 8 (l.map aE)]], x.2))
  (fun x => Le x.1 (.sl .sh 1 (bs (bg l).2)) /\ x.1.one = true /\ V.length <= x.2.length /\ x.2.take V.length = V) ?_ ?_
 · refine af ?_
   refine al (α := Unit) (fun _ => ([(0, .sl tk 8 (l.map aE)), (2, .ptr H.length 0), (3, .ptr (H.length + 1) 0), (4, .v (.slice none 0 0))], H ++ [some [ci 0, .v (.slice none 0 0), .v (.slice none 0 0)], some [ci 0, .v (.slice none 0 0), .sl tk 8 (l.map aE)]], V)) (fun _ => True) (fun _ => 0) () trivial (ae (by simp [go_sem]) (by simp) rfl) ?_;rintro _ -;dsimp only;refine af ?_;have inv : ∀ (T : Tm) (L : Hp) (V' : List Nat), bg l = (0, []) -> V.length <= V'.length -> V'.take V.length = V -> oT T [(2, .ptr H.length 0), (3, .ptr (H.length + 1) 0)] →
    ∃ a b, (Le a (.sl .sh 1 (bs (bg l).2)) /\ a.one = true /\ V.length <= b.length /\ b.take V.length = V) ∧
     Sh 55 H.length V.length T (H ++ (some [ci 0, .v (.slice none 0 0), .v (.slice none 0 0)] :: some [ci 0, .v (.slice none 0 0), .sl tk 8 (l.map aE)] :: L)) V' ([(2, .ptr H.length 0), (3, .ptr (H.length + 1) 0)], H ++ [some [ci 0, .v (.slice none 0 0), .v (.slice none 0 0)], some [ci (bg l).1, a, .sl tk 8 (l.map aE)]], b) := fun T L V' hp h1 h2 h3 => by
    refine ⟨.v (.slice none 0 0), V', ⟨by rw [hp]; exact .nil 1 (by decide), rfl, h1, h2⟩, ?_⟩;rw [hp];refine Sh.trim (L := [some [ci 0, .v (.slice none 0 0), .v (.slice none 0 0)], some [ci 0, .v (.slice none 0 0), .sl tk 8 (l.map aE)]]) h3 (by simp [go_sem]) oH ?_ h1 (by simp) (take_of_length_le (le_refl _));rw [okL] at hok;rw [aW, aW, okL, okL, okL, okL, okL, okL];exact ⟨by simp [go_sem], ⟨by rw [aK]; trivial, by rw [aK]; trivial, cP (by omega) h1 hok.1, trivial⟩, trivial⟩
   refine am (α := CV × List Nat) (fun x => ([(0, .sl tk 8 (l.map aE)), (2, .ptr H.length 0), (3, .ptr (H.length + 1) 0), (4, x.1)], H ++ [some [ci 0, .v (.slice none 0 0), .v (.slice none 0 0)], some [ci 0, .v (.slice none 0 0), .sl tk 8 (l.map aE)]], x.2))
    (fun x => (∃ k v, x.1 = .sl (.own k v) 1 (bs (bb l)) /\ x.2[k]? = some v /\ V.length <= k) /\ V.length <= x.2.length /\ x.2.take V.length = V /\ l.all (fun s => gn s == g0 l) = true) ?_ ?_
   · refine aa (ab ?_)
     simp [go_sem];refine af ?_;refine al (α := Nat × CV × List Nat) (fun x => ([(0, .sl tk 8 (l.map aE)), (2, .ptr H.length 0), (3, .ptr (H.length + 1) 0), (4, x.2.1), (10, .sl tk 8 (l.map aE)), (11, ci 8), (12, ci x.1)], H ++ [some [ci 0, .v (.slice none 0 0), .v (.slice none 0 0)], some [ci 0, .v (.slice none 0 0), .sl tk 8 (l.map aE)]], x.2.2))
      (fun x => x.1 <= 8 /\ O1 V.length (bb (l.take x.1)) x.2.1 x.2.2 /\ V.length <= x.2.2.length /\ x.2.2.take V.length = V /\ (l.take x.1).all (fun s => gn s == g0 l) = true) (fun x => 8 - x.1) (0, .v (.slice none 0 0), V) ⟨by omega, .inl ⟨rfl, rfl⟩, le_refl _, by simp, rfl⟩ (ae (by simp [go_sem, hl]) (by simp) rfl) ?_
     rintro ⟨i, cv, V'⟩ ⟨hi, ha, hv1, hv2, hg⟩;dsimp only at hi ha hv1 hv2 hg ⊢;refine aa (ab ?_);simp [go_sem];refine aa (ab ?_);simp [go_sem];refine ⟨fun h => ?_, fun h => ?_⟩
     case refine_2 =>
      obtain rfl : i = 8 := by omega
      rw [take_of_length_le (by omega)] at ha hg;rcases ha with ⟨rfl, he⟩ | ⟨k, v, rfl, hv, hk⟩
      · have := congrArg List.length he
        rw [gR] at this; simp at this; omega
      · exact ⟨_, V', ⟨⟨k, v, rfl, hv, hk⟩, hv1, hv2, by simpa using hg⟩, ae (by simp [go_sem]) rfl rfl⟩
     have h8 : i < l.length := by omega
     refine aa (af (aa (ab ?_)));simp [go_sem, h8];refine aa (aa (ac.drawnL [0, 2, 3, 4, 1, 5, 6] (by kernel_rfl) (by kernel_rfl) rfl ?_));simp [go_sem, hl];refine ah (fa _ _ _) ?_;simp [go_sem];refine ah (fa _ _ _) ?_;simp [go_sem];refine ab ?_
     by_cases hgi : gn l[i] = gn l[0]
     case neg =>
      have hp : bg l = (0, []) := by
       rw [bg, if_neg];intro hv;rw [j7, Bool.and_eq_true] at hv;have := all_eq_true.1 hv.1 _ (getElem_mem h8);rw [g0, h0] at this;exact hgi (by simpa using this)
      simp [go_sem, show ¬ ((gn l[i] : Int) = gn l[0]) by omega];exact inv _ [some (aE l[i])] V' hp hv1 hv2 (by simp [go_sem])
     simp [go_sem, hgi];have hg' : (l.take (i + 1)).all (fun s => gn s == g0 l) = true := by
      rw [take_succ_eq_append_getElem h8, all_append, hg, g0, h0];simp [hgi]
     have hok2 : ∀ j, V.length <= j -> wD (H.length + 2) j [some [ci 0, .v (.slice none 0 0), .v (.slice none 0 0)], some [ci 0, .v (.slice none 0 0), .sl tk 8 (l.map aE)]] := fun j h1 => by
      rw [okL] at hok;rw [aW, aW, okL, okL, okL, okL, okL, okL];exact ⟨by simp [go_sem], ⟨by rw [aK]; trivial, by rw [aK]; trivial, cP (by omega) h1 hok.1, trivial⟩, trivial⟩
     refine ab ?_;rcases ha with ⟨rfl, he⟩ | ⟨k, v, rfl, hv, hk⟩
     · simp [go_sem, jH]
       have hap : O1 V.length (bb (l.take (i + 1))) (.sl (.own V'.length 0) 1 (bs (l[i].val.drop 4))) (V' ++ [0]) := .inr ⟨V'.length, 0, by rw [lY _ _ h8, he]; rfl, by simp, hv1⟩;refine ⟨by rw [l[i].len]; omega, ab ?_⟩;simp [go_sem, aq (show i <= 1000000000 by omega)];refine ⟨i + 1, _, V' ++ [0], ⟨by omega, hap, by simp; omega, by rw [take_append_of_le_length hv1]; exact hv2, by simpa using hg'⟩, by omega, Sh.trim (L := [some [ci 0, .v (.slice none 0 0), .v (.slice none 0 0)], some [ci 0, .v (.slice none 0 0), .sl tk 8 (l.map aE)]]) (by simp [go_sem]) ?_ oH (hok2 _ (by simp; omega)) (by simp; omega) (by simp) (take_of_length_le (le_refl _))⟩;rw [okL] at hok;simp only [nc, pi];exact ⟨cP (by omega) (by simp; omega) hok.1, by simp [go_sem], by simp [go_sem], by simp [go_sem], cP (by omega) (by simp; omega) hok.1, by simp [go_sem], by simp [go_sem], trivial⟩
     · simp [go_sem, jH, hv]
       have hkv := (List.getElem?_eq_some_iff.1 hv).1;have hap : O1 V.length (bb (l.take (i + 1))) (.sl (.own k (v + 1)) 1 (bs (bb (l.take i) ++ l[i].val.drop 4))) (V'.set k (v + 1)) := .inr ⟨k, v + 1, by rw [lY _ _ h8], by rw [getElem?_set_self hkv], hk⟩;refine ⟨by rw [l[i].len, gR, length_take]; omega, ab ?_⟩;simp [go_sem, aq (show i <= 1000000000 by omega)];refine ⟨i + 1, _, V'.set k (v + 1), ⟨by omega, hap, by simpa using hv1, by rw [take_set_of_le hk]; exact hv2, by simpa using hg'⟩, by omega, Sh.trim (L := [some [ci 0, .v (.slice none 0 0), .v (.slice none 0 0)], some [ci 0, .v (.slice none 0 0), .sl tk 8 (l.map aE)]]) (by simp [go_sem]) ?_ oH (hok2 _ (by simpa using hv1)) (by simpa using hv1) (by simp) (take_of_length_le (le_refl _))⟩;rw [okL] at hok;simp only [nc, pi];exact ⟨cP (by omega) (by simpa using hv1) hok.1, by simp [go_sem], by simp [go_sem], by simp [go_sem, hkv], cP (by omega) (by simpa using hv1) hok.1, by simp [go_sem], by simp [go_sem], trivial⟩
   · rintro ⟨cv, V'⟩ ⟨⟨k, v, rfl, hv, hk⟩, hv1, hv2, hg⟩
     dsimp only;have hdl : (bb l).length = 32 := by rw [gR, hl]
     have hd0 : (bb l).getD 0 0 = (bb l)[0] := by rw [getD_eq_getElem?_getD, getElem?_eq_getElem (by omega)]; rfl
     have hg1 : gn l[0] = g0 l := by rw [g0, h0]
     refine aa (ab ?_);simp [go_sem, hdl];generalize hm : (bb l)[0].toNat = m at *;refine aa (ab ?_)
     by_cases h31 : 31 < m
     · have hp : bg l = (0, []) := by
        rw [bg, if_neg];intro hv;rw [j7, Bool.and_eq_true, lO, hd0, hm, Bool.and_eq_true, decide_eq_true_eq] at hv;omega
       have hmw : IntKind.i64.wrap (m : Int) = m := by
        have := (bb l)[0].toNat_lt;exact IntWalk.i64_in _ ⟨by omega, by omega⟩
       simp [go_sem, hmw, show (31 : Int) < m by omega];exact inv _ [] V' hp hv1 hv2 (by simp [go_sem])
     have hmw : IntKind.i64.wrap (m : Int) = m := IntWalk.i64_in _ ⟨by omega, by omega⟩;have hm1 := aq (show m <= 1000000000 by omega);simp [go_sem, hmw, hm1, show ¬ (31 : Int) < m by omega, hdl];refine ⟨by omega, by omega, CC.mono (rx _ _ _ _ (by rw [length_drop]; omega)) ?_⟩;rintro _ _ _ ⟨q, hq1, rfl, hq, rfl, rfl⟩;have hql : (((bb l).drop (m + 1)).take q).length = q := by rw [length_take]; omega
     simp [go_sem, hql];refine ⟨fun hq0 => ?_, fun hq0 => ?_⟩
     · have hp : bg l = (0, []) := by
        rw [bg, if_neg];intro hv;rw [j7, Bool.and_eq_true, lO, hd0, hm, Bool.and_eq_true] at hv;have hz := hv.2.2;rw [<- zs] at hz;rw [hz] at hq;simp at hq; omega
       exact inv _ [] V' hp hv1 hv2 (by simp [go_sem])
     · have hz : zs ((bb l).drop (m + 1)) = true := by
        rcases hz : zs ((bb l).drop (m + 1)) with - | -
        · rw [hz] at hq; simp at hq; omega
        · rfl
       have hp : bg l = (g0 l, ((bb l).drop 1).take m) := by
        rw [bg, if_pos, pay, hd0, hm];rw [j7, hg, lO, hd0, hm];simp only [Bool.true_and, Bool.and_eq_true, decide_eq_true_eq];exact ⟨by omega, hz⟩
       refine aa (az [] [10, 13] (.s 0 .pl <| .s 1 .pl <| .s 2 .ld <| .s 4 .pl <| .s 5 .pl <| .s 6 .pl <| .s 7 .pl <| .s 3 .pl <| .s 8 .pl <| .s 9 .pl <| .s 10 .st <| .s 11 .pl <| .s 12 .pl <| .s 13 .st <| .n) ?_);simp [go_sem, hl, hm1, hdl];refine ⟨by omega, by omega, CC.mono (fa _ _ _) ?_⟩;rintro _ _ _ ⟨rfl, rfl, rfl⟩;simp [go_sem];have et : (bs ((bb l).take (m + 1))).tail = bs (((bb l).drop 1).take m) := by
        rw [<- drop_one, M1, drop_take, Nat.add_sub_cancel]
       refine ab ?_;simp [go_sem];refine ⟨.sl .sh 1 (bs ((bb l).take (m + 1))).tail, V', ⟨.of_eq (by rw [et, hp]), rfl, hv1, hv2⟩, ae (by simp [go_sem]) ?_ rfl⟩;rw [hp, hg1]
 · rintro ⟨pv, V'⟩ ⟨h1, h2, h3, h4⟩
   dsimp only;refine aa (ab ?_);simp [go_sem, h2];refine ab ?_;simp [go_sem];refine ao.pu (.agg (.cons (.refl _) (.cons h1 (.cons (.sh _ _ _) .nil)))) ?_ oH (by simp) h4;rw [k9, okL, okL, okL, okL];exact ⟨by rw [aK]; trivial, by rw [gq, jT]; trivial, cn _ _ _, trivial⟩
section
open Go.Proofs
end
def eR (c : Nat × List UInt8) (l : List au) : List CV := [ci c.1, .sl .sh 1 (bs c.2), aF l]
def c9 (l : List au) : List CV := eR (cA l) (l.take 8) ++ eR (cB l) (l.drop 8)
def ft (d : Dk) (a : Int) : CV :=
 if fB d a ≠ 0 then .tup [.agg (eR (0, []) [] ++ eR (0, []) []), ci 0, er (fB d a)] else
 if (ii (b7 d a)).1 = 0 then .tup [.agg (c9 (b7 d a)), ci 0, er 9] else .tup [.agg (c9 (b7 d a)), ci (eU (b7 d a)), er 0]
theorem dp (i j : Nat) (c : Nat × List UInt8) (l : List au) : okL i j (eR c l) := by
 rw [eR, okL, okL, okL, okL];exact ⟨by rw [aK]; trivial, by rw [gq, jT]; trivial, cn _ _ _, trivial⟩
theorem jS {i j : Nat} : ∀ {a b : List CV}, okL i j a -> okL i j b -> okL i j (a ++ b)
 | [], b, _, h => h
 | x :: a, b, h, g => by rw [okL] at h; rw [cons_append, okL]; exact ⟨h.1, jS h.2 g⟩
theorem r7 (i j : Nat) (d : Dk) (a : Int) : aK i j (ft d a) := by
 have h : ∀ (c : List CV) (x : Int) (e : Nat), okL i j c -> aK i j (.tup [.agg c, ci x, er e]) := fun c x e hc => by
  rw [aK, okL, okL, okL, okL, k9];exact ⟨hc, by rw [aK]; trivial, jQ _ _ _, trivial⟩
 unfold ft
 split
 · exact h _ _ _ (jS (dp _ _ _ _) (dp _ _ _ _))
 · split <;> exact h _ _ _ (jS (dp _ _ _ _) (dp _ _ _ _))
theorem sC {d : Dk} {a : Int} (h : fB d a = 0) : (b7 d a).length = 16 := by
 unfold fB at h;unfold b7;unfold bD at *
 split at h
 · rename_i h1; exact absurd h h1
 · split at h
   · cases h
   · rename_i h1 h2
     rw [if_neg h1, if_neg h2];have hq : bn d a 16 = true := by simpa using h2
     simp only [bn, Bool.and_eq_true, decide_eq_true_eq] at hq;rw [length_take, length_drop, bR];have : (16 : Int).toNat = 16 := rfl;omega
theorem uB (H : Hp) (V : List Nat) (d : Dk) (a : Int) (hl : rL d) : CC Tryz.prog 132 [.agg (cj d), ci a] H V (Pu (ft d a) H V) := by
 refine aj Tryz.func132 rfl fun hok oH => ?_;clear hok;refine aa (ab ?_);simp [go_sem, ai];refine aa (ab ?_);simp [go_sem];refine ah (show CC Tryz.prog 74 _ _ _ (Pu (.tup [aF (b7 d a), er (fB d a)]) _ _) from pM _ _ d ⟨a, 16⟩ hl) ?_;simp [go_sem];refine aa (ab ?_);simp [go_sem];refine ⟨fun he => ?_, fun he => ?_⟩
 · rw [ft, if_pos he]
   exact ao.pu (.tup (.cons (.agg (.cons (.refl _) (.cons (.nil 1 (by decide)) (.cons (.nil 8 (by decide)) (.cons (.refl _) (.cons (.nil 1 (by decide)) (.cons (.nil 8 (by decide)) .nil))))))) (.cons (.refl _) (.cons (.refl _) .nil))))
    (by have := r7 H.length V.length d a; rwa [ft, if_pos he] at this) oH (by simp) (by simp)
 have hl16 := sC he;have hV : ft d a = if (ii (b7 d a)).1 = 0 then .tup [.agg (c9 (b7 d a)), ci 0, er 9] else .tup [.agg (c9 (b7 d a)), ci (eU (b7 d a)), er 0] := by rw [ft, if_neg (by simpa using he)]
 have hokV := r7 H.length V.length d a;generalize b7 d a = l at *;refine aa (az [] [8] (.s 0 .pl <| .s 1 .pl <| .s 3 .pl <| .s 4 .pl <| .c 2 <| .c 5 <| .s 6 .pl <| .s 7 .pl <| .s 8 .st <| .n) ?_);simp [go_sem, hl16];refine ⟨.agg (eR (cA l) (l.take 8)), fun H V => ?_, ?_⟩
 · show CC Tryz.prog 163 [.sl .sh 8 ((l.map aE).take 8)] H V _
   rw [<- map_take];exact yN H V .sh (l.take 8) (by rw [length_take]; omega)
 simp [go_sem];refine ⟨.agg (eR (cB l) (l.drop 8)), fun H V => ?_, ?_⟩
 · show CC Tryz.prog 163 [.sl .sh 8 ((l.map aE).drop 8)] H V _
   rw [<- map_drop];exact yN H V .sh (l.drop 8) (by rw [length_drop]; omega)
 simp [go_sem, eR];refine aa (ab ?_);simp [go_sem];rw [hV] at hokV;rw [hV];refine aa (ab ?_)
 by_cases hlt : (cA l).1 < (cB l).1
 · have hb : (ii l).1 = (cB l).1 := by rw [ii, if_pos hlt]
   have hn : eU l = 1 := by rw [eU, if_pos hlt]
   have h0 : ¬ (cB l).1 = 0 := by omega
   rw [hb, if_neg h0, hn] at hokV;rw [hb, if_neg h0, hn];simp [go_sem, show ((cA l).1 : Int) < (cB l).1 by omega];refine aa (ab ?_);simp [go_sem, h0];refine ab ?_;simp [go_sem];exact ao.pu (.refl _) hokV oH (by simp) (by simp)
 · have hb : (ii l).1 = (cA l).1 := by rw [ii, if_neg hlt]
   have hn : eU l = 0 := by rw [eU, if_neg hlt]
   rw [hb, hn] at hokV;rw [hb, hn];simp [go_sem, show ¬ ((cA l).1 : Int) < (cB l).1 by omega];refine aa (ab ?_)
   by_cases h0 : (cA l).1 = 0
   · rw [if_pos h0] at hokV
     rw [if_pos h0];simp [go_sem, h0];refine ao.pu (.of_eq ?_) hokV oH (by simp) (by simp);simp [c9, eR, h0]
   · rw [if_neg h0] at hokV
     rw [if_neg h0];simp [go_sem, h0];refine ab ?_;simp [go_sem];exact ao.pu (.refl _) hokV oH (by simp) (by simp)
section
open Go.Proofs
end
def XY (x : List UInt8 × Nat × Nat) : CV := .tup [.sl .sh 1 (bs x.1), ci x.2.1, er x.2.2]
theorem tu (i j : Nat) (x : List UInt8 × Nat × Nat) : aK i j (XY x) := by
 rw [XY, aK, okL, okL, okL, okL];exact ⟨by rw [gq, jT]; trivial, by rw [aK]; trivial, jQ _ _ _, trivial⟩
theorem M3 (l : List au) : ii l = if eU l = 1 then cB l else cA l := by
 unfold ii eU; split <;> rfl
theorem yY (l : List au) : (bg l).2.length <= 256 := by
 unfold bg; split
 · rw [pay, length_take]
   have := ((bb l).getD 0 0).toNat_lt;omega
 · exact zero_le _
theorem EW (H : Hp) (V : List Nat) (d : Dk) (a : Int) (hl : rL d) : CC Tryz.prog 124 [.agg (cj d), ci a] H V (Pu (XY (eE d a)) H V) := by
 refine aj Tryz.func124 rfl fun hok oH => ?_;clear hok;have bad : ∀ (e : Nat) {H' : Hp} {V' : List Nat}, eE d a = ([], 0, e) -> H'.take H.length = H -> V'.take V.length = V -> ao H.length V.length (Pu (XY (eE d a)) H V) (.tup [.v (.slice none 0 0), .v (.int .i64 0), er e]) H' V' := fun e H' V' h1 h2 h3 => by
  rw [h1];exact ao.pu (.tup (.cons (.nil 1 (by decide)) (.cons (.refl _) (.cons (.refl _) .nil)))) (tu _ _ _) oH h2 h3
 refine aa (ab ?_);simp [go_sem, ai];refine aa (ab ?_);simp [go_sem];refine ah (uB _ _ d a hl) ?_
 by_cases he : fB d a = 0
 case neg =>
  have hV : ft d a = .tup [.agg (eR (0, []) [] ++ eR (0, []) []), ci 0, er (fB d a)] := by rw [ft, if_pos he]
  rw [hV];simp [go_sem, eR];refine ab ?_;simp [go_sem, he];exact bad _ (by rw [eE, if_pos he]) (by simp) (by simp)
 by_cases hb : (ii (b7 d a)).1 = 0
 · have hV : ft d a = .tup [.agg (c9 (b7 d a)), ci 0, er 9] := by rw [ft, if_neg (by simpa using he), if_pos hb]
   rw [hV];simp [go_sem, c9, eR];refine ab ?_;simp [go_sem];exact bad 9 (by rw [eE, if_neg (by simpa using he), if_pos hb]) (by simp) (by simp)
 have hV : ft d a = .tup [.agg (c9 (b7 d a)), ci (eU (b7 d a)), er 0] := by rw [ft, if_neg (by simpa using he), if_neg hb]
 have hL : eE d a = ((ii (b7 d a)).2, (ii (b7 d a)).1, 0) := by rw [eE, if_neg (by simpa using he), if_neg hb]
 rw [hV, hL];clear bad hV hL hb;generalize b7 d a = l at *;simp [go_sem, c9, eR];refine aa (ab ?_);simp [go_sem];refine aa (ac.drawnL [0, 1, 2, 3, 4, 6, 7, 8, 9, 10, 5, 11, 12, 13] (by kernel_rfl) (by kernel_rfl) rfl ?_);have hn : eU l = 1 \/ eU l = 0 := by unfold eU; split <;> simp
 have hbe := M3 l;rcases hn with hn | hn
 · rw [hn] at hbe
   rw [hn];simp [go_sem];refine CC.mono (og _ _ .sh _ (by rw [qV]; have : (cB l).2.length <= 256 := yY _; omega)) ?_;rintro _ _ _ ⟨v, rfl, rfl, rfl⟩;simp [go_sem];refine ab ?_;simp [go_sem];rw [hbe];exact ao.pu (.tup (.cons (.sh _ _ _) (.cons (.refl _) (.cons (.refl _) .nil)))) (tu _ _ _) oH (by simp) (by simp)
 · rw [hn] at hbe
   rw [hn];simp [go_sem];refine CC.mono (og _ _ .sh _ (by rw [qV]; have : (cA l).2.length <= 256 := yY _; omega)) ?_;rintro _ _ _ ⟨v, rfl, rfl, rfl⟩;simp [go_sem];refine ab ?_;simp [go_sem];rw [hbe];exact ao.pu (.tup (.cons (.sh _ _ _) (.cons (.refl _) (.cons (.refl _) .nil)))) (tu _ _ _) oH (by simp) (by simp)
section
section
variable {n nb nv : Nat} {T T' : Tm} {H : Hp} {V : List Nat}
end
def IT (x : List bO × Nat) : CV := .tup [gp x.1, er x.2]
theorem o8 (i j : Nat) (x : List bO × Nat) : aK i j (IT x) := by
 rw [IT, aK, okL, okL, okL, gp, gq, eF];exact ⟨trivial, jQ _ _ _, trivial⟩
theorem LP {H : Hp} {V : List Nat} {a : Int} {p : List UInt8} (oH : ∀ (b : Nat) cs, H[b]? = some (some cs) -> okL H.length V.length cs) :
 ao H.length V.length (Pu (IT ([dG a (List.replicate 16 aP), cO, dG a (bN 1 p), cO], 0)) H V)
  (.tup [.sl .ti 3 [[.v (.int .i64 0), .v (.int .i64 a), .bsl H.length 0 16 8], [.v (.int .i64 1), .v (.int .i64 0), .v (.slice none 0 0)], [.v (.int .i64 0), .v (.int .i64 a), .sl .sh 8 ((bN 1 p).map aE)], [.v (.int .i64 1), .v (.int .i64 0), .v (.slice none 0 0)]], .v (.int .i64 0)])
  (H ++ [some (List.replicate 16 [CV.v (.int .u8 0), CV.v (.int .u8 0), CV.v (.int .u8 0), CV.v (.int .u8 0), CV.v (.int .u8 0), CV.v (.int .u8 0), CV.v (.int .u8 0), CV.v (.int .u8 0)]).flatten]) V := by
 have hz0 : (List.replicate 16 [CV.v (.int .u8 0), CV.v (.int .u8 0), CV.v (.int .u8 0), CV.v (.int .u8 0), CV.v (.int .u8 0), CV.v (.int .u8 0), CV.v (.int .u8 0), CV.v (.int .u8 0)]).flatten = aQ (List.replicate 16 aP) := eG 16;have hch : aY 8 16 ((aQ (List.replicate 16 aP)).drop 0) = (List.replicate 16 aP).map aE := by
  have := cU (List.replicate 16 aP)
  rwa [length_replicate] at this
 rw [hz0];have n3 : jD [.v (.int .i64 1), .v (.int .i64 0), .v (.slice none 0 0)] [.v (.int .i64 1), .v (.int .i64 0), aF []] := .cons (.refl _) (.cons (.refl _) (.cons (.nil 8 (by decide)) .nil));have r3 : ∀ x y z : CV, jD [x, y, z] [x, y, z] := fun x y z => .cons (.refl _) (.cons (.refl _) (.cons (.refl _) .nil));have f3 : ∀ x y z : CV, ki H.length (aQ (List.replicate 16 aP)) [x, y, z] [x, y, z] := fun x y z => .cons (.refl _) (.cons (.refl _) (.cons (.refl _) .nil));refine ao.frozY (b := H.length) (cs := aQ (List.replicate 16 aP))
  (r1 := .tup [.sl .sh 3 [[.v (.int .i64 0), .v (.int .i64 a), .bsl H.length 0 16 8], [.v (.int .i64 1), .v (.int .i64 0), aF []], [.v (.int .i64 0), .v (.int .i64 a), .sl .sh 8 ((bN 1 p).map aE)], [.v (.int .i64 1), .v (.int .i64 0), aF []]], .v (.int .i64 0)])
  ⟨rfl, rfl, rfl⟩ (.tup (.cons (.sle _ _ (.cons (r3 _ _ _) (.cons n3 (.cons (r3 _ _ _) (.cons n3 .nil))))) (.cons (.refl _) .nil))) (by simp) ?_ (le_refl _) (o8 _ _ _) oH (by simp) (by simp)
 refine .tup (.cons (.sl _ _ (.cons (.cons (.refl _) (.cons (.refl _) (.cons ?_ .nil))) (.cons (f3 _ _ _) (.cons (f3 _ _ _) (.cons (f3 _ _ _) .nil))))) (.cons (.refl _) .nil));show Fy _ _ _ (.sl .sh 8 ((List.replicate 16 aP).map aE));rw [<- hch];exact .bsl _ _ _ (by simp)
theorem xd (H : Hp) (V : List Nat) (a : Int) (tk : Tk) (p : List UInt8) : CC Tryz.prog 100 [ci a, .sl tk 1 (bs p)] H V (Pu (IT (dz a p)) H V) := by
 refine aj Tryz.func100 rfl fun hok oH => ?_;clear hok;have bad : ∀ (e : Nat) {H' : Hp} {V' : List Nat}, dz a p = ([], e) -> H'.take H.length = H -> V'.take V.length = V -> ao H.length V.length (Pu (IT (dz a p)) H V) (.tup [.v (.slice none 0 0), er e]) H' V' := fun e H' V' h1 h2 h3 => by
  rw [h1];exact ao.pu (.tup (.cons (.nil 3 (by decide)) (.cons (.refl _) .nil))) (o8 _ _ _) oH h2 h3
 refine aa (ab ?_);simp [go_sem, ai];refine aa (af (aa (ab ?_)))
 by_cases h1 : a < 0
 · simp [go_sem, h1]
   refine ab ?_;simp [go_sem];exact bad 2 (by rw [dz, if_pos (.inl h1)]) (by simp) (by simp)
 by_cases h2 : 4080 < a
 · simp [go_sem, h1, h2]
   refine ab ?_;simp [go_sem];exact bad 2 (by rw [dz, if_pos (.inr h2)]) (by simp) (by simp)
 simp [go_sem, h1, h2];refine ab ?_
 by_cases h3 : 31 < p.length
 · simp [go_sem, show (31 : Int) < p.length by omega]
   exact bad 5 (by rw [dz, if_neg (by omega), if_pos h3]) (by simp) (by simp)
 simp [go_sem, show ¬ (31 : Int) < p.length by omega];have hF : dz a p = ([dG a (List.replicate 16 aP), cO, dG a (bN 1 p), cO], 0) := by rw [dz, if_neg (by omega), if_neg h3]
 refine aa (az [] [] (.s 0 .pl <| .s 3 .pl <| .s 4 .pl <| .s 5 .pl <| .s 9 .pl <| .c 6 <| .s 7 .pl <| .s 8 .pl <| .s 1 .pl <| .s 2 .pl <| .s 10 .pl <| .s 11 .pl <| .s 12 .pl <| .n) ?_);simp [go_sem, -List.reduceReplicate];refine ⟨.agg [ci 1, .sl .sh 1 (bs p), aF (bN 1 p)], fun H V => yH H V 1 tk p (by decide) (by omega), ?_⟩;simp [go_sem, -List.reduceReplicate];refine ab ?_;simp [go_sem, -List.reduceReplicate];rw [hF];exact LP oH
end
def tB (m : Nat) (l : List au) : Nat := l.foldl (fun m s => max m (gn s)) m
theorem FQ (m : Nat) (l : List au) (i : Nat) (h : i < l.length) : tB m (l.take (i + 1)) = max (tB m (l.take i)) (gn l[i]) := kg _ _ _ _ h
theorem KH (m : Nat) (a b : List au) : tB m (a ++ b) = tB (tB m a) b := foldl_append ..
theorem yE (l : List au) : d9 l = tB 0 l := rfl
theorem FR : ∀ (l : List au) (m : Nat), m < 4294967296 -> tB m l < 4294967296
 | [], m, h => h
 | s :: l, m, h => FR l (max m (gn s)) (by have := YQ s; omega)
theorem X3 (a b : Nat) : max (a : Int) (b : Int) = ((max a b : Nat) : Int) := by omega
theorem JE {H H' : Hp} {V V' : List Nat} {b : Int} {s : List au} (oH : ∀ (b : Nat) cs, H[b]? = some (some cs) -> okL H.length V.length cs) (hH : H'.take H.length = H) (hV : V'.take V.length = V) :
 ao H.length V.length (Pu (IT ([dG b s, cO], 0)) H V)
  (.tup [.sl .ti 3 [[.v (.int .i64 0), .v (.int .i64 b), .sl .sh 8 (s.map aE)], [.v (.int .i64 1), .v (.int .i64 0), .v (.slice none 0 0)]], .v (.int .i64 0)]) H' V' := by
 refine ao.pu (.tup (.cons (.sle _ _ (.cons ?_ (.cons ?_ .nil))) (.cons (.refl _) .nil))) (o8 _ _ ([dG b s, cO], 0)) oH hH hV
 · exact .cons (.refl _) (.cons (.refl _) (.cons (.refl _) .nil))
 · exact .cons (.refl _) (.cons (.refl _) (.cons (.nil 8 (by decide)) .nil))
theorem AX (H : Hp) (V : List Nat) (d : Dk) (a : Int) (tk : Tk) (p : List UInt8) (hl : rL d) : CC Tryz.prog 90 [.agg (cj d), ci a, .sl tk 1 (bs p)] H V (Pu (IT (b9 d a p)) H V) := by
 refine aj Tryz.func90 rfl fun hok oH => ?_;have bad : ∀ (e : Nat) {H' : Hp} {V' : List Nat}, b9 d a p = ([], e) -> H'.take H.length = H -> V'.take V.length = V -> ao H.length V.length (Pu (IT (b9 d a p)) H V) (.tup [.v (.slice none 0 0), er e]) H' V' := fun e H' V' h1 h2 h3 => by
  rw [h1];exact ao.pu (.tup (.cons (.nil 3 (by decide)) (.cons (.refl _) .nil))) (o8 _ _ _) oH h2 h3
 refine aa (ab ?_);simp [go_sem, ai];refine aa (ab ?_);simp [go_sem];refine ah (uB _ _ d a hl) ?_
 by_cases he : fB d a = 0
 case neg =>
  have hV : ft d a = .tup [.agg (eR (0, []) [] ++ eR (0, []) []), ci 0, er (fB d a)] := by rw [ft, if_pos he]
  rw [hV];simp [go_sem, eR];refine aa (ab ?_);simp [go_sem, he];exact bad _ (by rw [b9, if_pos he]) (by simp) (by simp)
 by_cases hb : (ii (b7 d a)).1 = 0
 · have hV : ft d a = .tup [.agg (c9 (b7 d a)), ci 0, er 9] := by rw [ft, if_neg (by simpa using he), if_pos hb]
   rw [hV];simp [go_sem, c9, eR];refine aa (ab ?_);simp [go_sem];exact bad 9 (by rw [b9, if_neg (by simpa using he), if_pos hb]) (by simp) (by simp)
 have hV : ft d a = .tup [.agg (c9 (b7 d a)), ci (eU (b7 d a)), er 0] := by rw [ft, if_neg (by simpa using he), if_neg hb]
 have hl16 := sC he;have hat : 0 <= a /\ a <= 1000000 := by
  unfold fB bD at he
  split at he
  · rename_i h1; exact absurd he h1
  · split at he
    · cases he
    · rename_i h1 h2
      have hq : bn d a 16 = true := by simpa using h2
      simp only [bn, Bool.and_eq_true, decide_eq_true_eq] at hq;have := hl.1;omega
 rw [hV];simp [go_sem, c9, eR];refine aa (ab ?_);simp [go_sem];refine aa (ab ?_)
 by_cases h31 : 31 < p.length
 · simp [go_sem, show (31 : Int) < p.length by omega]
   exact bad 5 (by rw [b9, if_neg (by simpa using he), if_neg hb, if_pos h31]) (by simp) (by simp)
 simp [go_sem, show ¬ (31 : Int) < p.length by omega];have hS : b9 d a p = if d9 (b7 d a) = 4294967295 then ([], 11) else ([dG (a + 8 - 8 * (eU (b7 d a) : Int)) (bN (d9 (b7 d a) + 1) p), cO], 0) := by rw [b9, if_neg (by simpa using he), if_neg hb, if_neg h31]
 generalize b7 d a = l at *;have hn : eU l = 1 \/ eU l = 0 := by unfold eU; split <;> simp
 refine aa (ab ?_);simp [go_sem];have hBox : ∀ j, V.length <= j -> wD (H.length + 2) j [some (cj d), some (c9 l)] := fun j hj => by
  rw [aW, aW, okL_dkC];exact ⟨trivial, jS (dp _ _ _ _) (dp _ _ _ _), trivial⟩
 refine am (α := Unit) (fun _ => ([(1, ci a), (2, .sl tk 1 (bs p)), (9, ci (eU l)), (11, ci (d9 l))], H ++ [some (cj d), some (c9 l)], V)) (fun _ => True) ?_ ?_
 · refine aa (ab ?_)
   simp [go_sem];refine af ?_;refine al (α := Nat) (fun i => ([(1, ci a), (2, .sl tk 1 (bs p)), (9, ci (eU l)), (11, ci (tB 0 (l.take (8 * i)))), (30, .agg (c9 l)), (31, ci i)], H ++ [some (cj d), some (c9 l)], V)) (fun i => i <= 2) (fun i => 2 - i) 0 (by omega) (ae (by simp [go_sem, tB, c9, eR]) (by simp [c9, eR]) rfl) ?_;intro i hi;dsimp only;refine aa (ab ?_);simp [go_sem];refine aa (ab ?_);simp [go_sem];refine ⟨fun h => ?_, fun h => ?_⟩
   case refine_2 =>
    obtain rfl : i = 2 := by omega
    exact ae (by simp [go_sem, yE, take_of_length_le (show l.length <= 8 * 2 by omega)]) rfl rfl
   have hi2 : i = 0 \/ i = 1 := by omega
   generalize hs : (l.drop (8 * i)).take 8 = s;have hs8 : s.length = 8 := by rw [<- hs, length_take, length_drop]; omega
   have hnext : tB (tB 0 (l.take (8 * i))) s = tB 0 (l.take (8 * (i + 1))) := by
    rw [<- KH, <- hs, <- List.take_add];rfl
   have hBox3 : ∀ (c : Nat × List UInt8) (j : Nat), V.length <= j -> wD (H.length + 3) j [some (cj d), some (c9 l), some (eR c s)] := fun c j hj => by
    rw [aW, aW, aW, okL_dkC];exact ⟨trivial, jS (dp _ _ _ _) (dp _ _ _ _), dp _ _ _ _, trivial⟩
   refine aa (af (am (α := Nat × List UInt8) (fun c => ([(1, ci a), (2, .sl tk 1 (bs p)), (9, ci (eU l)), (11, ci (tB 0 (l.take (8 * i)))), (30, .agg (c9 l)), (31, ci i), (13, .ptr (H.length + 2) 0)], H ++ [some (cj d), some (c9 l), some (eR c s)], V)) (fun _ => True) ?_ ?_))
   · refine ab ?_
     rcases hi2 with rfl | rfl
     · simp [go_sem, c9, eR]
       refine ⟨(cA l).1, (cA l).2, ae (by simp [go_sem]) ?_ rfl⟩;rw [<- hs]; rfl
     · simp [go_sem, c9, eR]
       refine ⟨(cB l).1, (cB l).2, ae (by simp [go_sem]) ?_ rfl⟩;rw [<- hs, show (l.drop (8 * 1)).take 8 = l.drop 8 from take_of_length_le (by rw [length_drop]; omega)]
   rintro ⟨c1, c2⟩ -;dsimp only;refine aa (ab ?_);simp [go_sem, eR];refine af ?_;refine al (α := Nat) (fun k => ([(1, ci a), (2, .sl tk 1 (bs p)), (9, ci (eU l)), (11, ci (tB (tB 0 (l.take (8 * i))) (s.take k))), (30, .agg (c9 l)), (31, ci i), (35, aF s), (36, ci 8), (37, ci k)], H ++ [some (cj d), some (c9 l), some (eR (c1, c2) s)], V)) (fun k => k <= 8) (fun k => 8 - k) 0 (by omega) (ae (by simp [go_sem, hs8, tB]) (by simp [eR]) rfl) ?_;intro k hk;dsimp only;refine aa (ab ?_);simp [go_sem];refine aa (ab ?_);simp [go_sem];refine ⟨fun hk8 => ?_, fun hk8 => ?_⟩
   case refine_2 =>
    obtain rfl : k = 8 := by omega
    refine ab ?_;simp [go_sem, aq (show i <= 1000000000 by omega)];refine ⟨i + 1, by omega, by omega, Sh.trim (L := [some (cj d), some (c9 l)]) ?_ ?_ oH (hBox _ (le_refl _)) (le_refl _) (by simp) (by simp)⟩
    · rw [take_of_length_le (show s.length <= 8 by omega), hnext]
      simp [go_sem]
    · rw [okL, okL, okL] at hok
      simp only [nc, pi];exact ⟨by simp [go_sem], cP (by omega) (le_refl _) hok.2.2.1, by simp [go_sem], by simp [go_sem], by rw [k9]; exact jS (dp _ _ _ _) (dp _ _ _ _), by simp [go_sem], trivial⟩
   have hks : k < s.length := by omega
   refine aa (af (aa (ab ?_)));simp [go_sem, hks];refine ab ?_;simp [go_sem];refine ah (fa _ _ _) ?_;simp [go_sem];refine ab ?_;simp [go_sem, aq (show k <= 1000000000 by omega), X3];refine ⟨k + 1, by omega, by omega, Sh.trim (L := [some (cj d), some (c9 l), some (eR (c1, c2) s)]) ?_ ?_ oH (hBox3 _ _ (le_refl _)) (le_refl _) (by simp) (by simp)⟩
   · rw [FQ _ _ _ hks]
     simp [go_sem, X3]
   · rw [okL, okL, okL] at hok
     simp only [nc, pi];exact ⟨by simp [go_sem], cP (by omega) (le_refl _) hok.2.2.1, by simp [go_sem], by simp [go_sem], by rw [k9]; exact jS (dp _ _ _ _) (dp _ _ _ _), by simp [go_sem], cn _ _ _, by simp [go_sem], by simp [go_sem], trivial⟩
 · rintro _ -
   dsimp only;have htop : d9 l < 4294967296 := FR _ _ (by omega);rw [hS];refine aa (ab ?_)
   by_cases ht : d9 l = 4294967295
   · rw [if_pos ht] at hS
     rw [<- hS];simp [go_sem, ht];exact bad 11 hS (by simp) (by simp)
   rw [if_neg ht];simp [go_sem, show ¬ (d9 l : Int) = 4294967295 by omega];refine aa (ab ?_);have e0 : IntKind.i64.wrap (1 - (eU l : Int)) = 1 - (eU l : Int) := IntWalk.i64_in _ ⟨by omega, by omega⟩;have e1 : IntKind.i64.wrap ((1 - (eU l : Int)) * 8) = 8 - 8 * (eU l : Int) := by rw [IntWalk.i64_in _ ⟨by omega, by omega⟩]; omega
   have e2 : IntKind.i64.wrap (a + (8 - 8 * (eU l : Int))) = a + 8 - 8 * (eU l : Int) := by rw [IntWalk.i64_in _ ⟨by omega, by omega⟩]; omega
   have e3 : IntKind.i64.wrap ((d9 l : Int) + 1) = ((d9 l + 1 : Nat) : Int) := by rw [IntWalk.i64_in _ ⟨by omega, by omega⟩]; rfl
   simp [go_sem, e0];refine aa (ab ?_);simp [go_sem, e1, e2, e3];have hput := fun (H : Hp) (V : List Nat) => yH H V (d9 l + 1) tk p (by omega) (by omega);rw [Int.natCast_succ] at hput;refine ah (hput _ _) ?_;simp [go_sem];refine ab ?_;simp [go_sem];exact JE oH (by simp) (by simp)
@[go_sem] theorem aho : IA Tryz.prog 3 = true := by kernel_rfl
def aba (len n : Nat) (H : Hp) (V : List Nat) : CV -> Hp -> List Nat -> Prop := fun r H' V' => ∃ (k : Nat) (l' : List Int), (k < n /\ l'.length <= len) /\ r = .tup [ci k, .sl .sh 1 (l'.map ic)] /\ H = H' /\ V = V'
theorem wZ (H : Hp) (V : List Nat) (tk : Tk) (l : List Int) (n : Nat) (h0 : 0 < n) (hn : n <= 2000000) : CC Tryz.prog 140 [.sl tk 1 (l.map ic), ci n] H V (aba l.length n H V) := by
 refine aj Tryz.func140 rfl fun hok oH => ?_;clear hok;have fin : ∀ (k : Nat) (l' : List Int) (c : CV) {H' : Hp} {V' : List Nat}, k < n /\ l'.length <= l.length -> Le c (.sl .sh 1 (l'.map ic)) -> H'.take H.length = H -> V'.take V.length = V -> ao H.length V.length (aba l.length n H V) (.tup [ci k, c]) H' V' := fun k l' c H' V' hk hc h1 h2 =>
  ao.pure ⟨k, l', hk, rfl, rfl, rfl⟩ h1 h2 (.tup (.cons (.refl _) (.cons hc .nil))) (by rw [aK]; simp [go_sem, aR]) oH
 refine aa (ab ?_);simp [go_sem, ai];refine aa (ab ?_)
 by_cases hl : l = []
 · subst hl
   simp [go_sem];exact fin 0 [] _ ⟨h0, le_refl _⟩ (.nil 1 (by decide)) (by simp) (by simp)
 have hlp : 0 < l.length := length_pos_iff.2 hl;simp [go_sem, hl, show ¬ l.length = 0 by omega];refine aa (ac.drawnL (List.range 13) (by kernel_rfl) (by kernel_rfl) rfl ?_);simp [go_sem, List.range, List.range.loop, hlp];have hn0 : (0 : Int) < n := by omega
 have x1 := Int.tmod_lt_of_pos l[0] hn0;have x2 : -(n : Int) < l[0].tmod n := by
  have := Int.lt_tmod_of_pos l[0] hn0;omega
 have hw : IntKind.i64.wrap (l[0].tmod n + n) = l[0].tmod n + n := IntWalk.i64_in _ ⟨by omega, by omega⟩;have y1 := Int.tmod_lt_of_pos (l[0].tmod n + n) hn0;have y2 : 0 <= (l[0].tmod n + n).tmod n := Int.tmod_nonneg _ (by omega);rw [hw];generalize (l[0].tmod n + n).tmod n = y at *;obtain ⟨k, rfl⟩ := Int.eq_ofNat_of_zero_le y2;refine ⟨by omega, by omega, ab ?_⟩;simp [go_sem];exact fin k (l.drop 1) _ ⟨by omega, by rw [length_drop]; omega⟩ (.trans (.sh _ _ _) (.of_eq (by rw [map_drop, drop_one]))) (by simp) (by simp)
theorem uF (H : Hp) (V : List Nat) (b : Nat) (hb : b < H.length) : CC Tryz.prog 139 [.mv b] H V (fun r H' V' => r = .fn 166 [.ptr H.length 0] /\ H' = H ++ [some [.mv b]] /\ V = V') := by
 refine aj Tryz.func139 rfl fun hok oH => ?_;refine aa (ab ?_);simp [go_sem, ai];refine ab ?_;simp [go_sem];refine ao.cut (H.length + 1) V.length ⟨rfl, rfl, rfl⟩ (by omega) (le_refl _) (take_of_length_le (by simp)) (take_of_length_le (le_refl _)) (.refl _) (by simp [go_sem]) ?_;intro c cs hb';rw [getElem?_append] at hb'
 split at hb'
 · exact aO (by omega) (le_refl _) (oH c cs hb')
 · exact cK (i := H.length + 1) (j := V.length) (L := [some [.mv b]]) (by rw [aW, okL, okL, aK]; exact ⟨⟨by omega, trivial⟩, trivial⟩) _ _ hb'
def IS (s l : List Nat) : Nat := (l.filter fun x => !s.contains x).length
theorem D4 (s : List Nat) (i : Nat) : ∀ l : List Nat, IS (s ++ [i]) l <= IS s l
 | [] => le_refl _
 | x :: l => by
  have ih := D4 s i l;unfold IS at *;rw [filter_cons, filter_cons]
  by_cases h : x ∈ s
  · have h1 : (!(s ++ [i]).contains x) = false := by simp [h]
    have h2 : (!s.contains x) = false := by simp [h]
    rw [h1, h2]; exact ih
  · have h2 : (!s.contains x) = true := by simp [h]
    rw [h2]
    split
    · rw [if_pos rfl, length_cons, length_cons]; omega
    · rw [if_pos rfl, length_cons]; omega
theorem wN (s : List Nat) (i : Nat) (hs : i ∉ s) : ∀ l : List Nat, i ∈ l -> IS (s ++ [i]) l < IS s l
 | x :: l, hi => by
  by_cases hx : x = i
  · subst hx
    have := D4 s x l;unfold IS at *;rw [filter_cons, filter_cons];have h1 : (!(s ++ [x]).contains x) = false := by simp
    have h2 : (!s.contains x) = true := by simp [hs]
    rw [h1, h2, if_neg (by decide), if_pos rfl, length_cons]; omega
  · have ih := wN s i hs l (by rcases mem_cons.1 hi with h | h; exact absurd h.symm hx; exact h)
    unfold IS at *;rw [filter_cons, filter_cons]
    by_cases h : x ∈ s
    · have h1 : (!(s ++ [i]).contains x) = false := by simp [h]
      have h2 : (!s.contains x) = false := by simp [h]
      rw [h1, h2]; exact ih
    · have h1 : (!(s ++ [i]).contains x) = true := by simp [h, hx]
      have h2 : (!s.contains x) = true := by simp [h]
      rw [h1, h2, if_pos rfl, if_pos rfl, length_cons, length_cons]; omega
theorem AM (H : Hp) (V : List Nat) (L b2 b : Nat) (ks : List Int) (vs : List CV) (I : List Nat -> Hp -> List Nat -> Prop)
 (hb2 : H[b2]? = some (some [.mv b])) (hb : H[b]? = some (some [.objm ks vs]))
 (h0 : I [] (H ++ [some [.obji b ks.length []]]) V)
 (hI : ∀ s G W, I s G W -> G[H.length]? = some (some [.obji b ks.length s]) /\ G[b]? = some (some [.objm ks vs]) /\ ∀ i ∈ s, i < ks.length)
 (hy : ∀ s i G W, I s G W -> (h : i < ks.length) -> i ∉ s -> YC Tryz.prog L [ci (ks[i])] (G.set H.length (some [.obji b ks.length (s ++ [i])])) W (fun r G' W' => r = .v (.bool true) /\ I (s ++ [i]) G' W')) :
 CC Tryz.prog 166 [.yl L, .ptr b2 0] H V (fun _ H' V' => ∃ s, I s H' V') := by
 refine aj Tryz.func166 rfl fun hok oH => ?_;clear hok;refine aa (ab ?_);simp [go_sem, ai, ak hb2, jm hb];refine af ?_;refine al (α := List Nat × Hp × List Nat) (fun x => ([(0, .yl L), (5, .it H.length)], x.2.1, x.2.2)) (fun x => I x.1 x.2.1 x.2.2) (fun x => IS x.1 (List.range ks.length)) ([], _, V) h0 (ae (by simp [go_sem]) rfl rfl) ?_;rintro ⟨s, G, W⟩ hi;dsimp only at hi ⊢;obtain ⟨g1, g2, g3⟩ := hI _ _ _ hi;refine aa (ab ?_);simp [go_sem];unfold oC;dsimp only;refine ⟨rfl, b, ks.length, s, ks, vs, g1, g2, rfl, g3, fun hall => ?_, fun i hil hni => ?_⟩
 · simp [go_sem]
   refine aa (ab ?_);simp [go_sem];exact ao.self ⟨s, hi⟩
 · have hbl : b < H.length := by
    rcases Nat.lt_or_ge b H.length with h | h
    · exact h
    · rw [getElem?_eq_none h] at hb; cases hb
   have hql : H.length < G.length := (List.getElem?_eq_some_iff.1 g1).1;have q1 : (G.set H.length (some [.obji b ks.length (s ++ [i])]))[H.length]? = some (some [.obji b ks.length (s ++ [i])]) := getElem?_set_self hql;have q2 : (G.set H.length (some [.obji b ks.length (s ++ [i])]))[b]? = some (some [.objm ks vs]) := by rw [getElem?_set_ne (by omega)]; exact g2
   simp [go_sem];refine aa (ab ?_);simp [go_sem];refine af (aa (ab ?_));simp [go_sem];unfold iO;dsimp only;refine ⟨b, ks.length, s, i, ks, vs, q1, q2, rfl, hil, ?_⟩;rw [getElem?_eq_getElem hil, Option.getD_some];simp [go_sem];refine aa (ab ?_);simp [go_sem];refine YC.mono (hy s i G W hi hil hni) ?_;rintro _ G2 W2 ⟨rfl, hi2⟩;simp [go_sem];refine ab ?_;simp [go_sem];exact ⟨s ++ [i], G2, W2, hi2, wN s i hni _ (by simpa using hil), ae (by simp [go_sem]) rfl rfl⟩
def Cl (h : Nat) (ks : List Int) (cv : CV) (xs : List Int) (W : Hp) : Prop :=
 (∀ x ∈ xs, x ∈ ks) /\ ((cv = .sl .ti 1 [] /\ xs = []) \/ ∃ j, cv = .bsa (h + (j + 3)) xs.length 1 /\ W[j]? = some (some (xs.map ci)))
def abc (ks : List Int) (H : Hp) (V : List Nat) : CV -> Hp -> List Nat -> Prop := fun r H' V' => ∃ (xs : List Int) (W : Hp), H' = H ++ W /\ V' = V /\ (∀ x ∈ xs, x ∈ ks) /\ xs.length <= ks.length /\ ((r = .sl .ti 1 [] /\ xs = []) \/ ∃ j, r = .bsa (H.length + j) xs.length 1 /\ W[j]? = some (some (xs.map ci)))
theorem O6 (H W : Hp) (a0 a1 a2 : Option (List CV)) (j : Nat) (y : Option (List CV)) : (H ++ (a0 :: a1 :: a2 :: W)).set (H.length + (j + 3)) y = H ++ (a0 :: a1 :: a2 :: W.set j y) := by
 rw [set_append_right _ _ (by omega), Nat.add_sub_cancel_left]; rfl
theorem ry (H : Hp) (V : List Nat) (b2 b : Nat) (ks : List Int) (vs : List CV) (hb2 : H[b2]? = some (some [.mv b])) (hb : H[b]? = some (some [.objm ks vs])) (hkl : ks.length <= 1000000) :
 CC Tryz.prog 182 [.sl .ti 1 [], .fn 166 [.ptr b2 0]] H V (abc ks H V) := by
 refine CC.of_swp0 Tryz.func182 rfl (by kernel_rfl) (by rw [Tryz.ntmps182]; exact gu _ _ rfl) fun hok oH => ?_;have hb2l := (List.getElem?_eq_some_iff.1 hb2).1;have hbl := (List.getElem?_eq_some_iff.1 hb).1;refine aw (aD (ab ?_));simp [go_sem, ai];refine aL.join (α := CV × List Int × Option (List CV) × Hp) (fun x => ([(2, .ptr H.length 0)], H ++ (some [x.1] :: none :: x.2.2.1 :: x.2.2.2), V)) (fun x => Cl H.length ks x.1 x.2.1 x.2.2.2 /\ x.2.1.length <= ks.length) ?_ ?_
 · refine aw (aD (ab ?_))
   simp [go_sem];refine aL.block (aL.range [(2, .ptr H.length 0)] rfl (by simp [go_sem]) ?_);simp [go_sem];generalize hbd : Code.block 1 _ = bd;generalize has : Code.region 2 _ _ = asg;refine CC.mono (AM _ V _ b2 b ks vs (fun s G W => W = V /\ ∃ cv xs Wg, G = H ++ (some [cv] :: some [fQ 13 #[7] asg bd [(2, .ptr H.length 0)] .ready none] :: some [.obji b ks.length s] :: Wg) /\ Cl H.length ks cv xs Wg /\ (∀ i ∈ s, i < ks.length) /\ xs.length + IS s (List.range ks.length) <= ks.length) ?_ ?_ ?_ ?_ ?_) ?_
   · rw [getElem?_append_left hb2l]; exact hb2
   · rw [getElem?_append_left hbl]; exact hb
   · exact ⟨rfl, .sl .ti 1 [], [], [], by simp, ⟨by simp, .inl ⟨rfl, rfl⟩⟩, by simp, by have := List.length_filter_le (fun x => !([] : List Nat).contains x) (List.range ks.length); rw [length_range] at this; simpa [IS] using this⟩
   · rintro s _ _ ⟨rfl, cv, xs, Wg, rfl, hc, hs, hu⟩
     exact ⟨by rw [length_append]; exact aC H _ 2, by rw [getElem?_append_left hbl]; exact hb, hs⟩
   · rintro s i _ V1 ⟨rfl, cv, xs, Wg, rfl, hc, hs, hu⟩ hil hni
     have e : List.set (H ++ (some [cv] :: some [fQ 13 #[7] asg bd [(2, .ptr H.length 0)] .ready none] :: some [.obji b ks.length s] :: Wg)) (H ++ [some [.sl .ti 1 []], some [fQ 13 #[7] asg bd [(2, .ptr H.length 0)] .ready none]]).length (some [.obji b ks.length (s ++ [i])]) =
      H ++ (some [cv] :: some [fQ 13 #[7] asg bd [(2, .ptr H.length 0)] .ready none] :: some [.obji b ks.length (s ++ [i])] :: Wg) := by
      rw [length_append, set_append_right _ _ (by omega), Nat.add_sub_cancel_left]; rfl
     rw [e];have hsi : ∀ j ∈ s ++ [i], j < ks.length := by
      intro j hj;rcases mem_append.1 hj with hj | hj
      · exact hs j hj
      · rw [mem_singleton.1 hj]; exact hil
     have hsi' : ∀ j, j ∈ s \/ j = i -> j < ks.length := fun j hj => hsi j (by simpa using hj);have hlt := wN s i hni (List.range ks.length) (by simpa using hil);have hki : ks[i] ∈ ks := getElem_mem hil;refine YC.of_round (n := 13) (ps := #[7]) (bd := bd) (T := [(2, .ptr H.length 0)]) (aC _ _ 1) rfl (by decide) ?_;subst hbd has;refine ab ?_;simp [go_sem, yD];generalize hlp : fQ 13 #[7] _ _ _ LoopState.busy none = lp;generalize hqq : RQ 13 #[7] _ _ _ _ _ = QQ;rcases hc with ⟨hx0, ⟨rfl, rfl⟩ | ⟨j, rfl, hj⟩⟩
     · refine af (ac.opx (pre := [_, _, _]) (post := [_]) rfl (by intro c e; cases e) ?_)
       simp [go_sem];refine ⟨_, _, _, mc (sz := 1) (tk := .ti) (ys := [[ci ks[i]]]) jG jG rfl rfl (by simp) (by simp), ?_⟩;simp [go_sem];rw [<- hqq, <- hlp];refine ⟨aC _ _ 1, rfl, rfl, .bsa (H.length + (Wg.length + 3)) 1 1, [ks[i]], Wg ++ [some [ci ks[i]]], ?_, ⟨fun x hx => by rw [mem_singleton.1 hx]; exact hki, .inr ⟨Wg.length, rfl, by simp⟩⟩, hsi', by simp at hu ⊢; omega⟩;rw [set_append_right _ _ (by omega), Nat.add_sub_cancel_left];simp
     · refine af (ab ?_)
       simp [go_sem, ak hj, O6];rw [<- hqq, <- hlp];refine ⟨by omega, aC _ _ 1, rfl, rfl, .bsa (H.length + (Wg.length + 3)) (xs ++ [ks[i]]).length 1, xs ++ [ks[i]], Wg.set j none ++ [some ((xs ++ [ks[i]]).map ci)], ?_, ⟨fun x hx => ?_, .inr ⟨Wg.length, rfl, by simp⟩⟩, hsi', by simp; omega⟩
       · rw [set_append_right _ _ (by omega), Nat.add_sub_cancel_left]
         simp
       · rcases mem_append.1 hx with hx | hx'
         · exact hx0 x hx
         · rw [mem_singleton.1 hx']; exact hki
   · rintro _ _ _ ⟨s, rfl, cv, xs, Wg, rfl, hc, hs, hu⟩
     refine .inl ⟨aC _ _ 1, ?_⟩;refine ⟨cv, xs, some [.obji b ks.length s], Wg, ⟨hc, by omega⟩, ae (by simp [go_sem]) ?_ rfl⟩;rw [set_append_right _ _ (by omega), Nat.add_sub_cancel_left]; rfl
 · rintro ⟨cv, xs, ob, Wg⟩ ⟨hc, hxl⟩
   dsimp only at hc hxl ⊢;refine aw (aD (ab ?_));simp [go_sem];refine aD (ab ?_);simp [go_sem];refine ao.self ⟨xs, _, rfl, rfl, hc.1, hxl, ?_⟩;rcases hc.2 with ⟨rfl, rfl⟩ | ⟨j, rfl, hj⟩
   · exact .inl ⟨rfl, rfl⟩
   · exact .inr ⟨j + 3, rfl, hj⟩
section
section
variable {P : Program}
end
end
section
open Go.Proofs
end
abbrev iv (n : Int) : CV := .v (.int .i64 n)
theorem aM (s c : Int) : bf s c = true ↔ (0 <= s /\ 20 <= c /\ s <= 4096 /\ c <= 4096 - s) := by simp only [bf, Bool.and_eq_true, decide_eq_true_eq, and_assoc]
theorem pw (s c : Int) : bf s c = false ↔ ¬ (0 <= s /\ 20 <= c /\ s <= 4096 /\ c <= 4096 - s) := by rw [<- aM, Bool.not_eq_true]
theorem pt (H : Hp) (V : List Nat) (s c : Int) : CC Tryz.prog 72 [.agg [iv s, iv c]] H V (Pu (cb (bf s c)) H V) := by
 refine aj Tryz.func72 rfl fun hok oH => ?_
 clear hok
 refine aa (ab ?_)
 simp -implicitDefEqProofs [go_sem, ai]
 by_cases c1 : 0 <= s
 case neg =>
  refine ab ?_
  simp -implicitDefEqProofs [go_sem, c1]
  exact aA (((pw s c).2 (by omega)).symm) oH (by simp) (by simp)
 by_cases c2 : 20 <= c
 case neg =>
  refine ab ?_
  simp -implicitDefEqProofs [go_sem, c1, c2]
  exact aA (((pw s c).2 (by omega)).symm) oH (by simp) (by simp)
 by_cases c3 : s <= 4096
 case neg =>
  refine ab ?_
  simp -implicitDefEqProofs [go_sem, c1, c2, c3]
  exact aA (((pw s c).2 (by omega)).symm) oH (by simp) (by simp)
 have w1 : IntKind.i64.wrap (4096 - s) = 4096 - s := IntWalk.i64_in _ ⟨by omega, by omega⟩
 refine ab ?_
 simp -implicitDefEqProofs [go_sem, c1, c2, c3, w1]
 refine aA ?_ oH (by simp) (by simp)
 simp [bf, c1, c2, c3]
theorem b6 (H : Hp) (V : List Nat) (s c : Int) (h : bf s c = true) : CC Tryz.prog 76 [.agg [iv s, iv c]] H V (Pu (iv (c - 16)) H V) := by
 refine aj Tryz.func76 rfl fun hok oH => ?_;clear hok;have hv := (aM s c).1 h;refine aa (ab ?_);simp [go_sem, ai];refine ab ?_;simp [go_sem, IntWalk.i64_in (c - 16) ⟨by omega, by omega⟩];exact ao.int rfl oH (by simp) (by simp)
theorem kV (H : Hp) (V : List Nat) (s c p : Int) (h : bf s c = true) (h1 : 0 <= p) (h2 : p <= 1000000) : CC Tryz.prog 75 [.agg [iv s, iv c], iv p] H V (Pu (iv (s + 16 + p)) H V) := by
 refine aj Tryz.func75 rfl fun hok oH => ?_;clear hok;have hv := (aM s c).1 h;refine aa (ab ?_);simp [go_sem, ai];refine ab ?_;simp [go_sem, IntWalk.i64_in (s + 16) ⟨by omega, by omega⟩, IntWalk.i64_in (s + 16 + p) ⟨by omega, by omega⟩];exact ao.int rfl oH (by simp) (by simp)
theorem rf (H : Hp) (V : List Nat) (n : Int) : CC Tryz.prog 79 [iv n] H V (Pu (iv (ne n)) H V) := by
 refine aj Tryz.func79 rfl fun hok oH => ?_;clear hok;refine aa (ab ?_);simp [go_sem, ai];refine aa (aa (ab ?_))
 by_cases c1 : n < 0
 · simp [go_sem, c1]
   refine ab ?_;simp [go_sem];exact ao.int (by rw [ne, if_pos (.inl c1)]) oH (by simp) (by simp)
 by_cases c2 : 4096 < n
 · simp [go_sem, c1, c2]
   refine ab ?_;simp [go_sem];exact ao.int (by rw [ne, if_pos (.inr c2)]) oH (by simp) (by simp)
 have w1 : IntKind.i64.wrap (3 + n) = 3 + n := IntWalk.i64_in _ ⟨by omega, by omega⟩;have w2 : IntKind.i64.wrap (3 + n + 4) = 3 + n + 4 := IntWalk.i64_in _ ⟨by omega, by omega⟩;have w3 : IntKind.i64.wrap (3 + n + 4 + 4) = 3 + n + 4 + 4 := IntWalk.i64_in _ ⟨by omega, by omega⟩;have w4 : IntKind.i64.wrap (3 + n + 4 + 4 - 1) = n + 10 := (IntWalk.i64_in _ ⟨by omega, by omega⟩).trans (by omega);have w5 : IntKind.i64.wrap ((n + 10).tdiv 4) = (n + 10) / 4 := by rw [Int.tdiv_eq_ediv_of_nonneg (by omega)]; exact IntWalk.i64_in _ ⟨by omega, by omega⟩
 simp [go_sem, c1, c2];refine ab ?_;simp [go_sem];refine ab ?_;simp [go_sem, w1, w2, w3, w4, w5];exact ao.int (by rw [ne, if_neg (by omega)]) oH (by simp) (by simp)
def iu (j : bW) (u : Int) : List CV := [iv j.start, iv j.count] ++ fA j ++ [iv u]
@[go_sem, simp] theorem abJ (j : bW) (u : Int) : (iu j u).length = 9 := by rw [iu, fA]; rfl
@[go_sem, simp] theorem WS (j : bW) (u : Int) : (iu j u).take 9 = iu j u := rfl
@[go_sem, simp] theorem WU (j : bW) (u : Int) : (iu j u).drop 9 = [] := rfl
@[go_sem, simp] theorem SD (j : bW) (u : Int) : (iu j u).take 2 = [iv j.start, iv j.count] := rfl
@[go_sem, simp] theorem abI (j : bW) (u : Int) : ((iu j u).drop 2).take 6 = fA j := rfl
@[go_sem, simp] theorem WT (j : bW) (u : Int) : ((iu j u).take 8).drop 2 = fA j := rfl
@[go_sem, simp] theorem abK (j : bW) (u : Int) : aJ (iu j u) = true := rfl
@[go_sem, simp] theorem agv (j : bW) (u : Int) (h : 1 < (iu j u).length) : (iu j u)[1] = iv j.count := rfl
@[go_sem, simp] theorem agu (j : bW) (u : Int) (h : 5 < (iu j u).length) : (iu j u)[5] = iv j.tail := rfl
@[go_sem, simp] theorem agt (j : bW) (u : Int) (h : 6 < (iu j u).length) : (iu j u)[6] = iv j.first := rfl
@[go_sem, simp] theorem ags (j : bW) (u : Int) (h : 7 < (iu j u).length) : (iu j u)[7] = .sl .sh 1 (j.sizes.map ic) := rfl
@[go_sem, simp] theorem agr (j : bW) (u : Int) (h : 8 < (iu j u).length) : (iu j u)[8] = iv u := rfl
@[go_sem] theorem okL_stJ (a b : Nat) (j : bW) (u : Int) : okL a b (iu j u) = True := by simp [iu, fA, go_sem, okL, aK, aR]
theorem mB (H : Hp) (V : List Nat) (j : bW) (u : Int) (h1 : 1 <= j.first) (h2 : j.first + j.sizes.length <= 1073741824) : CC Tryz.prog 89 [.agg (iu j u)] H V (Pu (iv (ax j)) H V) := by
 refine aj Tryz.func89 rfl fun hok oH => ?_;clear hok;refine aa (ab ?_);simp [go_sem, ai];refine ab ?_;simp [go_sem, IntWalk.i64_in (j.first + (j.sizes.length : Int)) ⟨by omega, by omega⟩];exact ao.int rfl oH (by simp) (by simp)
theorem zD (H : Hp) (V : List Nat) (j : bW) (u : Int) (h : bf j.start j.count = true) (h1 : 0 <= u) (h2 : u <= 100000) : CC Tryz.prog 110 [.agg (iu j u)] H V (Pu (iv (j.count - 16 - u)) H V) := by
 refine aj Tryz.func110 rfl fun hok oH => ?_;clear hok;have hv := (aM _ _).1 h;refine aa (ab ?_);simp [go_sem, ai];refine aa (az [] [] (.s 0 .pl <| .s 1 .pl <| .c 2 <| .s 3 .pl <| .s 4 .pl <| .s 5 .pl <| .s 6 .pl <| .n) ?_);simp [go_sem];refine ⟨_, fun H V => b6 H V j.start j.count h, ?_⟩;simp [go_sem];refine ab ?_;simp [go_sem, IntWalk.i64_in (j.count - 16 - u) ⟨by omega, by omega⟩];exact ao.int rfl oH (by simp) (by simp)
def CU (n i : Nat) : Nat := n / 256 ^ i
theorem ZX (n : Nat) : CU n 0 = n := Nat.div_one n
theorem HG (n i : Nat) : CU n (i + 1) = CU n i / 256 := by unfold CU; rw [Nat.pow_succ, Nat.div_div_eq_div_mul]
def xq (n : Nat) : Nat -> List UInt8
 | 0 => []
 | k + 1 => xq n k ++ [wH (CU n k : Nat)]
@[simp] theorem KT (n : Nat) : ∀ k, (xq n k).length = k
 | 0 => rfl
 | k + 1 => by rw [xq, length_append, KT n k]; rfl
theorem NN (n : Nat) : xq n 4 = iR n := by
 have e : ∀ m : Nat, wH (m : Int) = UInt8.ofNat (m % 256) := fun m => by
  apply UInt8.toNat_inj.1;have := fJ (m : Int);rw [UInt8.toNat_ofNat']; omega
 simp only [xq, e, nil_append, cons_append, iR, CU];rw [show (256 : Nat) ^ 0 = 1 from rfl, Nat.div_one]
theorem aeW (n i : Nat) : shr .i64 ((CU n i : Nat) : Int) 8 = ((CU n (i + 1) : Nat) : Int) := by
 rw [HG];unfold shr;rw [show ((CU n i : Nat) : Int).fdiv (2 ^ (min (8 : Int).toNat IntKind.i64.bits)) = ((CU n i / 256 : Nat) : Int) by rw [Int.fdiv_eq_ediv_of_nonneg _ (by decide)]; show ((CU n i : Nat) : Int) / 256 = _; omega]
theorem nL (H : Hp) (V : List Nat) (n k : Nat) (hk : k <= 8) : CC Tryz.prog 144 [ci n, ci k] H V (Fr 1 (bs (xq n k)) H V) := by
 refine aj Tryz.func144 rfl fun hok oH => ?_;clear hok;refine aa (ab ?_);simp [go_sem, ai];refine aa (ab ?_);simp [go_sem];refine am (α := Nat) (fun v => ([(5, .sl (.own V.length v) 1 (bs (xq n k)))], H, V ++ [v])) (fun _ => True) ?_ ?_
 · refine aa (ab ?_)
   simp [go_sem];refine af ?_;refine al (α := Nat × Nat) (fun x => ([(0, ci (CU n x.1 : Nat)), (5, .sl (.own V.length x.2) 1 (bs (xq n x.1))), (6, ci k), (7, ci x.1)], H, V ++ [x.2])) (fun x => x.1 <= k) (fun x => k - x.1) (0, 0) (zero_le _) (Sh.tokT (by simp [go_sem, xq, ZX]) rfl rfl) ?_;rintro ⟨i, v⟩ hi;dsimp only at hi ⊢;refine ab ?_;simp [go_sem, aeW];refine ⟨fun h => ⟨by omega, i + 1, by omega, by omega, v + 1, ae ?_ rfl rfl⟩, fun h => ⟨v, ae ?_ rfl rfl⟩⟩
   · simp [go_sem, aq (show i <= 1000000000 by omega), xq]
   · obtain rfl : i = k := by omega
     simp [go_sem]
 · rintro v -
   refine ab ?_;simp [go_sem];exact ao.fresh rfl (KB _ _ _) oH (by simp)
theorem iT (l : List Int) (x : Int) : ay (l ++ [x]) = ay l + x := by rw [ay, foldl_append]; rfl
theorem fC (l : List Int) (i : Nat) (h : i < l.length) : ay (l.take (i + 1)) = ay (l.take i) + l[i] := by rw [take_succ_eq_append_getElem h, iT]
theorem iU (x : Int) (l : List Int) : ay (x :: l) = x + ay l := by
 have : ∀ (l : List Int) (a : Int), l.foldl (· + ·) a = a + l.foldl (· + ·) 0 := fun l => by
  induction l with
  | nil => intro a; simp
  | cons y l ih => intro a; rw [foldl_cons, foldl_cons, ih (a + y), ih (0 + y)]; omega
 rw [ay, foldl_cons, this]; simp [ay]
theorem kB (n : Int) : jR n = true ↔ 2 <= n /\ n <= 1026 := by simp [jR]
theorem mj (a b : List Int) : ay (a ++ b) = ay a + ay b := by
 induction a with
 | nil => simp [ay]
 | cons x a ih => rw [cons_append, iU, iU, ih]; omega
theorem eY : ∀ l : List Int, l.all jR = true -> 2 * (l.length : Int) <= ay l
 | [], _ => by decide
 | x :: l, h => by
  rw [all_cons, Bool.and_eq_true, kB] at h;have := eY l h.2;rw [iU, length_cons]; omega
theorem AC (l : List Int) (i : Nat) (h : l.all jR = true) : ay (l.take i) <= ay l := by
 have e := mj (l.take i) (l.drop i);rw [take_append_drop] at e;have h2 : (l.drop i).all jR = true := by
  rw [all_eq_true] at h ⊢; exact fun x hx => h x (mem_of_mem_drop hx)
 have := eY _ h2;omega
def rB (j : bW) : Bool := decide (0 <= j.head) && decide (j.head < j.count - 16) && decide (1 <= j.first) && decide (j.first <= 1073741824) && decide ((j.sizes.length : Int) <= 1073741824 - j.first)
theorem dF (j : bW) : rB j = true ↔ 0 <= j.head /\ j.head < j.count - 16 /\ 1 <= j.first /\ j.first <= 1073741824 /\ (j.sizes.length : Int) <= 1073741824 - j.first := by simp only [rB, Bool.and_eq_true, decide_eq_true_eq, and_assoc]
theorem bG (j : bW) : cE j = true ↔ bf j.start j.count = true /\ rB j = true /\ j.sizes.all jR = true /\ ay j.sizes <= j.count - 16 /\ j.tail = (j.head + ay j.sizes) % (j.count - 16) := by
 rw [dF, cE];simp only [Bool.and_eq_true, decide_eq_true_eq, and_assoc]
 constructor
 · rintro ⟨h1, h2, h3, h4, h5, h6, h7, h8, h9⟩; exact ⟨h1, h2, h3, h4, h5, by omega, h6, h7, h8⟩
 · rintro ⟨h1, h2, h3, h4, h5, h6, h7, h8, h9⟩; exact ⟨h1, h2, h3, h4, h5, h7, h8, h9, by omega⟩
theorem Q0 {j : bW} (h : ¬ (bf j.start j.count = true /\ rB j = true /\ j.sizes.all jR = true /\ ay j.sizes <= j.count - 16 /\ j.tail = (j.head + ay j.sizes) % (j.count - 16))) : cE j = false := by
 rw [<- Bool.not_eq_true, bG]; exact h
theorem JG (j : bW) : iv j.start :: iv j.count :: (fA j ++ iv 0 :: List.drop 7 (fA j ++ [iv 0])) = iu j 0 := rfl
@[go_sem] theorem agX (S : List Nat) (u : Value) : KW S (.v u) = True := rfl
abbrev zst : List CV := [iv 0, iv 0, iv 0, iv 0, iv 0, iv 0, iv 0, .v (.slice none 0 0), iv 0]
theorem JF (j : bW) (u w : Int) : List.take 8 (iu j u) ++ [iv w] = iu j w := rfl
@[go_sem] theorem agb (H : Hp) (a x y c : Option (List CV)) : Kp [H.length, H.length + 2] (H ++ [a, x, c]) (H ++ [a, y, c]) = True := by
 refine eq_true (Kp.keep fun b hb => ?_);rcases mem_cons.1 hb with rfl | hb
 · simp
 · obtain rfl : b = H.length + 2 := by simpa using hb
   rw [aC, aC]; rfl
def aaU (j : bW) (H : Hp) (V : List Nat) : CV -> Hp -> List Nat -> Prop := fun r H' V' => ∃ u, r = .tup [.agg (iu j u), cb (cE j)] /\ H = H' /\ V = V' /\ (cE j = true -> u = ay j.sizes)
def XL (j : bW) (i : Nat) : Prop := i <= j.sizes.length /\ (j.sizes.take i).all jR = true /\ ay (j.sizes.take i) <= j.count - 16
def bJ (j : bW) : Bool := rB j && j.sizes.all jR && decide (ay j.sizes <= j.count - 16)
def XE (j : bW) (u : Int) : Prop := 0 <= u /\ u <= j.count - 16 /\ (bJ j = true -> u = ay j.sizes)
theorem XE.all {j : bW} {i : Nat} (h : XL j i) (hi : j.sizes.length <= i) : XE j (ay (j.sizes.take i)) /\ bJ j = rB j := by
 obtain ⟨_, h2, h3⟩ := h;have g := eY _ h2;refine ⟨⟨by omega, h3, fun _ => by rw [take_of_length_le hi]⟩, ?_⟩;rw [take_of_length_le hi] at h2 h3;simp only [bJ, h2, h3, decide_true, Bool.and_true]
theorem XE.bad {j : bW} {i : Nat} (h : XL j i) (hi : i < j.sizes.length) (hb : ¬ (2 <= j.sizes[i] /\ j.sizes[i] <= 1026 /\ ay (j.sizes.take i) + j.sizes[i] <= j.count - 16)) : XE j (ay (j.sizes.take i)) /\ bJ j = false := by
 obtain ⟨_, h2, h3⟩ := h;have g := eY _ h2;have hf : bJ j = false := by
  unfold bJ
  by_cases h : j.sizes.all jR = true
  case neg =>
   have : j.sizes.all jR = false := by simpa using h
   simp only [this, Bool.and_false, Bool.false_and]
  have g3 := (kB _).1 (all_eq_true.1 h _ (getElem_mem hi));have g4 := AC j.sizes (i + 1) h;rw [fC _ _ hi] at g4;have : ¬ ay j.sizes <= j.count - 16 := by omega
  simp only [this, decide_false, Bool.and_false]
 exact ⟨⟨by omega, h3, fun h => by rw [hf] at h; cases h⟩, hf⟩
theorem tV (j : bW) (h : bf j.start j.count = true) : cE j = (bJ j && decide (j.tail = (j.head + ay j.sizes) % (j.count - 16))) := by
 rw [Bool.eq_iff_iff, bG];simp [bJ, h, and_assoc]
theorem XL.succ {j : bW} {i : Nat} (h : XL j i) (hi : i < j.sizes.length) (h1 : 2 <= j.sizes[i]) (h2 : j.sizes[i] <= 1026) (hb : ay (j.sizes.take i) + j.sizes[i] <= j.count - 16) : XL j (i + 1) := by
 refine ⟨hi, ?_, by rw [fC _ _ hi]; exact hb⟩;rw [take_succ_eq_append_getElem hi, all_append, h.2.1];simp [jR, h1, h2]
theorem g9 (H : Hp) (V : List Nat) (j : bW) (hl : j.sizes.length <= 1000000000) : CC Tryz.prog 80 [.agg (fA j)] H V (aaU j H V) := by
 refine aj Tryz.func80 rfl fun hok oH => ?_;clear hok;refine aa (ab ?_);simp [go_sem, ai];refine ac.scope ?_;refine aa (ab ?_);simp [go_sem, JG];have fin : ∀ (L : Hp) (u : Int) (b : Bool), b = cE j -> (cE j = true -> u = ay j.sizes) -> ao H.length V.length (aaU j H V) (.tup [.agg (iu j u), cb b]) (H ++ L) V := fun L u b hb hu => by
  subst hb;refine ao.pure ⟨u, rfl, rfl, rfl, hu⟩ (by simp) (by simp) (.refl _) ?_ oH;rw [aK];simp [go_sem, okL, aK]
 refine am (α := Unit) (fun _ => ([(1, .ptr H.length 0), (2, .ptr (H.length + 1) 0), (4, .ptr (H.length + 2) 0)], H ++ [some (fA j), some zst, some (iu j 0)], V)) (fun _ => bf j.start j.count = true) ?_ ?_
 · refine aa (ab ?_)
   simp [go_sem];refine ah (pt _ _ _ _) ?_
   by_cases hv : bf j.start j.count = true
   case neg =>
    simp [go_sem, hv];refine ab ?_;simp [go_sem];exact fin _ 0 false (Q0 (fun h => hv h.1)).symm fun h => absurd ((bG j).1 h).1 hv
   simp [go_sem, hv];refine ab ?_;simp [go_sem];exact ae (by simp [go_sem]) rfl rfl
 rintro _ hv;dsimp only;have hvi := (aM _ _).1 hv;have nf : ∀ b, (0 <= j.head /\ j.head < j.count - 16 /\ 1 <= j.first /\ j.first <= 1073741824 /\ (j.sizes.length : Int) <= 1073741824 - j.first ↔ b = true) -> b = rB j := fun b h => by
  rw [Bool.eq_iff_iff, dF, h]
 refine am (α := Unit) (fun _ => ([(1, .ptr H.length 0), (2, .ptr (H.length + 1) 0), (4, .ptr (H.length + 2) 0), (5, cb (rB j))], H ++ [some (fA j), some zst, some (iu j 0)], V)) (fun _ => True) ?_ ?_
 · refine az [] [] (.s 0 .pl <| .s 1 .pl <| .s 2 .pl <| .s 3 .pl <| .s 4 .pl <| .s 5 .pl <| .s 6 .pl <| .s 7 .pl <| .s 8 .pl <| .s 9 .pl <| .s 10 .pl <| .s 11 .pl <| .s 12 .pl <| .s 13 .pl <| .s 14 .pl <| .s 15 .pl <| .s 16 .pl <| .s 17 .pl <| .s 18 .pl <| .s 19 .pl <| .s 20 .pl <| .s 21 .pl <| .s 22 .pl <| .s 23 .pl <| .s 24 .pl <| .s 25 .pl <| .s 26 .pl <| .s 27 .pl <| .s 28 .pl <| .s 29 .pl <| .s 30 .pl <| .n) ?_
   by_cases c1 : 0 <= j.head
   case neg =>
    simp [go_sem, c1];exact ae (by simp [go_sem, <- nf false (by simp; omega)]) rfl rfl
   simp [go_sem, c1];refine ah (b6 _ _ _ _ hv) ?_
   by_cases c2 : j.head < j.count - 16
   case neg =>
    simp [go_sem, c1, c2];exact ae (by simp [go_sem, <- nf false (by simp; omega)]) rfl rfl
   by_cases c3 : 1 <= j.first
   case neg =>
    simp [go_sem, c1, c2, c3];exact ae (by simp [go_sem, <- nf false (by simp; omega)]) rfl rfl
   by_cases c4 : j.first <= 1073741824
   case neg =>
    simp [go_sem, c1, c2, c3, c4];exact ae (by simp [go_sem, <- nf false (by simp; omega)]) rfl rfl
   have w0 : IntKind.i64.wrap (1073741824 - j.first) = 1073741824 - j.first := IntWalk.i64_in _ ⟨by omega, by omega⟩
   by_cases c5 : (j.sizes.length : Int) <= 1073741824 - j.first
   case neg =>
    simp [go_sem, c1, c2, c3, c4, c5, w0];exact ae (by simp [go_sem, <- nf false (by simp; omega)]) rfl rfl
   simp [go_sem, c1, c2, c3, c4, c5, w0];exact ae (by simp [go_sem, <- nf true (by simp; omega)]) rfl rfl
 rintro _ -;dsimp only;refine aa (ab ?_);simp [go_sem];refine ah (rf _ _ _) ?_;simp [go_sem, show ne 4096 = 1026 from rfl];refine aa (ab ?_);simp [go_sem];refine am (α := Int) (fun u => ([(1, .ptr H.length 0), (2, .ptr (H.length + 1) 0), (4, .ptr (H.length + 2) 0), (5, cb (bJ j))], H ++ [some (fA j), some zst, some (iu j u)], V))
  (fun u => XE j u) ?_ ?_
 · refine aa (ab ?_)
   simp [go_sem];refine af ?_;refine al (α := Nat) (fun i => ([(1, .ptr H.length 0), (2, .ptr (H.length + 1) 0), (4, .ptr (H.length + 2) 0), (5, cb (rB j)), (6, iv 1026), (51, .sl .sh 1 (j.sizes.map ic)), (52, ci j.sizes.length), (53, ci i)], H ++ [some (fA j), some zst, some (iu j (ay (j.sizes.take i)))], V)) (fun i => XL j i) (fun i => j.sizes.length - i) 0 ⟨zero_le _, rfl, by show (0 : Int) <= _; omega⟩ (ae (by simp [go_sem, ay]) rfl rfl) ?_;rintro i hx;dsimp only at hx ⊢;have hi := hx.1;have hs := hx.2.2;have g1 := eY _ hx.2.1;refine aa (ab ?_);simp [go_sem];refine aa (ab ?_);simp [go_sem];refine ⟨fun h => ?_, fun h => ⟨_, (XE.all hx h).1, ae (by simp [go_sem, (XE.all hx h).2]) rfl rfl⟩⟩;refine aa (af (aa (ab ?_)));simp [go_sem, h];refine aa (aa (az [] [] (.s 0 .pl <| .s 1 .pl <| .s 2 .pl <| .s 3 .pl <| .s 4 .pl <| .s 5 .pl <| .s 6 .pl <| .s 7 .pl <| .s 8 .pl <| .s 9 .pl <| .s 10 .pl <| .s 11 .pl <| .s 12 .pl <| .s 13 .pl <| .s 14 .pl <| .s 15 .pl <| .s 16 .pl <| .n) ?_))
   by_cases c1 : j.sizes[i] < 2
   · simp [go_sem, c1]
     refine ab ?_;simp [go_sem];exact ⟨_, (XE.bad hx h (by omega)).1, ae (by simp [go_sem, (XE.bad hx h (by omega)).2]) rfl rfl⟩
   by_cases c2 : 1026 < j.sizes[i]
   · simp [go_sem, c1, c2]
     refine ab ?_;simp [go_sem];exact ⟨_, (XE.bad hx h (by omega)).1, ae (by simp [go_sem, (XE.bad hx h (by omega)).2]) rfl rfl⟩
   have w1 : IntKind.i64.wrap (ay (j.sizes.take i) + j.sizes[i]) = ay (j.sizes.take i) + j.sizes[i] := IntWalk.i64_in _ ⟨by omega, by omega⟩;simp [go_sem, c1, c2, w1];refine ah (b6 _ _ _ _ hv) ?_
   by_cases c3 : j.count - 16 < ay (j.sizes.take i) + j.sizes[i]
   · simp [go_sem, c3]
     refine ab ?_;simp [go_sem];exact ⟨_, (XE.bad hx h (by omega)).1, ae (by simp [go_sem, (XE.bad hx h (by omega)).2]) rfl rfl⟩
   simp [go_sem, c3];refine ab ?_;simp [go_sem];refine ab ?_;simp [go_sem, w1, JF];refine ab ?_;simp [go_sem];refine ⟨i + 1, XL.succ hx h (by omega) (by omega) (by omega), by omega, ae ?_ ?_ rfl⟩
   · simp [go_sem, aq (show i <= 1000000000 by omega)]
   · rw [fC _ _ h]
 rintro u hx;dsimp only at hx ⊢;obtain ⟨hu1, hu2, hu⟩ := hx;refine aa (az [H.length, H.length + 2] [16] (.s 0 .pl <| .s 1 .pl <| .s 2 .pl <| .s 3 .pl <| .s 4 .ld <| .s 5 .pl <| .s 6 .ld <| .s 7 .pl <| .s 8 .ld <| .s 9 .pl <| .s 10 .pl <| .s 11 .ld <| .s 12 .pl <| .s 13 .pl <| .s 14 .pl <| .s 15 .pl <| .s 16 .st <| .s 17 .pl <| .n) ?_)
 cases hb : bJ j with
 | false =>
  simp [go_sem, hb];refine ab ?_;simp [go_sem];exact fin _ u false (by rw [tV j hv, hb]; rfl) fun h => by rw [tV j hv, hb] at h; cases h
 | true =>
  have hpre : rB j = true := by
   rw [bJ, Bool.and_eq_true, Bool.and_eq_true] at hb; exact hb.1.1
  have hp := (dF j).1 hpre;have w1 : IntKind.i64.wrap (j.head + u) = j.head + u := IntWalk.i64_in _ ⟨by omega, by omega⟩;have w2 : IntKind.i64.wrap ((j.head + u).tmod (j.count - 16)) = (j.head + u) % (j.count - 16) := by
   rw [Int.tmod_eq_emod_of_nonneg (by omega)];have := Int.emod_nonneg (j.head + u) (show j.count - 16 ≠ 0 by omega);have := Int.emod_lt_of_pos (j.head + u) (show 0 < j.count - 16 by omega);exact IntWalk.i64_in _ ⟨by omega, by omega⟩
  simp [go_sem, hb, w1];refine ah (b6 _ _ _ _ hv) ?_;simp [go_sem];have t1 := Int.tmod_eq_emod_of_nonneg (b := j.count - 16) (show 0 <= j.head + u by omega);refine ⟨by omega, ab ?_⟩;simp [go_sem];refine fin _ u _ ?_ fun _ => hu hb;rw [tV j hv, hb, t1, hu hb]; simp
def ckE (j : bW) : Nat := if cE j then 0 else 3
def XK (j : bW) : Int := if cE j then ax j else 0
theorem fI {j : bW} (h : cE j = true) : 1 <= j.first /\ j.first + j.sizes.length <= 1073741824 := by
 have := (dF j).1 ((bG j).1 h).2.1;omega
theorem kN {j : bW} (h : cE j = true) : 0 <= ay j.sizes /\ ay j.sizes <= j.count - 16 /\ 2 * (j.sizes.length : Int) <= ay j.sizes := by
 have h := (bG j).1 h;have := eY _ h.2.2.1;omega
theorem kM {j : bW} (h : cE j = true) : bf j.start j.count = true := ((bG j).1 h).1
theorem DI (H : Hp) (V : List Nat) (j : bW) (hl : j.sizes.length <= 1000000000) : CC Tryz.prog 85 [.agg (fA j)] H V (Pu (er (ckE j)) H V) := by
 refine aj Tryz.func85 rfl fun hok oH => ?_;clear hok;refine aa (ab ?_);simp [go_sem, ai];refine aa (aa (ab ?_));simp [go_sem];refine CC.mono (g9 _ _ j hl) ?_;rintro _ _ _ ⟨u, rfl, rfl, rfl, hu⟩;simp [go_sem]
 by_cases h : cE j = true
 · refine ab ?_
   simp [go_sem, h];refine ab ?_;simp [go_sem];exact ao.er (by rw [ckE, if_pos h]) oH (by simp) (by simp)
 · refine ab ?_
   simp [go_sem, h];exact ao.er (by rw [ckE, if_neg h]) oH (by simp) (by simp)
theorem rh (H : Hp) (V : List Nat) (j : bW) (hl : j.sizes.length <= 1000000000) : CC Tryz.prog 39 [.agg (fA j)] H V (Pu (iv (XK j)) H V) := by
 refine aj Tryz.func39 rfl fun hok oH => ?_;clear hok;refine aa (ab ?_);simp [go_sem, ai];refine aa (ab ?_);simp [go_sem];refine CC.mono (g9 _ _ j hl) ?_;rintro _ _ _ ⟨u, rfl, rfl, rfl, hu⟩;simp [go_sem];refine aa (aa (ab ?_))
 by_cases h : cE j = true
 · simp [go_sem, h]
   refine ab ?_;simp [go_sem];refine ab ?_;simp [go_sem];refine ah (mB _ _ j u (fI h).1 (fI h).2) ?_;simp [go_sem];exact ao.int (by rw [XK, if_pos h]) oH (by simp) (by simp)
 · simp [go_sem, h]
   refine ab ?_;simp [go_sem];exact ao.int (by rw [XK, if_neg h]) oH (by simp) (by simp)
section
open Go.Proofs
end
theorem qb (H : Hp) (V : List Nat) (h f : Int) : CC Tryz.prog 91 [iv h, iv f] H V (Pu (.sl .sh 1 (bs (bk h f))) H V) := by
 refine aj Tryz.func91 rfl fun hok oH => ?_;clear hok;have l1 := dA h;refine aa (ab ?_);simp [go_sem, ai];refine aa (ab ?_);simp [go_sem];refine CC.le (ys := [.sl .sh 1 (bs []), iv h]) (.cons (.nil 1 (by decide)) (.cons (.refl _) .nil)) ?_;refine CC.mono (sV _ _ .sh [] h (by simp)) ?_;rintro _ _ _ ⟨v, rfl, rfl, rfl⟩;simp [go_sem];refine CC.mono (sV _ _ _ (dP h) f (by omega)) ?_;rintro _ _ _ ⟨v2, rfl, rfl, rfl⟩;simp [go_sem];refine ab ?_;simp [go_sem];exact ao.pu (.sh _ _ _) (by rw [aK]; exact ⟨trivial, KB _ _ _⟩) oH (by simp) (by simp)
def kW (c p : Int) (l : List au) : Nat := min l.length (c - 16 - p).toNat
theorem sY {s c p : Int} {l : List au} (h : kW c p l < l.length) : dQ s c p l = [dG (s + 16 + p) (l.take (kW c p l)), dG (s + 16) (l.drop (kW c p l))] := by
 show dG _ _ :: (if kW c p l < l.length then _ else _) = _;rw [if_pos h]; rfl
theorem oV {s c p : Int} {l : List au} (h : ¬ kW c p l < l.length) : dQ s c p l = [dG (s + 16 + p) (l.take (kW c p l))] := by
 show dG _ _ :: (if kW c p l < l.length then _ else _) = _;rw [if_neg h]; rfl
theorem ul (H : Hp) (V : List Nat) (s c p : Int) (l : List au) (h : bf s c = true) (h1 : 0 <= p) (h2 : p <= c - 16) (hl : l.length <= 1000000) : CC Tryz.prog 99 [.agg [iv s, iv c], iv p, aF l] H V (Fr 3 ((dQ s c p l).map fN) H V) := by
 refine aj Tryz.func99 rfl fun hok oH => ?_;clear hok;have hv := (aM s c).1 h;obtain ⟨k, hk⟩ : ∃ k, k = kW c p l := ⟨_, rfl⟩
 have hkm : min (l.length : Int) (c - 16 - p) = (k : Int) := by rw [hk, kW]; omega
 have hkl : k <= l.length := by rw [hk, kW]; omega
 have w1 : IntKind.i64.wrap (c - 16 - p) = c - 16 - p := IntWalk.i64_in _ ⟨by omega, by omega⟩;refine aa (ab ?_);simp [go_sem, ai];refine aa (ab ?_);simp [go_sem];refine ah (b6 _ _ _ _ h) ?_;simp [go_sem, w1, hkm];refine aa (az [] [] (.s 0 .pl <| .s 1 .pl <| .s 3 .pl <| .s 4 .pl <| .s 5 .pl <| .s 6 .pl <| .s 2 .pl <| .s 7 .pl <| .s 8 .pl <| .s 9 .pl <| .n) ?_);simp [go_sem, hkl];refine ah (kV _ _ _ _ _ h h1 (by omega)) ?_;simp [go_sem]
 by_cases hw : k < l.length
 case neg =>
  have hw' : ¬ (k : Int) < (l.length : Int) := by omega
  refine aa (aa (ab ?_));simp [go_sem, hw];refine ab ?_;simp [go_sem];refine ab ?_;simp [go_sem];rw [oV (by rw [<- hk]; exact hw), <- hk];refine ao.ge (Ge.slk (ys := [dG (s + 16 + p) (l.take k)].map fN) (.cons (.cons (.refl _) (.cons (.refl _) (.cons (by rw [<- map_take]; exact .sh _ _ _) .nil))) .nil)) ?_;exact ao.frtok (by decide) (.inr rfl) (by simp [go_sem, eF]) oH (by simp) (by simp)
 refine aa (aa (ab ?_));simp [go_sem, hw];refine ac.condT (by simp [go_sem]) ?_;refine az [] [] (.s 0 .pl <| .s 1 .pl <| .s 3 .pl <| .s 4 .pl <| .s 5 .pl <| .s 2 .pl <| .s 6 .pl <| .s 7 .pl <| .s 8 .pl <| .s 9 .pl <| .n) ?_;simp [go_sem, hkl];refine ah (kV _ _ _ _ _ h (Int.le_refl 0) (by omega)) ?_;simp [go_sem];refine ab ?_;simp [go_sem];rw [sY (by rw [<- hk]; exact hw), <- hk];refine ao.ge (Ge.slk (ys := [dG (s + 16 + p) (l.take k), dG (s + 16) (l.drop k)].map fN) (.cons (.cons (.refl _) (.cons (.refl _) (.cons (by rw [<- map_take]; exact .sh _ _ _) .nil))) (.cons (.cons (.refl _) (.cons (.refl _) (.cons (by rw [<- map_drop]; exact .refl _) .nil))) .nil))) ?_;exact ao.fresh rfl (by simp [go_sem, eF]) oH (by simp)
theorem BZ (j : bW) : List.take 5 (fA j) = [iv j.start, iv j.count, iv j.head, iv j.tail, iv j.first] := rfl
theorem xk (H : Hp) (V : List Nat) (j : bW) (u : Int) (hl : j.sizes.length <= 1000000000) : CC Tryz.prog 81 [.agg (iu j u)] H V (fun r H' V' => ∃ v, r = .agg [iv j.start, iv j.count, iv j.head, iv j.tail, iv j.first, .sl (.own V.length v) 1 (j.sizes.map ic)] /\ H = H' /\ V ++ [v] = V') := by
 refine aj Tryz.func81 rfl fun hok oH => ?_;clear hok;refine aa (ab ?_);simp [go_sem, ai];refine aa (ab ?_);simp [go_sem];refine aa (ab ?_);simp [go_sem, BZ];refine ⟨by omega, ?_⟩;refine aa (ab ?_);simp [go_sem];refine ab ?_;simp [go_sem];refine ao.cut H.length (V.length + 1) ⟨0, rfl, rfl, rfl⟩ (le_refl _) (by omega) (by simp) (by simp) (.refl _) ?_ fun b cs hb => aO (le_refl _) (by omega) (oH b cs hb);simp [go_sem, okL, aK, aR]
def IV (x : bW × List bO × Nat) : CV := .tup [.agg (fA x.1), gp x.2.1, er x.2.2]
theorem xI {s c : Int} (h : ¬ bf s c = true) : b8 s c = (nd, [], 2) := by rw [b8, if_pos (by simpa using h)]
theorem AB : bk 0 1 = [0, 1] := by rw [bk, dP, dP, jf, jf, if_neg (by decide), if_neg (by decide), show (0 : Int).toNat = 0 from rfl, show (1 : Int).toNat = 1 from rfl, iA (by decide), iA (by decide)]; rfl
def qD (s : Int) : List bO := [dG s (List.replicate 16 aP), cO, dG s (bN 1 [0, 1]), cO]
theorem qC {s c : Int} (h : bf s c = true) : dz s (bk 0 1) = (qD s, 0) := by
 have hv := (aM s c).1 h;rw [AB, dz, if_neg (by omega), if_neg (by decide)]; rfl
theorem lV {s c : Int} (h : bf s c = true) : b8 s c = (⟨s, c, 0, 0, 1, []⟩, dG (s + 16) (List.replicate (c - 16).toNat aP) :: cO :: qD s, 0) := by
 rw [b8, if_neg (by simp [h]), qC h, if_neg (by simp)]
theorem lW {H H' : Hp} {V V' : List Nat} {x : bW × List bO × Nat} {a b : CV} {e : Nat} (h1 : Le a (.agg (fA x.1))) (h2 : Le b (gp x.2.1)) (h3 : e = x.2.2) (oH : ∀ (b : Nat) cs, H[b]? = some (some cs) -> okL H.length V.length cs) (hH : H'.take H.length = H) (hV : V'.take V.length = V) :
 ao H.length V.length (Pu (IV x) H V) (.tup [a, b, er e]) H' V' := by
 subst h3;refine ao.pu (.tup (.cons h1 (.cons h2 (.cons (.refl _) .nil)))) ?_ oH hH hV;rw [IV, aK, okL, okL, okL, okL];simp [go_sem, okL, aK, okL_jrC, eF]
abbrev yn : List CV := [iv 0, iv 0, iv 0, iv 0, iv 0, .v (.slice none 0 0)]
theorem ym : Le (.agg yn) (.agg (fA nd)) := .agg (.cons (.refl _) (.cons (.refl _) (.cons (.refl _) (.cons (.refl _) (.cons (.refl _) (.cons (.nil 1 (by decide)) .nil))))))
theorem lz.app {a b : List (List CV)} {c d : List (List CV)} : lz a b -> lz c d -> lz (a ++ c) (b ++ d)
 | .nil, h => h
 | .cons h t, g => .cons h (lz.app t g)
theorem jD.rfl' : ∀ l : List CV, jD l l
 | [] => .nil
 | c :: l => .cons (.refl c) (jD.rfl' l)
theorem lz.rfl' : ∀ l : List (List CV), lz l l
 | [] => .nil
 | c :: l => .cons (jD.rfl' c) (lz.rfl' l)
theorem lz.sync : lz [[iv 1, iv 0, .v (.slice none 0 0)]] ([cO].map fN) := .cons (.cons (.refl _) (.cons (.refl _) (.cons (.nil 8 (by decide)) .nil))) .nil
theorem PH (A B : List bO) : lz (A.map fN ++ [iv 1, iv 0, .v (.slice none 0 0)] :: B.map fN) ((A ++ cO :: B).map fN) := by
 rw [map_append, map_cons];exact lz.app (lz.rfl' _) (lz.app lz.sync (lz.rfl' (B.map fN)))
theorem PQ (s c : Int) : Le (.agg [iv s, iv c, iv 0, iv 0, iv 1, .v (.slice none 0 0)]) (.agg (fA ⟨s, c, 0, 0, 1, []⟩)) := .agg (.cons (.refl _) (.cons (.refl _) (.cons (.refl _) (.cons (.refl _) (.cons (.refl _) (.cons (.nil 1 (by decide)) .nil))))))
theorem z6 {s c : Int} (h : bf s c = true) : dQ s c 0 (List.replicate (c - 16).toNat aP) = [dG (s + 16) (List.replicate (c - 16).toNat aP)] := by
 have hk : kW c 0 (List.replicate (c - 16).toNat aP) = (c - 16).toNat := by rw [kW, length_replicate]; simp
 rw [oV (by rw [hk, length_replicate]; omega), hk, take_of_length_le (by simp), Int.add_zero]
theorem x9 {f : FuncId} {H : Hp} {V : List Nat} {R : CV -> Hp -> List Nat -> Prop} {xs : List CV} (b n : Nat) (hb : H[b]? = some (some (aQ (List.replicate n aP)))) (hc : CC Tryz.prog f (xs ++ [aF (List.replicate n aP)]) (H.set b none) V R) : CC Tryz.prog f (xs ++ [.bsl b 0 n 8]) H V R := by
 have hch : aY 8 n ((aQ (List.replicate n aP)).drop 0) = (List.replicate n aP).map aE := by
  have := cU (List.replicate n aP)
  rwa [length_replicate] at this
 refine CC.let_go _ b _ hb ?_ hc;have : ∀ xs : List CV, ki b (aQ (List.replicate n aP)) (xs ++ [.bsl b 0 n 8]) (xs ++ [aF (List.replicate n aP)]) := fun xs => by
  induction xs with
  | nil =>
   refine .cons ?_ .nil;show Fy _ _ _ (.sl .sh 8 ((List.replicate n aP).map aE));rw [<- hch];exact .bsl _ _ _ (by simp [Nat.mul_comm])
  | cons x xs ih => exact .cons (.refl _) ih
 exact this xs
theorem DJ (H : Hp) (V : List Nat) (s c : Int) : CC Tryz.prog 51 [.agg [iv s, iv c]] H V (Pu (IV (b8 s c)) H V) := by
 refine aj Tryz.func51 rfl fun hok oH => ?_;clear hok;refine aa (ab ?_);simp [go_sem, ai];refine aa (ab ?_);simp [go_sem];refine aa (aa (ab ?_));simp [go_sem];refine ah (pt _ _ _ _) ?_
 by_cases h : bf s c = true
 case neg =>
  simp [go_sem, h];refine ab ?_;simp [go_sem];rw [xI h];exact lW ym (.nil 3 (by decide)) rfl oH (by simp) (by simp)
 have hv := (aM s c).1 h;simp [go_sem, h];refine ab ?_;simp [go_sem];refine aa (az [H.length + 2] [4] (.s 0 .pl <| .s 1 .ld <| .s 5 .pl <| .s 6 .pl <| .s 2 .pl <| .s 3 .pl <| .s 4 .st <| .s 7 .pl <| .s 8 .pl <| .n) ?_);simp [go_sem];refine ah (b6 _ _ _ _ h) ?_;simp [go_sem, -List.reduceReplicate];refine ⟨by omega, by omega, ?_⟩;have hz := eG (c - 16).toNat;simp only [map_cons, map_nil] at hz;rw [hz];refine x9 (xs := [.agg [iv s, iv c], iv 0]) (H.length + 3) (c - 16).toNat (by simp) ?_;refine CC.mono (ul _ _ s c 0 (List.replicate (c - 16).toNat aP) h (Int.le_refl 0) (by omega) (by simp; omega)) ?_;rintro _ _ _ ⟨v, rfl, rfl, rfl⟩;rw [z6 h];obtain ⟨A, hA⟩ : ∃ A, A = [dG (s + 16) (List.replicate (c - 16).toNat aP)] := ⟨_, rfl⟩
 rw [<- hA];simp [go_sem];refine ⟨Kp.keep fun b hb => ?_, by subst hA; simp, ?_⟩
 · obtain rfl : b = H.length + 2 := by simpa using hb
   simp
 refine aa (az [] [] (.s 0 .pl <| .s 1 .pl <| .s 2 .pl <| .s 3 .pl <| .s 4 .pl <| .s 5 .pl <| .s 6 .pl <| .s 7 .pl <| .s 8 .pl <| .n) ?_);simp [go_sem];refine ah (qb _ _ _ _) ?_;simp [go_sem];refine ah (xd _ _ s _ _) ?_;rw [qC h];simp [go_sem, IT];refine aa (aa (ab ?_));simp [go_sem];refine ab ?_;simp [go_sem];refine aa (az [] [5] (.s 0 .pl <| .s 1 .pl <| .s 2 .pl <| .s 3 .pl <| .s 4 .pl <| .s 5 .st <| .s 6 .pl <| .s 7 .pl <| .n) ?_);simp [go_sem];refine ⟨by subst hA; simp [qD], ?_⟩;refine ab ?_;simp [go_sem];rw [lV h];refine lW (PQ s c) ?_ rfl oH (by simp) (by simp);subst hA;exact .sle _ _ (PH _ _)
theorem ki.rfl' (b : Nat) (cs : List CV) : ∀ l : List CV, ki b cs l l
 | [] => .nil
 | c :: l => .cons (.refl c) (ki.rfl' b cs l)
theorem j5.rfl' (b : Nat) (cs : List CV) : ∀ l : List (List CV), j5 b cs l l
 | [] => .nil
 | c :: l => .cons (ki.rfl' b cs c) (j5.rfl' b cs l)
theorem Fy.zeros (b n : Nat) : Fy b (aQ (List.replicate n aP)) (.bsl b 0 n 8) (aF (List.replicate n aP)) := by
 have hch : aY 8 n ((aQ (List.replicate n aP)).drop 0) = (List.replicate n aP).map aE := by
  have := cU (List.replicate n aP)
  rwa [length_replicate] at this
 show Fy _ _ _ (.sl .sh 8 ((List.replicate n aP).map aE));rw [<- hch];exact .bsl _ _ _ (by simp [Nat.mul_comm])
def CT : Except Nat (List au) -> CV
 | .ok l => .tup [aF l, er 0]
 | .error e => .tup [aF [], er e]
theorem u6 (i j : Nat) (x : Except Nat (List au)) : aK i j (CT x) := by
 cases x <;> simp only [CT] <;> rw [aK, okL, okL, okL] <;> exact ⟨cn _ _ _, jQ _ _ _, trivial⟩
theorem mR {r : cV} (h : r.kind < 1 \/ 255 < r.kind \/ r.sq < 1 \/ 4294967295 < r.sq) : hO r = .error 2 := by rw [hO, if_pos h]
theorem vI {r : cV} (h : ¬ (r.kind < 1 \/ 255 < r.kind \/ r.sq < 1 \/ 4294967295 < r.sq)) (h2 : 4096 < r.pay.length) : hO r = .error 5 := by rw [hO, if_neg h, if_pos h2]
theorem xO {r : cV} (h : ¬ (r.kind < 1 \/ 255 < r.kind \/ r.sq < 1 \/ 4294967295 < r.sq)) (h2 : ¬ 4096 < r.pay.length) : hO r = .ok (dD r.sq.toNat (bA r.kind r.pay)) := by rw [hO, if_neg h, if_neg h2]
theorem XW (n : Nat) : xq n 2 = [UInt8.ofNat (n % 256), UInt8.ofNat (n / 256 % 256)] := by
 have e : ∀ m : Nat, wH (m : Int) = UInt8.ofNat (m % 256) := fun m => by
  apply UInt8.toNat_inj.1;have := fJ (m : Int);rw [UInt8.toNat_ofNat']; omega
 simp only [xq, e, nil_append, cons_append, CU];rw [show (256 : Nat) ^ 0 = 1 from rfl, Nat.div_one]
theorem M2 (k : Int) (p : List UInt8) : gD k p = [wH k] ++ xq p.length 2 ++ p := by rw [XW]; rfl
theorem ia (k : Int) (p : List UInt8) : (gD k p).length = p.length + 3 := rfl
theorem fR (k : Int) (p : List UInt8) : (bA k p).length = p.length + 7 := by rw [bA, length_append, ia, de]
theorem WL (x : Int) : [[CV.v (.int .u8 (IntKind.u8.wrap x))]] = bs [wH x] := by rw [wrap_u8]; rfl
theorem yu (r : kS) : IntKind.i64.wrap (rn r) = ((r.toNat : Nat) : Int) := by
 have := r.isLt;exact IntWalk.i64_in _ ⟨by unfold rn; omega, by unfold rn; omega⟩
theorem xo (H : Hp) (V : List Nat) (n : Int) (k : Nat) (hn : 0 <= n) (hk : k <= 8) : CC Tryz.prog 144 [iv n, ci k] H V (Fr 1 (bs (xq n.toNat k)) H V) := by
 have := nL H V n.toNat k hk
 rwa [Int.toNat_of_nonneg hn] at this
theorem yk.more {j : Nat} {l : List au} {cv : CV} {V W : List Nat} (h : yk j l cv V) : yk j l cv (V ++ W) := by
 rcases h with h | ⟨k, v, h1, h2, h3⟩
 · exact .inl h
 · exact .inr ⟨k, v, h1, by rw [getElem?_append_left (List.getElem?_eq_some_iff.1 h2).1]; exact h2, h3⟩
theorem mp (sq : Nat) (st : List UInt8) (i : Nat) : (gk sq st i).val = iR sq ++ (jL st 4 i ++ List.replicate (4 - (jL st 4 i).length) 0) := by
 refine sd ?_;show (iR sq ++ (jL st 4 i ++ List.replicate (4 - (jL st 4 i).length) 0)).length = 8;have : (jL st 4 i).length <= 4 := by rw [jL, length_take]; omega
 rw [length_append, length_append, length_replicate, de]; omega
theorem wY (sq : Nat) (st : List UInt8) (i : Nat) : List.take 4 (fb (iR sq ++ [0, 0, 0, 0])) ++ ((bs (jL st 4 i)).flatten ++ List.drop (4 + (jL st 4 i).length) (fb (iR sq ++ [0, 0, 0, 0]))) = aE (gk sq st i) := by
 have hn : (jL st 4 i).length <= 4 := by rw [jL, length_take]; omega
 have e2 : ∀ n, n <= 4 -> List.drop (4 + n) (fb (iR sq ++ [0, 0, 0, 0])) = fb (List.replicate (4 - n) 0) := fun n hn => by
  have h : n = 0 \/ n = 1 \/ n = 2 \/ n = 3 \/ n = 4 := by omega
  rcases h with rfl | rfl | rfl | rfl | rfl <;> rfl
 rw [e2 _ hn, gJ, show List.take 4 (fb (iR sq ++ [0, 0, 0, 0])) = fb (iR sq) from rfl, tM, tM];show fb _ = fb (gk sq st i).val;rw [mp]
abbrev HE (H : Hp) (r : cV) (st : List UInt8) (cv lp : CV) (W : Hp) : Hp :=
 H ++ (some (gl r) :: some [cv] :: some [.sl .sh 1 (bs st)] :: some [ci 4] :: some [lp] :: W)
theorem JO (sq : Nat) (st : List UInt8) : (List.range (FP st.length 4)).map (gk sq st) = dD sq st := rfl
theorem yf (H : Hp) (V : List Nat) (r : cV) (hl : r.pay.length <= 900000000) : CC Tryz.prog 109 [.agg (gl r)] H V (Pu (CT (hO r)) H V) := by
 refine CC.of_swp0 Tryz.func109 rfl (by kernel_rfl) (by rw [Tryz.ntmps109]; exact gu _ _ rfl) fun hok oH => ?_
 refine aw (aD (ab ?_))
 simp -implicitDefEqProofs [go_sem, ai]
 have bad : ∀ (e : Nat) {H' : Hp} {V' : List Nat}, hO r = .error e -> H'.take H.length = H -> V'.take V.length = V -> ao H.length V.length (Pu (CT (hO r)) H V) (.tup [.v (.slice none 0 0), er e]) H' V' := fun e H' V' h1 h2 h3 => by
  rw [h1]
  exact ao.pu (.tup (.cons (.nil 8 (by decide)) (.cons (.refl _) .nil))) (u6 _ _ (.error e)) oH h2 h3
 refine aw (aD (aa (ab ?_)))
 by_cases c1 : r.kind < 1
 · simp -implicitDefEqProofs [go_sem, c1]
   refine ab ?_
   simp -implicitDefEqProofs [go_sem]
   exact bad 2 (mR (.inl c1)) (by simp) (by simp)
 by_cases c2 : 255 < r.kind
 · simp -implicitDefEqProofs [go_sem, c1, c2]
   refine ab ?_
   simp -implicitDefEqProofs [go_sem]
   exact bad 2 (mR (.inr (.inl c2))) (by simp) (by simp)
 by_cases c3 : r.sq < 1
 · simp -implicitDefEqProofs [go_sem, c1, c2, c3]
   refine ab ?_
   simp -implicitDefEqProofs [go_sem]
   exact bad 2 (mR (.inr (.inr (.inl c3)))) (by simp) (by simp)
 by_cases c4 : 4294967295 < r.sq
 · simp -implicitDefEqProofs [go_sem, c1, c2, c3, c4]
   refine ab ?_
   simp -implicitDefEqProofs [go_sem]
   exact bad 2 (mR (.inr (.inr (.inr c4)))) (by simp) (by simp)
 have hb : ¬ (r.kind < 1 \/ 255 < r.kind \/ r.sq < 1 \/ 4294967295 < r.sq) := by omega
 simp -implicitDefEqProofs [go_sem, c1, c2, c3, c4]
 refine ab ?_
 simp -implicitDefEqProofs [go_sem]
 refine aw (aD (aa (ab ?_)))
 by_cases c5 : 4096 < r.pay.length
 · have c5' : 4096 < (r.pay.length : Int) := by omega
   simp -implicitDefEqProofs [go_sem, c5']
   refine ab ?_
   simp -implicitDefEqProofs [go_sem]
   exact bad 5 (vI hb c5) (by simp) (by simp)
 have c5' : ¬ 4096 < (r.pay.length : Int) := by omega
 simp -implicitDefEqProofs [go_sem, c5']
 refine ab ?_
 simp -implicitDefEqProofs [go_sem]
 have hE := xO hb c5
 have hsl := fR r.kind r.pay
 refine aw (aD (az [] [] (.s 0 .pl <| .s 1 .pl <| .s 2 .pl <| .s 3 .pl <| .s 4 .pl <| .s 5 .pl <| .s 6 .pl <| .s 7 .pl <| .s 8 .pl <| .s 9 .pl <| .n) ?_))
 simp -implicitDefEqProofs [go_sem]
 refine CC.mono (nL _ _ r.pay.length 2 (by decide)) ?_
 rintro _ _ _ ⟨v, rfl, rfl, rfl⟩
 simp -implicitDefEqProofs [go_sem, WL]
 refine aw (aD (ab ?_))
 simp -implicitDefEqProofs [go_sem]
 have eb : wH r.kind :: (xq r.pay.length 2 ++ r.pay) = gD r.kind r.pay := (M2 _ _).symm
 refine ⟨by omega, ?_⟩
 rw [eb]
 refine aw (aD (ab ?_))
 simp -implicitDefEqProofs [go_sem]
 refine CC.mono (IK _ _ _ (gD r.kind r.pay) (by rw [ia]; omega)) ?_
 rintro _ _ _ ⟨rfl, rfl, rfl⟩
 simp -implicitDefEqProofs [go_sem, yu]
 refine CC.mono (nL _ _ (HQ (gD r.kind r.pay)).toNat 4 (by decide)) ?_
 rintro _ _ _ ⟨v2, rfl, rfl, rfl⟩
 simp -implicitDefEqProofs [go_sem]
 refine ⟨by rw [ia]; omega, ?_⟩
 rw [NN, show gD r.kind r.pay ++ iR (HQ (gD r.kind r.pay)).toNat = bA r.kind r.pay from rfl]
 generalize hst : bA r.kind r.pay = st at hE hsl ⊢
 refine aL.ghost (Sh.trim (T' := [(1, .ptr H.length 0), (4, .sl .sh 1 (bs st))]) (L := [some (gl r)]) (V' := V) (by simp [go_sem]) (by simp [go_sem]) oH (by rw [aW, mz]; exact ⟨trivial, trivial⟩) (le_refl _) (by simp) (by simp)) ?_
 refine aw (aD (ab ?_))
 simp -implicitDefEqProofs [go_sem]
 refine aL.join (α := CV × List Nat) (fun x => ([(5, .ptr (H.length + 1) 0)], H ++ [some (gl r), some [x.1]], x.2))
  (fun x => yk V.length (dD r.sq.toNat st) x.1 x.2 /\ V.length <= x.2.length /\ x.2.take V.length = V) ?_ ?_
 · refine aw (aD (ab ?_))
   simp -implicitDefEqProofs [go_sem]
   refine CC.mono (IR _ _ .sh st 4 (by decide) (by trivial)) ?_
   rintro _ _ _ ⟨rfl, rfl, rfl⟩
   simp -implicitDefEqProofs [go_sem]
   refine aL.block (aL.range [(1, .ptr H.length 0), (5, .ptr (H.length + 1) 0)] rfl (by simp [go_sem]) ?_)
   simp -implicitDefEqProofs [go_sem]
   generalize hbd : Code.block 1 _ = bd
   generalize has : Code.region 10 _ _ = asg
   refine CC.mono (C3 _ V _ _ _ .sh st 4 (by decide) (by decide) (by omega) (fun i G V' => ∃ cv W, yk V.length ((List.range i).map (gk r.sq.toNat st)) cv V' /\ V.length <= V'.length /\ V'.take V.length = V ∧
    G = HE H r st cv (fQ 65 #[51] asg bd [(1, .ptr H.length 0), (5, .ptr (H.length + 1) 0)] .ready none) W)
    ⟨.v (.slice none 0 0), [], .inl ⟨rfl, rfl⟩, le_refl _, by simp, rfl⟩ ?_ ?_) ?_
   · rintro i _ V' ⟨cv, W, _, _, _, rfl⟩
     exact ⟨aC _ _ 2, aC _ _ 3⟩
   · rintro i hi _ V' ⟨cv, W, ha, hv1, hv2, rfl⟩
     refine YC.of_round (n := 65) (ps := #[51]) (bd := bd) (T := [(1, .ptr H.length 0), (5, .ptr (H.length + 1) 0)]) (aC _ _ 4) rfl (by decide) ?_
     subst hbd has
     refine ab ?_
     simp -implicitDefEqProofs [go_sem, yD]
     refine af (aa (ab ?_))
     simp -implicitDefEqProofs [go_sem]
     generalize hlp : fQ 65 #[51] _ _ _ LoopState.busy none = lp
     generalize hqq : RQ 65 #[51] _ _ _ _ _ = QQ
     refine aa (az [H.length] [4] (.s 0 .pl <| .s 1 .pl <| .s 2 .ld <| .s 3 .pl <| .s 4 .st <| .n) ?_)
     simp -implicitDefEqProofs [go_sem]
     refine CC.mono (xo _ _ r.sq 4 (by omega) (by decide)) ?_
     rintro _ _ _ ⟨v3, rfl, rfl, rfl⟩
     simp -implicitDefEqProofs [go_sem, NN]
     have e1 : (bs (iR r.sq.toNat)).flatten ++ List.drop (iR r.sq.toNat).length [CV.v (.int .u8 0), CV.v (.int .u8 0), CV.v (.int .u8 0), CV.v (.int .u8 0), CV.v (.int .u8 0), CV.v (.int .u8 0), CV.v (.int .u8 0), CV.v (.int .u8 0)] = fb (iR r.sq.toNat ++ [0, 0, 0, 0]) := by
      rw [gJ, de]; rfl
     rw [e1]
     refine ⟨by rw [de]; decide, by rw [gJ, tN], by rw [de]; decide, ?_, ?_⟩
     · exact Kp.keep fun b hb => by
        obtain rfl : b = H.length := by simpa using hb
        simp
     refine aa (ab ?_)
     simp -implicitDefEqProofs [go_sem]
     rw [wY]
     refine ⟨by rw [jL, length_take]; omega, by rw [gJ, tN], by rw [de, jL, length_take]; omega, ?_⟩
     have ha := ha.more (W := [v3])
     have hv1 : V.length <= (V' ++ [v3]).length := by simp; omega
     have hv2 : (V' ++ [v3]).take V.length = V := by rw [take_append_of_le_length (by omega)]; exact hv2
     generalize V' ++ [v3] = V2 at ha hv1 hv2 ⊢
     rcases ha with ⟨rfl, he⟩ | ⟨k, v, rfl, hv, hk⟩
     · refine ab ?_
       simp -implicitDefEqProofs [go_sem]
       rw [<- hqq, <- hlp]
       refine ⟨aC _ _ 4, rfl, .sl (.own V2.length 0) 8 [aE (gk r.sq.toNat st i)], .inr ⟨V2.length, 0, ?_, by simp, hv1⟩, by simp; omega, ?_, W ++ [some (aE (gk r.sq.toNat st i))], ?_⟩
       · rw [map_append, he]; rfl
       · rw [take_append_of_le_length hv1]; exact hv2
       · simp
     · refine ab ?_
       simp -implicitDefEqProofs [go_sem, hv]
       rw [<- hqq, <- hlp]
       have hkv := (List.getElem?_eq_some_iff.1 hv).1
       have hi2 := PO (len := st.length) (n := 4) (by decide)
       refine ⟨by omega, aC _ _ 4, rfl, .sl (.own k (v + 1)) 8 (List.map (aE ∘ gk r.sq.toNat st) (List.range i) ++ [aE (gk r.sq.toNat st i)]), .inr ⟨k, v + 1, ?_, by rw [getElem?_set_self hkv], hk⟩, by simpa using hv1, ?_, W ++ [some (aE (gk r.sq.toNat st i))], ?_⟩
       · rw [map_append, map_map]; rfl
       · rw [take_set_of_le hk]; exact hv2
       · simp
   · rintro _ _ V' ⟨cv, W, ha, hv1, hv2, rfl⟩
     refine .inl ⟨aC _ _ 4, ?_⟩
     rw [JO] at ha
     refine ⟨cv, V', ⟨ha, hv1, hv2⟩, ?_⟩
     refine Sh.trim (L := [some (gl r), some [cv]]) ?_ ?_ oH ?_ hv1 ?_ (take_of_length_le (le_refl _))
     · simp [go_sem]
     · simp [go_sem]
     · rw [aW, aW, mz, okL, okL]
       exact ⟨trivial, ⟨ha.ok, trivial⟩, trivial⟩
     · simp
 · rintro ⟨cv, V'⟩ ⟨h1, h2, h3⟩
   dsimp only
   refine aw (aD (ab ?_))
   simp -implicitDefEqProofs [go_sem, h1.one]
   refine aD (ab ?_)
   simp -implicitDefEqProofs [go_sem]
   rw [hE]
   exact ao.pu (.tup (.cons h1.le (.cons (.refl _) .nil))) (u6 _ _ (.ok _)) oH (by simp) h3
section
open Go.Proofs
end
theorem IE {j : bW} {k : Int} {p : List UInt8} (h : ¬ cE j = true) : gh j k p = (nd, [], 3) := by rw [gh, if_pos (by simpa using h)]
theorem ID {j : bW} {k : Int} {p : List UInt8} {e : Nat} (h : cE j = true) (he : hO ⟨k, ax j, p⟩ = .error e) : gh j k p = (nd, [], e) := by
 rw [gh, if_neg (by simp [h]), he]
theorem DC {j : bW} {k : Int} {p : List UInt8} {l : List au} (h : cE j = true) (he : hO ⟨k, ax j, p⟩ = .ok l) (h1 : 1073741824 <= ax j) : gh j k p = (nd, [], 6) := by
 rw [gh, if_neg (by simp [h]), he]; exact if_pos h1
theorem sR {j : bW} {k : Int} {p : List UInt8} {l : List au} (h : cE j = true) (he : hO ⟨k, ax j, p⟩ = .ok l) (h1 : ¬ 1073741824 <= ax j) (h2 : gB j < l.length) : gh j k p = (nd, [], 11) := by
 rw [gh, if_neg (by simp [h]), he]; exact (if_neg h1).trans (if_pos h2)
theorem zU {j : bW} {k : Int} {p : List UInt8} {l : List au} (h : cE j = true) (he : hO ⟨k, ax j, p⟩ = .ok l) (h1 : ¬ 1073741824 <= ax j) (h2 : ¬ gB j < l.length) :
 gh j k p = (⟨j.start, j.count, j.head, (j.tail + l.length) % (j.count - 16), j.first, j.sizes ++ [(l.length : Int)]⟩, dQ j.start j.count j.tail l ++ [cO], 0) := by
 rw [gh, if_neg (by simp [h]), he]; exact (if_neg h1).trans (if_neg h2)
theorem QD {r : cV} {l : List au} (h : hO r = .ok l) : l.length <= 1100 /\ 1 <= l.length := by
 rw [hO] at h
 split at h
 · cases h
 · split at h
   · cases h
   · cases h
     rw [dD, length_map, length_range, fR];omega
theorem L0 {r : cV} {e : Nat} (h : hO r = .error e) : e = 2 \/ e = 5 := by
 rw [hO] at h
 split at h
 · cases h; exact .inl rfl
 · split at h
   · cases h; exact .inr rfl
   · cases h
theorem JU (k n : Int) (p : List UInt8) : [iv k, iv n, .sl .sh 1 (bs p)] = gl ⟨k, n, p⟩ := rfl
theorem sL {j : bW} (h : cE j = true) : 0 <= j.tail /\ j.tail < j.count - 16 := by
 have h1 := (bG j).1 h;have hv := (aM _ _).1 h1.1;rw [h1.2.2.2.2];exact ⟨Int.emod_nonneg _ (by omega), Int.emod_lt_of_pos _ (by omega)⟩
theorem rM (s c p : Int) (l : List au) : (dQ s c p l).length <= 2 := by
 by_cases h : kW c p l < l.length
 · rw [sY h]; exact le_refl _
 · rw [oV h]; exact Nat.le_succ _
theorem AI (l : List Int) (n : Int) : List.map ic l ++ [[iv n]] = (l ++ [n]).map ic := by rw [map_append]; rfl
theorem y6 (A : List bO) : lz (A.map fN ++ [[iv 1, iv 0, .v (.slice none 0 0)]]) ((A ++ [cO]).map fN) := by
 rw [map_append];exact lz.app (lz.rfl' _) lz.sync
theorem BX (j : bW) (n : Int) (tl : Int) (tk : Tk) : Le (.agg [iv j.start, iv j.count, iv j.head, iv tl, iv j.first, .sl tk 1 (List.map ic j.sizes ++ [[iv n]])]) (.agg (fA ⟨j.start, j.count, j.head, tl, j.first, j.sizes ++ [n]⟩)) := by
 refine .agg (.cons (.refl _) (.cons (.refl _) (.cons (.refl _) (.cons (.refl _) (.cons (.refl _) (.cons ?_ .nil))))));rw [AI];exact .sh _ _ _
theorem DN (H : Hp) (V : List Nat) (j : bW) (kind : Int) (p : List UInt8) (hl : j.sizes.length <= 1000000000) (hp : p.length <= 900000000) : CC Tryz.prog 57 [.agg (fA j), iv kind, .sl .sh 1 (bs p)] H V (Pu (IV (gh j kind p)) H V) := by
 refine aj Tryz.func57 rfl fun hok oH => ?_;clear hok;refine aa (ab ?_);simp [go_sem, ai];have bad : ∀ (e : Nat) {H' : Hp} {V' : List Nat}, gh j kind p = (nd, [], e) -> H'.take H.length = H -> V'.take V.length = V -> ao H.length V.length (Pu (IV (gh j kind p)) H V) (.tup [.agg yn, .v (.slice none 0 0), er e]) H' V' := fun e H' V' h1 h2 h3 => by
  rw [h1];exact lW ym (.nil 3 (by decide)) rfl oH h2 h3
 refine aa (ab ?_);simp [go_sem];refine CC.mono (g9 _ _ j hl) ?_;rintro _ _ _ ⟨u, rfl, rfl, rfl, hu⟩;simp [go_sem];refine aa (aa (ab ?_))
 by_cases h : cE j = true
 case neg =>
  simp [go_sem, h];refine ab ?_;simp [go_sem];exact bad 3 (IE h) (by simp) (by simp)
 obtain rfl := hu h;have hn := fI h;have hsu := kN h;have hva := kM h;have hv := (aM _ _).1 hva;have ht := sL h;simp [go_sem, h];refine ab ?_;simp [go_sem];refine aa (ab ?_);simp [go_sem];refine ah (mB _ _ j _ hn.1 hn.2) ?_;simp [go_sem, JU];refine ah (yf _ _ ⟨kind, ax j, p⟩ hp) ?_
 cases he : hO ⟨kind, ax j, p⟩ with
 | error e =>
  have hee : ¬ e = 0 := by have := L0 he; omega
  simp [go_sem, CT];refine aa (af (aa (ab ?_)));simp [go_sem, hee];refine ab ?_;simp [go_sem];exact bad e (ID h he) (by simp) (by simp)
 | ok l =>
  have hle := QD he;simp [go_sem, CT];refine aa (af (aa (ab ?_)));simp [go_sem];refine ac.condF (by simp [go_sem]) ?_;refine aa (ab ?_);simp [go_sem];refine ah (mB _ _ j _ hn.1 hn.2) ?_
  by_cases h1 : 1073741824 <= ax j
  · simp [go_sem, h1]
    refine ab ?_;simp [go_sem];exact bad 6 (DC h he h1) (by simp) (by simp)
  simp [go_sem, h1];refine ac.condF (by simp [go_sem]) ?_;refine aa (ab ?_);simp [go_sem];refine ah (zD _ _ j _ hva hsu.1 (by omega)) ?_
  by_cases h2 : gB j < l.length
  · have h2' : j.count - 16 - ay j.sizes < (l.length : Int) := h2
    simp [go_sem, h2'];refine ab ?_;simp [go_sem];exact bad 11 (sR h he h1 h2) (by simp) (by simp)
  have h2' : ¬ j.count - 16 - ay j.sizes < (l.length : Int) := h2;simp [go_sem, h2'];refine ab ?_;simp [go_sem];refine aa (ab ?_);simp [go_sem];refine CC.mono (xk _ _ j _ hl) ?_;rintro _ _ _ ⟨v, rfl, rfl, rfl⟩;simp [go_sem];refine aa (ab ?_);simp [go_sem];refine ⟨by omega, ?_⟩;have w1 : IntKind.i64.wrap (j.tail + (l.length : Int)) = j.tail + (l.length : Int) := IntWalk.i64_in _ ⟨by omega, by omega⟩;have t1 := Int.tmod_eq_emod_of_nonneg (b := j.count - 16) (show 0 <= j.tail + (l.length : Int) by omega);have hz : ¬ j.count - 16 = 0 := by omega
  refine aa (az [] [10] (.s 0 .pl <| .s 1 .pl <| .s 2 .pl <| .s 3 .pl <| .s 4 .pl <| .s 5 .pl <| .s 6 .pl <| .s 7 .pl <| .s 8 .pl <| .s 9 .pl <| .s 10 .st <| .n) ?_);simp [go_sem, w1];refine ah (b6 _ _ _ _ hva) ?_;simp [go_sem, w1, t1, hz];refine aa (az [H.length + 2] [11] (.s 0 .pl <| .s 1 .pl <| .s 2 .ld <| .s 3 .pl <| .s 4 .pl <| .s 5 .ld <| .s 6 .pl <| .s 8 .pl <| .s 9 .pl <| .s 7 .pl <| .s 10 .pl <| .s 11 .st <| .s 12 .pl <| .s 13 .pl <| .n) ?_);simp [go_sem];refine CC.mono (ul _ _ j.start j.count j.tail l hva ht.1 (by omega) (by omega)) ?_;rintro _ _ _ ⟨v2, rfl, rfl, rfl⟩;have hA := rM j.start j.count j.tail l;have hJ := zU h he h1 h2;generalize dQ j.start j.count j.tail l = A at hA hJ ⊢;simp [go_sem];refine ⟨by omega, Kp.keep fun b hb => ?_, ab ?_⟩
  · obtain rfl : b = H.length + 2 := by simpa using hb
    rw [aC, aC]; rfl
  simp [go_sem];rw [hJ];exact lW (BX j _ _ _) (.sle _ _ (y6 A)) rfl oH (by simp) (by simp)
def FE (l : List bO) : List CV := [gp l]
@[go_sem, simp] theorem abY (l : List bO) : (FE l).length = 1 := rfl
@[go_sem, simp] theorem abZ (l : List bO) (h : 0 < (FE l).length) : (FE l)[0] = gp l := rfl
theorem aeJ : ck Tryz.prog 102 = some [.int .i64 0, .int .i64 0, .slice none 0 0] := by kernel_rfl
theorem CL (H : Hp) (V : List Nat) (n : Nat) (hn : n <= 1000000000) : CC Tryz.prog 136 [.v (.slice none 0 0), ci n] H V (Fr 3 [] H V) := by
 refine aj Tryz.func136 rfl fun hok oH => ?_;clear hok;refine aa (ab ?_);simp [go_sem, ai];refine aa (ab ?_);simp [go_sem, show ¬ (n : Int) < 0 by omega];refine aa (aa ?_);refine ac.opx (pre := [_, _]) (post := [_, _, _, _, _]) rfl (by intro c e; cases e) ?_;simp [go_sem];refine ⟨_, _, _, tX (by rfl) (by rw [wU]; rfl), ?_⟩;have w0 : IntKind.i64.wrap 0 = 0 := rfl;have wn : IntKind.i64.wrap (n : Int) = n := IntWalk.i64_in _ ⟨by omega, by omega⟩;simp [go_sem, w0, wn];refine aa (ab ?_);rcases Nat.eq_zero_or_pos n with rfl | h0
 · simp [go_sem, w0]
   refine ab ?_;simp [go_sem];refine aa (ab ?_);simp [go_sem];refine ab ?_;simp [go_sem];exact ao.frtok (by decide) (.inl ⟨rfl, rfl⟩) (by simp [go_sem]) oH (by simp) (by simp)
 · have h0' : (0 : Int) < n := by omega
   simp [go_sem, h0];refine ac.condT rfl ?_;refine ac.mw (MW.app (mid := [_, _, _, _, _]) (mid2 := [_, _, _, _, _]) ?_);refine MW.app (mid := [_, _]) (mid2 := [_, _, _]) (MW.crun ?_);simp [go_sem];refine MW.app (mid := [_]) (mid2 := [_, _]) (MW.opx rfl (by intro c e; cases e) (by simp [kv]) (tX (by rfl) (by rw [wU]; rfl)) (MW.crun ?_));simp [go_sem];refine MW.app (mid := [_, _, _, _]) (mid2 := [_]) (MW.room (N := n) (k0 := 0) wU (by kernel_rfl) aeJ rfl rfl rfl (by omega) (by omega) (by decide) (by decide) (MW.crun ?_));simp [go_sem];refine aa (ab ?_);simp [go_sem];refine ab ?_;simp [go_sem];exact ao.fresh rfl (by simp [go_sem]) oH (by simp)
theorem mN {α : Type} {l : List (List α)} {i : Nat} (h : i < l.length) : (l.take (i + 1)).flatten = (l.take i).flatten ++ l[i] := by
 rw [take_succ_eq_append_getElem h, flatten_append]; simp
theorem GU {α : Type} (l : List (List α)) (i : Nat) : (l.take i).flatten.length <= l.flatten.length := by
 conv => rhs; rw [<- take_append_drop i l, flatten_append, length_append]
 omega
def mY (l : List (List bO)) : List bO := l.flatten
def wE (l : List (List bO)) (i : Nat) : List bO := (l.take i).flatten
theorem zy {l : List (List bO)} {i : Nat} (h : i < l.length) : (wE l (i + 1)).length = (wE l i).length + l[i].length := by
 unfold wE; rw [mN h, length_append]
theorem GQ {l : List (List bO)} {i : Nat} (h : i < l.length) : wE l i ++ l[i] = wE l (i + 1) := by
 unfold wE; rw [mN h]
theorem GR (l : List (List bO)) (i : Nat) : (wE l i).length <= (mY l).length := GU l i
theorem zz {l : List (List bO)} {i : Nat} (h : l.length <= i) : wE l i = mY l := by unfold wE; rw [take_of_length_le h]; rfl
theorem vV (H : Hp) (V : List Nat) (tk : Tk) (l : List (List bO)) (hl : l.length <= 1000000000) (hf : (mY l).length <= 1000000000) : CC Tryz.prog 92 [.sl tk 1 (l.map FE)] H V (Fr 3 ((mY l).map fN) H V) := by
 refine aj Tryz.func92 rfl fun hok oH => ?_
 clear hok
 refine aa (ab ?_)
 simp -implicitDefEqProofs [go_sem, ai]
 refine aa (ab ?_)
 simp -implicitDefEqProofs [go_sem]
 refine am (α := Unit) (fun _ => ([(0, .sl tk 1 (l.map FE)), (3, ci (mY l).length)], H, V)) (fun _ => True) ?_ ?_
 · refine aa (ab ?_)
   simp -implicitDefEqProofs [go_sem]
   refine af ?_
   refine al (α := Nat) (fun i => ([(0, .sl tk 1 (l.map FE)), (9, .sl tk 1 (l.map FE)), (10, ci l.length), (11, ci i), (3, ci (wE l i).length)], H, V)) (fun i => i <= l.length) (fun i => l.length - i) 0 (zero_le _) (ae (by simp [go_sem, wE]) rfl rfl) ?_
   intro i hi
   dsimp only
   refine aa (ab ?_)
   simp -implicitDefEqProofs [go_sem]
   refine aa (ab ?_)
   simp -implicitDefEqProofs [go_sem]
   refine ⟨fun h => ?_, fun h => ae (by simp [go_sem, zz h]) rfl rfl⟩
   have q1 := zy h
   have q2 := GR l (i + 1)
   refine aa (af (aa (ab ?_)))
   simp -implicitDefEqProofs [go_sem, h]
   have w1 : IntKind.i64.wrap (((wE l i).length : Int) + (l[i].length : Int)) = ((wE l (i + 1)).length : Int) := by rw [IntWalk.i64_in _ ⟨by omega, by omega⟩]; omega
   refine aa (ab ?_)
   simp -implicitDefEqProofs [go_sem, w1]
   refine aa (ab ?_)
   simp -implicitDefEqProofs [go_sem, show ¬ ((wE l (i + 1)).length : Int) < 0 by omega]
   refine ab ?_
   simp -implicitDefEqProofs [go_sem]
   refine ab ?_
   simp -implicitDefEqProofs [go_sem]
   refine ⟨i + 1, by omega, by omega, ae ?_ rfl rfl⟩
   simp [go_sem, gU (show i < 9223372036854775807 by omega)]
 · rintro _ -
   dsimp only
   refine aa (ab ?_)
   simp -implicitDefEqProofs [go_sem]
   refine CC.mono (CL _ _ _ hf) ?_
   rintro _ _ _ ⟨v, rfl, rfl, rfl⟩
   simp -implicitDefEqProofs [go_sem]
   refine am (α := Nat) (fun v => ([(6, .sl (.own V.length v) 3 ((mY l).map fN))], H, V ++ [v])) (fun _ => True) ?_ ?_
   · refine aa (ab ?_)
     simp -implicitDefEqProofs [go_sem]
     refine af ?_
     refine al (α := Nat × Nat) (fun x => ([(25, .sl tk 1 (l.map FE)), (26, ci l.length), (27, ci x.1), (6, .sl (.own V.length x.2) 3 ((wE l x.1).map fN))], H, V ++ [x.2])) (fun x => x.1 <= l.length) (fun x => l.length - x.1) (0, v) (zero_le _) (ae (by simp [go_sem, wE]) rfl rfl) ?_
     rintro ⟨i, v⟩ hi
     dsimp only at hi ⊢
     refine aa (ab ?_)
     simp -implicitDefEqProofs [go_sem]
     refine aa (ab ?_)
     simp -implicitDefEqProofs [go_sem]
     refine ⟨fun h => ?_, fun h => ⟨v, ae (by simp [go_sem, zz h]) rfl rfl⟩⟩
     have q1 := zy h
     have q2 := GR l (i + 1)
     refine aa (af (aa (ab ?_)))
     simp -implicitDefEqProofs [go_sem, h]
     refine ab ?_
     simp -implicitDefEqProofs [go_sem]
     refine ⟨by omega, ?_⟩
     refine ab ?_
     simp -implicitDefEqProofs [go_sem]
     refine ⟨i + 1, by omega, by omega, v + 1, ae ?_ rfl (by simp)⟩
     rw [<- GQ h]
     simp [go_sem, gU (show i < 9223372036854775807 by omega)]
   · rintro v -
     dsimp only
     refine aa (ab ?_)
     simp -implicitDefEqProofs [go_sem]
     refine ab ?_
     simp -implicitDefEqProofs [go_sem]
     exact ao.fresh rfl (by simp [go_sem]) oH (by simp)
section
open Go.Proofs
end
structure cF where
 sizes : List Int
 jr : bW
 data : Int
 applied : Int
 pend : List Wr
 img : bX
def bK (s : cF) : List CV := [.sl .sh 1 (s.sizes.map ic), .v (.int .i64 s.jr.start), .v (.int .i64 s.jr.count), .v (.int .i64 s.jr.head), .v (.int .i64 s.jr.tail), .v (.int .i64 s.jr.first), .sl .sh 1 (s.jr.sizes.map ic), .v (.int .i64 s.data), .v (.int .i64 s.applied), .sl .sh 3 (s.pend.map bq), .sl .sh 1 (s.img.map eB)]
@[go_sem, simp] theorem WP (s : cF) : (bK s).length = 11 := rfl
@[go_sem, simp] theorem R9 (s : cF) : (bK s).take 11 = bK s := rfl
@[go_sem, simp] theorem SA (s : cF) : (bK s).drop 11 = [] := rfl
@[go_sem, simp] theorem WQ (s : cF) : aJ (bK s) = true := rfl
@[go_sem, simp] theorem abF (s : cF) : ((bK s).drop 1).take 6 = fA s.jr := rfl
@[go_sem] theorem okL_stoC (i j : Nat) (s : cF) : okL i j (bK s) = True := by simp [bK, go_sem, okL, aK, aR, cQ, gH]
def fz : cF := ⟨[], nd, 0, 0, [], []⟩
def cd (sizes : List Int) (n : Int) : Int × Nat :=
 if aN sizes ≠ 0 then (0, aN sizes) else if n < 20 \/ 4096 - ay sizes < n then (0, 2) else (n + ay sizes, 0)
def gw (sizes : List Int) (n : Int) : cF × List bO × Nat :=
 if (cd sizes n).2 ≠ 0 then (fz, [], (cd sizes n).2)
 else (⟨sizes, (b8 0 n).1, n, 0, [], bo sizes⟩, dG n (List.replicate (ay sizes).toNat aP) :: cO :: (b8 0 n).2.1, 0)
def j1 (s : cF) : Nat :=
 if aN s.sizes ≠ 0 then aN s.sizes
 else if cE s.jr = false then 3
 else if s.jr.start ≠ 0 \/ s.data ≠ s.jr.count \/ 4096 - ay s.sizes < s.data then 2
 else if s.applied ≠ s.jr.first - 1 \/ s.pend.length ≠ s.jr.sizes.length then 3
 else if (ij (bo s.sizes) s.pend).2.2 ≠ 0 then (ij (bo s.sizes) s.pend).2.2
 else if aB s.img ≠ s.sizes then 22
 else if (ij s.img s.pend).2.2 ≠ 0 \/ (ij s.img s.pend).1 ≠ s.img then 22 else 0
def dK (s : cF) (w : Wr) : cF × Int × List bO × Nat :=
 if j1 s ≠ 0 then (fz, 0, [], j1 s)
 else if aS s.sizes w ≠ 0 then (fz, 0, [], aS s.sizes w)
 else if (gh s.jr 1 (bi [w])).2.2 ≠ 0 then (fz, 0, [], (gh s.jr 1 (bi [w])).2.2)
 else (⟨s.sizes, (gh s.jr 1 (bi [w])).1, s.data, s.applied, s.pend ++ [w], j3 s.img w⟩, ax s.jr, (gh s.jr 1 (bi [w])).2.1, 0)
def eS (d : Dk) (j : bW) (q : Int) : bW × List bO × Nat :=
 if aH d ≠ 0 then (nd, [], aH d) else if cE j = false then (nd, [], 3)
 else if q < j.first - 1 \/ ax j <= q then (nd, [], 2)
 else if q = j.first - 1 then (j, [], 0)
 else
  let n := (q + 1 - j.first).toNat
  let h := (j.head + ay (j.sizes.take n)) % (j.count - 16)
  if (b9 d j.start (bk h (q + 1))).2 ≠ 0 then (nd, [], (b9 d j.start (bk h (q + 1))).2)
  else (⟨j.start, j.count, h, j.tail, q + 1, j.sizes.drop n⟩, (b9 d j.start (bk h (q + 1))).1, 0)
def gZ (s : cF) (w : Wr) : bO := dG (s.data + ay (s.sizes.take w.volume.toNat) + w.start) w.data
def fF (d : Dk) (s : cF) : cF × List bO × Nat :=
 if aH d ≠ 0 then (fz, [], aH d) else if j1 s ≠ 0 then (fz, [], j1 s)
 else if (d.stable.length : Int) < s.data + ay s.sizes then (fz, [], 2)
 else if s.pend.length = 0 then (s, [], 0)
 else if (eS d s.jr (ax s.jr - 1)).2.2 ≠ 0 then (fz, [], (eS d s.jr (ax s.jr - 1)).2.2)
 else (⟨s.sizes, (eS d s.jr (ax s.jr - 1)).1, s.data, ax s.jr - 1, [], s.img⟩, s.pend.map (gZ s) ++ cO :: (eS d s.jr (ax s.jr - 1)).2.1, 0)
def ew (l : List Int) : Prop := l.length <= 1000 /\ ∀ n ∈ l, 0 <= n /\ n <= 4096
theorem ew.of {l : List Int} (h : aN l = 0) : ew l := by
 obtain ⟨h1, h2, h3⟩ := dj h;exact ⟨by omega, fun n hn => by have := h3 n hn; omega⟩
theorem ew.take {l : List Int} (h : ew l) (k : Nat) : ew (l.take k) := ⟨by rw [length_take]; have := h.1; omega, fun n hn => h.2 n (mem_of_mem_take hn)⟩
theorem ew.sum {l : List Int} (h : ew l) : ∀ k, 0 <= ay (l.take k) /\ ay (l.take k) <= 4096 * (min k l.length : Nat)
 | 0 => by simp [ay]
 | k + 1 => by
  have ih := h.sum k
  by_cases hk : k < l.length
  · rw [take_succ_eq_append_getElem hk, iT]
    have := h.2 _ (getElem_mem hk);omega
  · rw [take_of_length_le (by omega)] at ih ⊢
    rw [Nat.min_eq_right (by omega)] at ih ⊢;exact ih
theorem ew.sum' {l : List Int} (h : ew l) : 0 <= ay l /\ ay l <= 4096 * (l.length : Int) := by
 have := h.sum l.length;rw [take_length, Nat.min_self] at this;omega
theorem mf (H : Hp) (V : List Nat) (tk : Tk) (l : List Int) (h : ew l) : CC Tryz.prog 50 [.sl tk 1 (l.map ic)] H V (Pu (ci (ay l)) H V) := by
 refine aj Tryz.func50 rfl fun hok oH => ?_;clear hok;have hl := h.1;refine aa (ab ?_);simp [go_sem, ai];refine aa (ab ?_);simp [go_sem];refine am (α := Unit) (fun _ => ([(3, ci (ay l))], H, V)) (fun _ => True) ?_ ?_
 · refine aa (ab ?_)
   simp [go_sem];refine af ?_;refine al (α := Nat) (fun i => ([(3, ci (ay (l.take i))), (6, .sl tk 1 (l.map ic)), (7, ci l.length), (8, ci i)], H, V)) (fun i => i <= l.length) (fun i => l.length - i) 0 (zero_le _) (ae (by simp [go_sem, ay]) rfl rfl) ?_;intro i hi;dsimp only;refine aa (ab ?_);simp [go_sem];refine aa (ab ?_);simp [go_sem];refine ⟨fun hi => ?_, fun hi => ae (by rw [take_of_length_le (by omega)]; simp [go_sem]) rfl rfl⟩;have h1 := h.sum i;have h2 := h.2 _ (getElem_mem hi);have hs : ay (l.take (i + 1)) = ay (l.take i) + l[i] := by rw [take_succ_eq_append_getElem hi, iT]
   have w1 : IntKind.i64.wrap (ay (l.take i) + l[i]) = ay (l.take i) + l[i] := IntWalk.i64_in _ ⟨by omega, by omega⟩;have w2 : IntKind.i64.wrap ((i : Int) + 1) = (i : Int) + 1 := IntWalk.i64_in _ ⟨by omega, by omega⟩;refine aa (af (aa (ab ?_)));simp [go_sem, hi];refine ab ?_;simp [go_sem, w1];refine ab ?_;simp [go_sem, w2];refine ⟨i + 1, by omega, by omega, ae (by rw [hs]; simp [go_sem]) rfl rfl⟩
 rintro _ -;dsimp only;refine aa (ab ?_);simp [go_sem];refine ab ?_;simp [go_sem];exact ao.pu (.refl _) (by simp [go_sem]) oH (by simp) (by simp)
theorem pz (H : Hp) (V : List Nat) (tk : Tk) (l : List Int) (n : Int) (hl : l.length <= 9223372036854775807) : CC Tryz.prog 18 [.sl tk 1 (l.map ic), ci n] H V (Pu (.tup [ci (cd l n).1, er (cd l n).2]) H V) := by
 refine aj Tryz.func18 rfl fun hok oH => ?_;clear hok;have fin : ∀ (x : Int) (e : Nat) (H' : Hp) (V' : List Nat), cd l n = (x, e) -> H'.take H.length = H -> V'.take V.length = V -> ao H.length V.length (Pu (.tup [ci (cd l n).1, er (cd l n).2]) H V) (.tup [ci x, er e]) H' V' := fun x e H' V' h1 h2 h3 => by
  rw [h1]; exact ao.pu (.refl _) (by simp [go_sem]) oH h2 h3
 refine aa (ab ?_);simp [go_sem, ai];refine aa (aa (ab ?_));simp [go_sem];refine ah (md _ _ tk l hl) ?_;simp [go_sem];refine aa (ab ?_)
 by_cases h0 : aN l = 0
 case neg =>
  simp [go_sem, h0];refine ab ?_;simp [go_sem];exact fin _ _ _ _ (by rw [cd, if_pos h0]) (by simp) (by simp)
 have hz := ew.of h0;have hs := hz.sum';have hl8 := (dj h0).2.1;have w1 : IntKind.i64.wrap (4096 - ay l) = 4096 - ay l := IntWalk.i64_in _ ⟨by omega, by omega⟩;simp [go_sem, h0];refine ab ?_;simp [go_sem];refine aa (aa (ab ?_))
 by_cases h1 : n < 20
 · simp [go_sem, h1]
   refine ab ?_;simp [go_sem];exact fin _ _ _ _ (by rw [cd, if_neg (by simp [h0]), if_pos (.inl h1)]) (by simp) (by simp)
 simp [go_sem, h1];refine ah (mf _ _ tk l hz) ?_
 by_cases h2 : 4096 - ay l < n
 · simp [go_sem, w1, h2]
   refine ab ?_;simp [go_sem];exact fin _ _ _ _ (by rw [cd, if_neg (by simp [h0]), if_pos (.inr h2)]) (by simp) (by simp)
 have w2 : IntKind.i64.wrap (n + ay l) = n + ay l := IntWalk.i64_in _ ⟨by omega, by omega⟩;simp [go_sem, w1, h2];refine ab ?_;simp [go_sem];refine aa (ab ?_);simp [go_sem];refine ah (mf _ _ tk l hz) ?_;simp [go_sem, w2];refine ab ?_;simp [go_sem];exact fin _ _ _ _ (by rw [cd, if_neg (by simp [h0]), if_neg (by omega)]) (by simp) (by simp)
theorem un (H : Hp) (V : List Nat)  : CC Tryz.prog 42 [] H V (Pu (.agg (fN cO)) H V) := by
 refine aj Tryz.func42 rfl fun hok oH => ?_;clear hok;refine aa (ab ?_);simp [go_sem, ai];refine aa (ab ?_);simp [go_sem];refine ab ?_;simp [go_sem];exact ao.pu (r0 := .agg (fN cO)) (.agg (.cons (.refl _) (.cons (.refl _) (.cons (.nil 8 (by decide)) .nil)))) (by simp [go_sem, tw]) oH (by simp) (by simp)
theorem lu (H : Hp) (V : List Nat) (t2 : Tk) (a : List bO) (l : List (List bO)) (hl : l.length <= 1000000) (hf : (mY (a :: l)).length <= 1000000000) : CC Tryz.prog 41 [.sl .sh 3 (a.map fN), .sl t2 1 (l.map FE)] H V (Pu (gp (mY (a :: l))) H V) := by
 refine aj Tryz.func41 rfl fun hok oH => ?_;clear hok;refine aa (ab ?_);simp [go_sem, ai];refine aa (ab ?_);simp [go_sem];refine ⟨by omega, ?_⟩;refine CC.mono (vV _ _ (.own V.length 0) (a :: l) (by simp; omega) hf) ?_;rintro _ _ _ ⟨v, rfl, rfl, rfl⟩;simp [go_sem];refine ab ?_;simp [go_sem];exact ao.pu (.sh _ _ _) (by simp [go_sem, eF]) oH (by simp) (by simp)
theorem kZ (H : Hp) (V : List Nat) (tk : Tk) (l : bX) (ws : List Wr) (hl : l.length <= 1000000000) (hn : ws.length <= 1000000000) (hw : ∀ w ∈ ws, w.data.length <= 1000000000) : CC Tryz.prog 35 [.sl tk 1 (l.map eB), .sl .sh 3 (ws.map bq)] H V (Pu (.tup [F9 (ij l ws).1, er (ij l ws).2.2]) H V) := by
 refine aj Tryz.func35 rfl fun hok oH => ?_;clear hok;refine aa (ab ?_);simp [go_sem, ai];refine aa (ab ?_);simp [go_sem];refine ah (qu _ _ tk l ws hl hn hw) ?_;simp [go_sem, OW];refine ab ?_;simp [go_sem];exact ao.pu (.refl _) (by simp [go_sem, okL, aK]) oH (by simp) (by simp)
theorem MV (H : Hp) (V : List Nat) (tk : Tk) (v : List au) (n : Int) : CC Tryz.prog 87 [.sl tk 8 (v.map aE), ci n] H V (Pu (cb (decide ((v.length : Int) = n))) H V) := by
 refine aj Tryz.func87 rfl fun hok oH => ?_;clear hok;refine aa (ab ?_);simp [go_sem, ai];refine ab ?_;simp [go_sem];exact ao.pu (.refl _) (by simp [go_sem]) oH (by simp) (by simp)
theorem xA {x : bX} {s : List Int} {i : Nat} (h : i < x.length) (h2 : i < s.length) (hp : (aB x).take i = s.take i) (he : (x[i].length : Int) = s[i]) : (aB x).take (i + 1) = s.take (i + 1) := by
 rw [take_succ_eq_append_getElem (by rw [gP]; exact h), take_succ_eq_append_getElem h2, hp, <- he];simp [aB]
theorem LY (H : Hp) (V : List Nat) (t1 t2 : Tk) (x : bX) (s : List Int) (hl : x.length <= 1000000000) : CC Tryz.prog 86 [.sl t1 1 (x.map eB), .sl t2 1 (s.map ic), .fn 87 []] H V (Pu (cb (decide (aB x = s))) H V) := by
 refine aj Tryz.func86 rfl fun hok oH => ?_;clear hok;refine aa (ab ?_);simp [go_sem, ai];refine aa (aa (ab ?_))
 by_cases aT : x.length = s.length
 case neg =>
  have hlen' : ¬ (x.length : Int) = (s.length : Int) := by omega
  simp [go_sem, hlen'];refine ab ?_;simp [go_sem, aT, hlen'];exact aA (by rw [decide_eq_false]; intro e; exact aT (by rw [<- e, gP])) oH (by simp) (by simp)
 simp [go_sem, aT];refine ab ?_;simp [go_sem, aT];refine am (α := Unit) (fun _ => ([], H, V)) (fun _ => aB x = s) ?_ ?_
 · refine aa (ab ?_)
   simp [go_sem];refine af ?_;refine al (α := Nat) (fun i => ([(1, .sl t2 1 (s.map ic)), (2, .fn 87 []), (15, .sl t1 1 (x.map eB)), (16, ci x.length), (17, ci i)], H, V)) (fun i => i <= x.length /\ (aB x).take i = s.take i) (fun i => x.length - i) 0 ⟨zero_le _, rfl⟩ (ae (by simp [go_sem, aT]) rfl rfl) ?_;rintro i ⟨hi, hp⟩;dsimp only;refine aa (ab ?_);simp [go_sem];refine aa (ab ?_);simp [go_sem];refine ⟨fun h => ?_, fun h => ⟨by rwa [take_of_length_le (by rw [gP]; exact h), take_of_length_le (by omega)] at hp, ae (by simp [go_sem]) rfl rfl⟩⟩;have h2 : i < s.length := by omega
   refine aa (af (aa (ab ?_)));simp [go_sem, h];refine aa (ab ?_);simp [go_sem, h2];refine aa (ab ?_);simp [go_sem];refine ah (MV _ _ .sh x[i] s[i]) ?_
   by_cases he : (x[i].length : Int) = s[i]
   · simp [go_sem, he]
     refine ab ?_;simp [go_sem];refine ab ?_;simp [go_sem];refine ⟨i + 1, ⟨by omega, xA h h2 hp he⟩, by omega, ae ?_ rfl rfl⟩;simp [go_sem, aq (show i <= 1000000000 by omega)]
   · simp [go_sem, he]
     refine ab ?_;simp [go_sem];refine aA ?_ oH (by simp) (by simp);rw [decide_eq_false];intro e;apply he;have := congrArg (fun l : List Int => l[i]?) e;simp only [aB, getElem?_map, getElem?_eq_getElem h, getElem?_eq_getElem h2, Option.map_some] at this;exact Option.some.inj this
 · rintro _ he
   dsimp only;refine ab ?_;simp [go_sem];exact aA (by simp [he]) oH (by simp) (by simp)
structure StS (s : cF) : Prop where
 sl : s.sizes.length <= 1000000000
 jl : s.jr.sizes.length <= 1000000000
 pl : s.pend.length <= 1000000
 pd : ∀ w ∈ s.pend, w.data.length <= 1000000
 il : s.img.length <= 1000000
 iv : ∀ v ∈ s.img, v.length <= 1000000
theorem l6 {j : bW} (h : cE j = true) : 1 <= j.first /\ j.first <= 1073741824 := by
 simp only [cE, Bool.and_eq_true, decide_eq_true_eq] at h;omega
theorem IG : ∀ (ws : List Wr) (l : bX) (i : Nat) {y : bX} {j : Nat}, t6 l ws i = (y, j, 0) -> aB y = aB l
 | [], l, i, y, j, h => by rw [t6] at h; cases h; rfl
 | w :: ws, l, i, y, j, h => by
  rw [t6] at h
  split at h
  · rename_i q
    exact absurd (congrArg (fun x => x.2.2) h) q
  · rename_i q
    rw [IG ws _ _ h];have := t8 (k := l) (w := w) (by simpa using q);have e : ∀ x : bX, aB x = (x.map List.length).map (fun n : Nat => (n : Int)) := fun x => by rw [aB, map_map]; rfl
    rw [e, e, this]
theorem RK {l : bX} {ws : List Wr} (h : (ij l ws).2.2 = 0) : aB (ij l ws).1 = aB l := by
 unfold ij at h ⊢
 split at h
 · rename_i q; exact absurd h q
 · rename_i q
   rw [if_neg q];refine IG ws l 0 (j := (t6 l ws 0).2.1) ?_;generalize t6 l ws 0 = z at h ⊢;obtain ⟨a, b, d⟩ := z;dsimp only at h ⊢;rw [h]
theorem jj {sz : List Int} (hs : aN sz = 0) {x : bX} (hx : aB x = sz) : x.length <= 1000000000 /\ ∀ v ∈ x, v.length <= 1000000000 := by
 obtain ⟨h1, h2⟩ := nl (l := x) (by rw [hx]; exact hs);exact ⟨by omega, fun v hv => by have := (h2 v hv).2; omega⟩
structure R0 (s : cF) : Prop where
 j : cE s.jr = true
 a : ¬ (s.jr.start ≠ 0 \/ s.data ≠ s.jr.count \/ 4096 - ay s.sizes < s.data)
 b : ¬ (s.applied ≠ s.jr.first - 1 \/ s.pend.length ≠ s.jr.sizes.length)
theorem rP (H : Hp) (V : List Nat) (s : cF) (hs : StS s) : CC Tryz.prog 36 [.agg (bK s)] H V (Pu (er (j1 s)) H V) := by
 refine aj Tryz.func36 rfl fun hok oH => ?_;clear hok;have fin : ∀ (e : Nat) (H' : Hp) (V' : List Nat), j1 s = e -> H'.take H.length = H -> V'.take V.length = V -> ao H.length V.length (Pu (er (j1 s)) H V) (er e) H' V' := fun e H' V' h1 h2 h3 => ao.er h1 oH h2 h3;refine aa (ab ?_);simp [go_sem, ai];refine aa (ab ?_);simp [go_sem, bK];refine ah (md _ _ .sh s.sizes (by have := hs.sl; omega)) ?_;simp [go_sem];refine aa (aa (ab ?_))
 by_cases h0 : aN s.sizes = 0
 case neg =>
  simp [go_sem, h0];refine ab ?_;simp [go_sem];exact fin _ _ _ (by rw [j1, if_pos h0]) (by simp) (by simp)
 have hz := ew.of h0;have hsm := hz.sum';have hl8 := (dj h0).2.1;simp [go_sem, h0];refine ab ?_;simp [go_sem];refine aa (ab ?_);simp [go_sem];refine am (α := Unit) (fun _ => ([(1, .ptr H.length 0), (3, F9 (bo s.sizes))], H ++ [some (bK s), some (fA s.jr)], V)) (fun _ => R0 s) ?_ ?_
 · refine af (aa (ab ?_))
   simp [go_sem];refine ah (DI _ _ s.jr hs.jl) ?_
   by_cases hJ : cE s.jr = true
   case neg =>
    have hJ' : cE s.jr = false := by simpa using hJ
    simp [go_sem, ckE, hJ'];refine ab ?_;simp [go_sem];exact fin _ _ _ (by rw [j1, if_neg (by simp [h0]), if_pos hJ']) (by simp) (by simp)
   have e1 : j1 s = if s.jr.start ≠ 0 \/ s.data ≠ s.jr.count \/ 4096 - ay s.sizes < s.data then 2
    else if s.applied ≠ s.jr.first - 1 \/ s.pend.length ≠ s.jr.sizes.length then 3
    else if (ij (bo s.sizes) s.pend).2.2 ≠ 0 then (ij (bo s.sizes) s.pend).2.2
    else if aB s.img ≠ s.sizes then 22
    else if (ij s.img s.pend).2.2 ≠ 0 \/ (ij s.img s.pend).1 ≠ s.img then 22 else 0 := by
    rw [j1, if_neg (by simp [h0]), if_neg (by simp [hJ])]
   have hfi := l6 hJ;simp [go_sem, ckE, hJ];refine ac.condF (by simp [go_sem]) ?_;refine aa (az [] [] (.s 0 .pl <| .s 1 .pl <| .s 2 .pl <| .s 3 .pl <| .s 4 .pl <| .s 5 .pl <| .s 6 .pl <| .s 7 .pl <| .s 8 .pl <| .s 9 .pl <| .s 10 .pl <| .s 11 .pl <| .s 12 .pl <| .s 13 .pl <| .s 14 .pl <| .s 15 .pl <| .s 16 .pl <| .s 17 .pl <| .s 18 .pl <| .s 19 .pl <| .s 20 .pl <| .s 21 .pl <| .n) ?_);have w1 : IntKind.i64.wrap (4096 - ay s.sizes) = 4096 - ay s.sizes := IntWalk.i64_in _ ⟨by omega, by omega⟩;have w2 : IntKind.i64.wrap (s.jr.first - 1) = s.jr.first - 1 := IntWalk.i64_in _ ⟨by omega, by omega⟩
   by_cases c1 : s.jr.start = 0
   case neg =>
    simp [go_sem, c1];refine ab ?_;simp [go_sem];exact fin _ _ _ (by rw [e1, if_pos (.inl c1)]) (by simp) (by simp)
   by_cases c2 : s.data = s.jr.count
   case neg =>
    simp [go_sem, c1, c2];refine ab ?_;simp [go_sem];exact fin _ _ _ (by rw [e1, if_pos (.inr (.inl c2))]) (by simp) (by simp)
   simp [go_sem, c1, c2];refine ah (mf _ _ .sh s.sizes hz) ?_
   by_cases c3 : 4096 - ay s.sizes < s.jr.count
   · simp [go_sem, w1, c3]
     refine ab ?_;simp [go_sem];exact fin _ _ _ (by rw [e1, if_pos (.inr (.inr (by rw [c2]; exact c3)))]) (by simp) (by simp)
   simp [go_sem, w1, c3];refine ac.condF (by simp [go_sem]) ?_;have hb1 : ¬ (s.jr.start ≠ 0 \/ s.data ≠ s.jr.count \/ 4096 - ay s.sizes < s.data) := by
    rintro (q | q | q)
    · exact q c1
    · exact q c2
    · rw [c2] at q; exact c3 q
   rw [if_neg hb1] at e1;refine aa (ab ?_)
   by_cases c4 : s.applied = s.jr.first - 1
   case neg =>
    simp [go_sem, w2, c4];refine ab ?_;simp [go_sem];exact fin _ _ _ (by rw [e1, if_pos (.inl c4)]) (by simp) (by simp)
   by_cases c5 : s.pend.length = s.jr.sizes.length
   case neg =>
    have c5' : ¬ (s.pend.length : Int) = (s.jr.sizes.length : Int) := by omega
    simp [go_sem, w2, c4, c5, c5'];refine ab ?_;simp [go_sem];exact fin _ _ _ (by rw [e1, if_pos (.inr c5)]) (by simp) (by simp)
   simp [go_sem, w2, c4, c5];refine ab ?_;simp [go_sem];exact ⟨⟨hJ, hb1, by rintro (q | q); exact q c4; exact q c5⟩, ae (by simp [go_sem]) (by rw [bK, fA, c1, c2, c4]) rfl⟩
 rintro _ ⟨hJ, hb1, hb2⟩;dsimp only;have e1 : j1 s = if (ij (bo s.sizes) s.pend).2.2 ≠ 0 then (ij (bo s.sizes) s.pend).2.2
  else if aB s.img ≠ s.sizes then 22
  else if (ij s.img s.pend).2.2 ≠ 0 \/ (ij s.img s.pend).1 ≠ s.img then 22 else 0 := by
  rw [j1, if_neg (by simp [h0]), if_neg (by simp [hJ]), if_neg hb1, if_neg hb2]
 refine aa (aa (ab ?_));simp [go_sem, bK];refine ah (kZ _ _ .sh (bo s.sizes) s.pend (by rw [vn]; omega) (by have := hs.pl; omega) (fun w hw => by have := hs.pd w hw; omega)) ?_;simp [go_sem];refine aa (ab ?_)
 by_cases h1 : (ij (bo s.sizes) s.pend).2.2 = 0
 case neg =>
  have h1' : ¬ (((ij (bo s.sizes) s.pend).2.2 : Nat) : Int) = 0 := by omega
  simp [go_sem, h1, h1'];refine ab ?_;simp [go_sem];exact fin _ _ _ (by rw [e1, if_pos h1]) (by simp) (by simp)
 rw [if_neg (by simp [h1])] at e1;simp [go_sem, h1];refine ab ?_;simp [go_sem];refine aa (aa (ab ?_));simp [go_sem, bK];refine ah (LY _ _ .sh .sh s.img s.sizes (by have := hs.il; omega)) ?_
 by_cases h2 : aB s.img = s.sizes
 case neg =>
  simp [go_sem, h2];refine ab ?_;simp [go_sem];exact fin _ _ _ (by rw [e1, if_pos h2]) (by simp) (by simp)
 rw [if_neg (by simp [h2])] at e1;simp [go_sem, h2];refine ab ?_;simp [go_sem];refine aa (aa (ab ?_));simp [go_sem, bK];refine ah (kZ _ _ .sh s.img s.pend (by have := hs.il; omega) (by have := hs.pl; omega) (fun w hw => by have := hs.pd w hw; omega)) ?_;simp [go_sem];refine aa (ab ?_)
 by_cases h3 : (ij s.img s.pend).2.2 = 0
 case neg =>
  have h3' : ¬ (((ij s.img s.pend).2.2 : Nat) : Int) = 0 := by omega
  simp [go_sem, h3, h3'];refine ab ?_;simp [go_sem];exact fin _ _ _ (by rw [e1, if_pos (.inl h3)]) (by simp) (by simp)
 simp [go_sem, h3, bK];obtain ⟨i1, i2⟩ := jj h0 ((RK h3).trans h2);refine ah (jk _ _ .sh .sh (ij s.img s.pend).1 s.img i1 i2) ?_
 by_cases h4 : (ij s.img s.pend).1 = s.img
 case neg =>
  simp [go_sem, h4];refine ab ?_;simp [go_sem];exact fin _ _ _ (by rw [e1, if_pos (.inr h4)]) (by simp) (by simp)
 simp [go_sem, h4];refine ab ?_;simp [go_sem];refine aa (ab ?_);simp [go_sem];refine ab ?_;simp [go_sem];exact fin _ _ _ (by rw [e1, if_neg (by rintro (q | q); exact q h3; exact q h4)]) (by simp) (by simp)
theorem cu (H : Hp) (V : List Nat) (tk : Tk) (xs : List Int) (hx : xs.length <= 1000000000) : CC Tryz.prog 33 [.sl tk 1 (xs.map ic)] H V (Pu (.sl .sh 1 (xs.map ic)) H V) := by
 refine aj Tryz.func33 rfl fun hok oH => ab ?_;simp [go_sem, ai];refine ⟨⟨by omega, ?_⟩, fun h => ?_⟩
 · exact ao.pu (.sh ..) (by simp [go_sem, aR]) oH (by simp) (by simp)
 · obtain rfl : xs = [] := by simpa using h
   exact ao.pu (.nil 1 (by decide)) (by simp [go_sem]) oH (by simp) (by simp)
theorem eX (H : Hp) (V : List Nat) (tk : Tk) (xs : List au) (hx : xs.length <= 1000000000) : CC Tryz.prog 88 [.sl tk 8 (xs.map aE)] H V (Pu (aF xs) H V) := by
 refine aj Tryz.func88 rfl fun hok oH => ab ?_;simp [go_sem, ai];refine ⟨⟨by omega, ?_⟩, fun h => ?_⟩
 · exact ao.pu (.sh ..) (by simp [go_sem, cR]) oH (by simp) (by simp)
 · obtain rfl : xs = [] := by simpa using h
   exact ao.pu (.nil 8 (by decide)) (by simp [go_sem]) oH (by simp) (by simp)
def DX (l : List Wr) (i : Nat) : List (List CV) := (l.take i).map bq
theorem I8 (l : List Wr) (i : Nat) (h : i <= l.length) : (DX l i).length = i := by rw [DX, length_map, length_take]; omega
@[go_sem] theorem agi (l : List Wr) : DX l 0 = [] := rfl
theorem WI {l : List Wr} {i : Nat} (h : i < l.length) : DX l (i + 1) = DX l i ++ [bq l[i]] := by
 rw [DX, take_succ_eq_append_getElem h, map_append]; rfl
@[go_sem] theorem abz (l : List Wr) : DX l l.length = l.map bq := by rw [DX, take_length]
@[go_sem] theorem okE_wrU (i j : Nat) (l : List Wr) (k : Nat) : fO i j (DX l k) = True := by rw [DX, cQ]
theorem DW (w : Wr) : List.take 3 (List.take 2 (bq w) ++ CV.sl Tk.sh 8 (List.map aE w.data) :: List.drop 3 (bq w)) = bq w := rfl
theorem my (H : Hp) (V : List Nat) (tk : Tk) (l : List Wr) (h1 : l.length <= 1000000) (h2 : ∀ w ∈ l, w.data.length <= 1000000) : CC Tryz.prog 59 [.sl .sh 3 (l.map bq)] H V (Fr 3 (l.map bq) H V) := by
 refine aj Tryz.func59 rfl fun hok oH => ?_;clear hok;refine aa (ab ?_);simp [go_sem, ai];refine aa (ab ?_);simp [go_sem];refine am (α := Unit) (fun _ => ([(3, .sl (.own V.length l.length) 3 (l.map bq))], H, V ++ [l.length])) (fun _ => True) ?_ ?_
 · refine aa (ab ?_)
   simp [go_sem];refine af ?_;refine al (α := Nat) (fun i => ([(3, .sl (.own V.length i) 3 (DX l i)), (6, .sl .sh 3 (l.map bq)), (7, ci l.length), (8, ci i)], H, V ++ [i])) (fun i => i <= l.length) (fun i => l.length - i) 0 (zero_le _) (Sh.tokT (by simp [go_sem]) rfl rfl) ?_;intro i hi;dsimp only;refine aa (ab ?_);simp [go_sem];refine aa (ab ?_);simp [go_sem];refine ⟨fun h => ?_, fun h => ?_⟩
   case refine_2 =>
    obtain rfl : i = l.length := by omega
    exact ae (by simp [go_sem]) rfl rfl
   have hw := h2 _ (getElem_mem h);refine aa (af (aa (ab ?_)));simp [go_sem, h];refine aa (ab ?_);simp [go_sem];refine ah (eX _ _ .sh l[i].data (by omega)) ?_;simp [go_sem];refine ab ?_;simp [go_sem, I8 _ _ hi];refine ⟨rfl, by omega, ?_⟩;have w2 : IntKind.i64.wrap ((i : Int) + 1) = (i : Int) + 1 := IntWalk.i64_in _ ⟨by omega, by omega⟩;refine ab ?_;simp [go_sem, w2];refine ⟨i + 1, by omega, by omega, Sh.cut H.length (V.length + 1) (by simp [go_sem, WI h, DW]) (le_refl _) (by omega) (wI.all (by simp [go_sem])) (fun b cs hb => aO (le_refl _) (by omega) (oH b cs hb)) (by simp) (by simp)⟩
 · rintro _ -
   dsimp only;refine aa (ab ?_);simp [go_sem];refine ab ?_;simp [go_sem];exact ao.fresh rfl (by simp [go_sem, cQ]) oH (by simp)
def kj : List CV := [.v (.slice none 0 0), .v (.int .i64 0), .v (.int .i64 0), .v (.int .i64 0), .v (.int .i64 0), .v (.int .i64 0), .v (.slice none 0 0), .v (.int .i64 0), .v (.int .i64 0), .v (.slice none 0 0), .v (.slice none 0 0)]
@[go_sem, simp] theorem WD : kj.length = 11 := rfl
def rt (s : cF) (pv : CV) : List CV := [.sl .sh 1 (s.sizes.map ic), .v (.int .i64 s.jr.start), .v (.int .i64 s.jr.count), .v (.int .i64 s.jr.head), .v (.int .i64 s.jr.tail), .v (.int .i64 s.jr.first), .sl .sh 1 (s.jr.sizes.map ic), .v (.int .i64 s.data), .v (.int .i64 s.applied), pv, .sl .sh 1 (s.img.map eB)]
def af8 (s : cF) (H : Hp) (V : List Nat) : CV -> Hp -> List Nat -> Prop := fun r H' V' => ∃ k v, r = .agg (rt s (.sl (.own k v) 3 (s.pend.map bq))) /\ H = H' /\ V'.take V.length = V /\ V'[k]? = some v /\ V.length <= k
def GA (l : bX) (i : Nat) : List (List CV) := (l.take i).map eB
theorem KX (l : bX) (i : Nat) (h : i <= l.length) : (GA l i).length = i := by rw [GA, length_map, length_take]; omega
@[go_sem] theorem agY (l : bX) : GA l 0 = [] := rfl
theorem X4 {l : bX} {i : Nat} (h : i < l.length) : GA l (i + 1) = GA l i ++ [eB l[i]] := by
 rw [GA, take_succ_eq_append_getElem h, map_append]; rfl
@[go_sem] theorem ac0 (l : bX) : GA l l.length = l.map eB := by rw [GA, take_length]
@[go_sem] theorem acg (i j : Nat) (l : bX) (k : Nat) : fO i j (GA l k) = True := by rw [GA, gH]
theorem yx (H : Hp) (V : List Nat) (s : cF) (hs : StS s) : CC Tryz.prog 38 [.agg (bK s)] H V (af8 s H V) := by
 refine aj Tryz.func38 rfl fun hok oH => ?_;clear hok;refine aa (ab ?_);simp [go_sem, ai];refine aa (ab ?_);simp [go_sem];refine am (α := Unit) (fun _ => ([(1, .ptr H.length 0), (2, .ptr (H.length + 1) 0), (3, .sl (.own V.length s.img.length) 1 (s.img.map eB))], H ++ [some (bK s), some kj], V ++ [s.img.length])) (fun _ => True) ?_ ?_
 · refine aa (ab ?_)
   simp [go_sem, bK];refine af ?_;refine al (α := Nat) (fun i => ([(1, .ptr H.length 0), (2, .ptr (H.length + 1) 0), (3, .sl (.own V.length i) 1 (GA s.img i)), (7, .sl .sh 1 (s.img.map eB)), (8, ci s.img.length), (9, ci i)], H ++ [some (bK s), some kj], V ++ [i])) (fun i => i <= s.img.length) (fun i => s.img.length - i) 0 (zero_le _) ?_ ?_
   · exact Sh.tokT (by simp [go_sem]) (by simp [bK, kj]) rfl
   intro i hi;dsimp only;refine aa (ab ?_);simp [go_sem];refine aa (ab ?_);simp [go_sem];refine ⟨fun h => ?_, fun h => ?_⟩
   case refine_2 =>
    obtain rfl : i = s.img.length := by omega
    exact ae (by simp [go_sem]) rfl rfl
   have hv := hs.iv _ (getElem_mem h);have hil := hs.il;refine aa (af (aa (ab ?_)));simp [go_sem, h];refine ab ?_;simp [go_sem];refine ah (eX _ _ .sh s.img[i] (by omega)) ?_;simp [go_sem, KX _ _ hi];refine ⟨by omega, ?_⟩;have w2 : IntKind.i64.wrap ((i : Int) + 1) = (i : Int) + 1 := IntWalk.i64_in _ ⟨by omega, by omega⟩;refine ab ?_;simp [go_sem, w2];exact ⟨i + 1, by omega, by omega, ae (by simp [go_sem, X4 h, eB]) rfl (by simp)⟩
 rintro _ -;dsimp only;refine aa (az [] [8, 10, 12] (.s 0 .pl <| .s 1 .pl <| .s 3 .pl <| .s 4 .pl <| .s 5 .pl <| .s 2 .pl <| .s 7 .pl <| .s 6 .pl <| .s 8 .st <| .s 9 .pl <| .s 10 .st <| .s 11 .pl <| .s 12 .st <| .n) ?_);simp [go_sem, bK];refine ah (cu _ _ .sh s.sizes hs.sl) ?_;simp [go_sem];refine CC.mono (my _ _ .sh s.pend hs.pl hs.pd) ?_;rintro _ _ _ ⟨v, rfl, rfl, rfl⟩;simp [go_sem];refine aa (ab ?_);simp [go_sem];refine ah (cu _ _ .sh s.jr.sizes hs.jl) ?_;simp [go_sem];refine aa (ab ?_);simp [go_sem];refine ab ?_;simp [go_sem];refine ao.cut H.length (V.length + 2) (H'' := H) (V'' := V ++ [s.img.length, v]) (r' := .agg (rt s (.sl (.own (V.length + 1) v) 3 (s.pend.map bq)))) ⟨V.length + 1, v, rfl, rfl, by simp, by simp, by omega⟩ (le_refl _) (by omega) (by simp) (by simp) ?_ ?_ fun b cs hb => aO (le_refl _) (by omega) (oH b cs hb)
 · exact .agg (.cons (.refl _) (.cons (.refl _) (.cons (.refl _) (.cons (.refl _) (.cons (.refl _) (.cons (.refl _) (.cons (.refl _) (.cons (.refl _) (.cons (.refl _) (.cons (.refl _) (.cons (.sh _ _ _) .nil)))))))))))
 · simp [rt, go_sem, okL, aK, gr, aR, cQ, gH]
theorem rm (H : Hp) (V : List Nat) (tk tk' : Tk) (l : List UInt8) (xs : List Wr) (hx : xs.length <= 900000000) (hl : l.length + (bi xs).length <= 900000000) :
 CC Tryz.prog 58 [.sl tk 1 (bs l), .sl tk' 3 (xs.map bq)] H V (Pu (.sl .sh 1 (bs (l ++ bi xs))) H V) := by
 refine aj Tryz.func58 rfl fun hok oH => ab ?_;simp [go_sem, ai];refine CC.mono (kL _ _ _ _ (by simp only [qV]; omega)) ?_;rintro _ _ _ ⟨v, rfl, rfl, rfl⟩
 try simp [go_sem]
 refine CC.mono (tj _ _ _ _ _ _ _ (by simp) hx hl) ?_;rintro _ _ _ ⟨v', rfl, rfl, rfl⟩;simp [go_sem];exact ao.pu (.sh _ _ _) (by simp [go_sem]) oH (by simp) (by simp)
structure ud (s : cF) : Prop where
 sz : aN s.sizes = 0
 A : R0 s
 e1 : (ij (bo s.sizes) s.pend).2.2 = 0
 im : aB s.img = s.sizes
 e2 : (ij s.img s.pend).2.2 = 0
 e3 : (ij s.img s.pend).1 = s.img
theorem zR {s : cF} (h : j1 s = 0) : ud s := by
 unfold j1 at h
 split at h
 · rename_i q; exact absurd h q
 rename_i q0
 split at h
 · cases h
 rename_i q1
 split at h
 · cases h
 rename_i q2
 split at h
 · cases h
 rename_i q3
 split at h
 · rename_i q; exact absurd h q
 rename_i q4
 split at h
 · cases h
 rename_i q5
 split at h
 · cases h
 rename_i q6;exact ⟨by simpa using q0, ⟨by simpa using q1, q2, q3⟩, by simpa using q4, by simpa using q5, Classical.byContradiction fun e => q6 (.inl e), Classical.byContradiction fun e => q6 (.inr e)⟩
theorem M9 {l : bX} {w : Wr} (h : aN (aB l) = 0) (hf : aS (aB l) w = 0) : ij l [w] = (j3 l w, 0, 0) := by
 rw [ij, if_neg (by simp [h]), t6, if_neg (by simp [hf]), t6]
def R1 (x : cF × Int × List bO × Nat) : CV := .tup [.agg (bK x.1), ci x.2.1, gp x.2.2.1, er x.2.2.2]
theorem y8 (i j : Nat) (x : cF × Int × List bO × Nat) : aK i j (R1 x) := by
 rw [R1]; simp [go_sem, okL, aK, okL_stoC, eF]
theorem oU : jD kj (bK fz) := .cons (.nil 1 (by decide)) (.cons (.refl _) (.cons (.refl _) (.cons (.refl _) (.cons (.refl _) (.cons (.refl _) (.cons (.nil 1 (by decide)) (.cons (.refl _) (.cons (.refl _) (.cons (.nil 3 (by decide)) (.cons (.nil 1 (by decide)) .nil))))))))))
theorem xn {j : bW} (h : cE j = true) : XK j = ax j := by rw [XK, if_pos h]
theorem MA {w : Wr} (h : w.data.length <= 1000000) : (bi [w]).length <= 900000000 := by
 have h1 := dA ([w].length : Int);have h2 := dA w.volume;have h3 := dA w.start;have h4 := dA (w.data.length : Int);have h5 := kI w.data;rw [bi, length_append, flatMap_cons, flatMap_nil, append_nil, iz, length_append, length_append];omega
theorem rN (H : Hp) (V : List Nat) (s : cF) (w : Wr) (hs : StS s) (hw : w.data.length <= 1000000) : CC Tryz.prog 23 [.agg (bK s), .agg (bq w)] H V (Pu (R1 (dK s w)) H V) := by
 refine aj Tryz.func23 rfl fun hok oH => ?_;clear hok;have bad : ∀ (e : Nat) (H' : Hp) (V' : List Nat), dK s w = (fz, 0, [], e) -> H'.take H.length = H -> V'.take V.length = V -> ao H.length V.length (Pu (R1 (dK s w)) H V) (.tup [.agg kj, ci 0, .v (.slice none 0 0), er e]) H' V' := fun e H' V' h1 h2 h3 => by
  rw [h1];exact ao.pu (.tup (.cons (.agg oU) (.cons (.refl _) (.cons (.nil 3 (by decide)) (.cons (.refl _) .nil))))) (y8 _ _ _) oH h2 h3
 refine aa (ab ?_);simp [go_sem, ai];refine aa (aa (ab ?_));simp [go_sem];refine ah (rP _ _ s hs) ?_;simp [go_sem];refine aa (ab ?_)
 by_cases h0 : j1 s = 0
 case neg =>
  simp [go_sem, h0];refine ab ?_;simp [go_sem];exact bad _ _ _ (by rw [dK, if_pos h0]) (by simp) (by simp)
 have hok := zR h0;simp [go_sem, h0];refine ab ?_;simp [go_sem];refine aa (aa (ab ?_));simp [go_sem, bK];refine ah (pj _ _ .sh s.img w (by have := hs.il; omega) (fun v hv => by have := hs.iv v hv; omega) (by omega)) ?_;have hfi : gc s.img w = aS s.sizes w := by rw [gc, hok.im, if_neg (by simp [hok.sz])]
 rw [hfi];simp [go_sem];refine aa (ab ?_)
 by_cases h1 : aS s.sizes w = 0
 case neg =>
  simp [go_sem, h1];refine ab ?_;simp [go_sem];exact bad _ _ _ (by rw [dK, if_neg (by simp [h0]), if_pos h1]) (by simp) (by simp)
 simp [go_sem, h1];refine ab ?_;simp [go_sem];have hJ := hok.A.j;refine aa (ab ?_);simp [go_sem, bK];refine ah (rh _ _ s.jr hs.jl) ?_;rw [xn hJ];simp [go_sem];refine aa (az [] [11] (.s 0 .pl <| .s 1 .pl <| .s 2 .pl <| .s 3 .pl <| .c 4 <| .c 5 <| .s 6 .pl <| .s 7 .pl <| .s 8 .pl <| .s 9 .pl <| .s 10 .pl <| .s 11 .st <| .s 12 .pl <| .s 13 .pl <| .n) ?_);simp [go_sem, bK];have hel : (bi [w]).length <= 900000000 := MA hw;refine ⟨_, fun H V => CC.le (ys := [.sl .sh 1 (bs []), .sl .ti 3 ([w].map bq)]) (.cons (.nil 1 (by decide)) (.cons (.refl _) .nil)) (rm H V .sh .ti [] [w] (by simp) (by simpa using hel)), ?_⟩;rw [nil_append];simp [go_sem];refine ⟨_, fun H V => DN H V s.jr 1 (bi [w]) hs.jl hel, ?_⟩;simp [go_sem, IV];have hwv : dK s w = if (gh s.jr 1 (bi [w])).2.2 ≠ 0 then (fz, 0, [], (gh s.jr 1 (bi [w])).2.2) else (⟨s.sizes, (gh s.jr 1 (bi [w])).1, s.data, s.applied, s.pend ++ [w], j3 s.img w⟩, ax s.jr, (gh s.jr 1 (bi [w])).2.1, 0) := by
  rw [dK, if_neg (by simp [h0]), if_neg (by simp [h1])]
 generalize gh s.jr 1 (bi [w]) = x at hwv ⊢;obtain ⟨j, A, e⟩ := x;dsimp only at hwv ⊢;refine aa (aa (ab ?_))
 by_cases he : e = 0
 case neg =>
  have he' : ¬ (e : Int) = 0 := by omega
  simp [go_sem, he, he'];refine ab ?_;simp [go_sem];exact bad _ _ _ (by rw [hwv, if_pos he]) (by simp) (by simp)
 subst he;rw [if_neg (by simp)] at hwv;simp [go_sem];refine ab ?_;simp [go_sem];refine aa (ab ?_);simp [go_sem, bK];refine CC.le (ys := [.sl .sh 1 (s.img.map eB), .sl .sh 3 ([w].map bq)]) (.cons (.refl _) (.cons (.sh _ _ _) .nil)) ?_;have hw1 : ∀ x ∈ [w], x.data.length <= 1000000000 := fun x hx => by
  rw [mem_singleton] at hx; subst hx; omega
 refine ah (kZ _ _ .sh s.img [w] (by have := hs.il; omega) (by simp) hw1) ?_;rw [M9 (by rw [hok.im]; exact hok.sz) (by rw [hok.im]; exact h1)];simp [go_sem];refine aa (aa (ab ?_));simp [go_sem];refine ab ?_;simp [go_sem];refine aa (ab ?_);simp [go_sem, bK];refine CC.mono (yx _ _ s hs) ?_;rintro _ _ V1 ⟨k, v, rfl, rfl, hV1, hV2, hV3⟩;simp [go_sem, rt];refine aa (az [H.length + 1] [9, 11, 13] (.s 0 .pl <| .s 1 .pl <| .s 2 .pl <| .s 3 .pl <| .s 4 .ld <| .s 5 .pl <| .s 8 .pl <| .s 6 .pl <| .s 7 .pl <| .s 9 .st <| .s 10 .pl <| .s 11 .st <| .s 12 .pl <| .s 13 .st <| .n) ?_);simp [go_sem];refine CC.le (ys := [.sl .sh 3 ([w].map bq)]) (.cons (.sh _ _ _) .nil) ?_;refine CC.mono (my _ _ .sh [w] (by simp) (fun x hx => by rw [mem_singleton] at hx; subst hx; exact hw)) ?_;rintro _ _ _ ⟨v2, rfl, rfl, rfl⟩;simp [go_sem];have hkV : k < V1.length := (List.getElem?_eq_some_iff.1 hV2).1;have hpl := hs.pl;have hkp : ∀ (a b c d e e' : Option (List CV)), Kp [H.length + 1] (H ++ [a, b, c, d, e]) (H ++ [a, b, c, d, e']) := fun a b c d e e' => Kp.keep fun x hx => by
  obtain rfl : x = H.length + 1 := by simpa using hx
  rw [aC, aC]; rfl
 refine ⟨by rw [getElem?_append_left hkV]; exact hV2, by omega, hkp _ _ _ _ _ _, hkp _ _ _ _ _ _, hkp _ _ _ _ _ _, ?_⟩;refine aa (ab ?_);simp [go_sem];refine ⟨rfl, ?_⟩;have hV1l : V.length <= V1.length := by omega
 refine ab ?_;simp [go_sem];rw [hwv];have hsn : List.map bq s.pend ++ [bq w] = (s.pend ++ [w]).map bq := by rw [map_append]; rfl
 rw [hsn];refine ao.pu ?_ (y8 _ _ _) oH (by simp) (by first | (rw [take_set_of_le hV3, take_append_of_le_length hV1l]; exact hV1) | (rw [take_append_of_le_length (by simpa using hV1l), take_set_of_le hV3]; exact hV1));refine .tup (.cons (.agg ?_) (.cons (.refl _) (.cons (.refl _) (.cons (.refl _) .nil))));show jD [.sl .sh 1 (s.sizes.map ic), .v (.int .i64 j.start), .v (.int .i64 j.count), .v (.int .i64 j.head), .v (.int .i64 j.tail), .v (.int .i64 j.first), .sl .sh 1 (j.sizes.map ic), .v (.int .i64 s.data), .v (.int .i64 s.applied), .sl (.own k (v + 1)) 3 ((s.pend ++ [w]).map bq), .sl .sh 1 ((j3 s.img w).map eB)] _;exact .cons (.refl _) (.cons (.refl _) (.cons (.refl _) (.cons (.refl _) (.cons (.refl _) (.cons (.refl _) (.cons (.refl _) (.cons (.refl _) (.cons (.refl _) (.cons (.sh _ _ _) (.cons (.refl _) .nil))))))))))
end Go.Proofs.YtfflhepmkhlppaaGreatDoor
