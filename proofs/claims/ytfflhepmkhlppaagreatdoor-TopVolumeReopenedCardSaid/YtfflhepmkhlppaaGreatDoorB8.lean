import Derived.Test.YtfflhepmkhlppaaGreatDoorB7
import Derived.Test.YtfflhepmkhlppaaGreatDoorB5
import Derived.Test.YtfflhepmkhlppaaGreatDoorB6
set_option linter.unusedSimpArgs false
set_option linter.unusedVariables false
set_option linter.unusedSectionVars false
set_option maxRecDepth 8000
set_option maxHeartbeats 4000000
open List (all_append all_cons all_eq_true all_map any_eq_true append_assoc append_nil cons_append contains_iff_mem drop_append_of_le_length drop_drop drop_eq_getElem_cons drop_eq_nil_of_le drop_of_length_le drop_one drop_succ_cons drop_take drop_zero eq_nil_of_length_eq_zero ext_getElem ext_getElem? filter_cons flatMap_append flatMap_cons flatMap_nil flatten_append flatten_cons flatten_nil foldl_append foldl_cons getD_eq_getElem?_getD getElem?_append getElem?_append_left getElem?_append_right getElem?_cons_succ getElem?_cons_zero getElem?_drop getElem?_eq_getElem getElem?_eq_none getElem?_map getElem?_of_mem getElem?_replicate getElem?_set getElem?_set_ne getElem?_set_self getElem?_take getElem?_toArray getElem_drop getElem_map getElem_mem getElem_of_mem getElem_set length_append length_cons length_drop length_eq_zero_iff length_map length_nil length_pos_iff length_range length_replicate length_set length_singleton length_take mapM_cons map_append map_congr_left map_cons map_drop map_map map_nil map_set map_take mem_append mem_append_left mem_cons mem_cons_of_mem mem_cons_self mem_flatten mem_map mem_of_getElem? mem_of_mem_drop mem_of_mem_take mem_range mem_replicate mem_singleton nil_append not_mem_nil prefix_refl range_succ replicate_succ replicate_succ' set_append_left set_append_right set_eq_take_append_cons_drop set_getElem_self set_set size_toArray take_append take_append_drop take_append_of_le_length take_left take_length take_of_length_le take_set_of_le take_succ_cons take_succ_eq_append_getElem take_take take_zero zip_cons_cons)
open Nat (le_refl zero_le)
namespace Go.Proofs.YtfflhepmkhlppaaGreatDoor
open Go.Proofs
def eN (h : Int) (n : Nat) (ct : List au) (i : Nat) : List au := (List.range i).map fun (k : Nat) => ct.getD ((h + (k : Int)) % (n : Int)).toNat aP
theorem wO (h : Int) (n : Nat) (ct : List au) (i : Nat) : eN h n ct (i + 1) = eN h n ct i ++ [ct.getD ((h + (i : Int)) % (n : Int)).toNat aP] := by rw [eN, range_succ, map_append]; rfl
@[go_sem, simp] theorem iS (h : Int) (n : Nat) (ct : List au) (i : Nat) : (eN h n ct i).length = i := by rw [eN, length_map, length_range]
/-- The sizes of records, and where the last of them ends. -/
def eQ (l : List cV) : List Int := l.map fun r => ne (r.pay.length : Int)
def iq (n h : Int) (l : List Int) : Int := l.foldl (fun t x => (t + x) % n) h
def eC (first : Int) (l : List au) : List cV := let r := (dm l first).1; r.take (min r.length (1073741824 - first).toNat)
def jO (s c h f : Int) (rs : List cV) : bW := ⟨s, c, h, iq (c - 16) h (eQ rs), f, eQ rs⟩
def cm (s c : Int) (d : Dk) : bW × List cV × List bO × Nat :=
 if aH d ≠ 0 then (nd, [], [], aH d) else
 if bf s c = false \/ (d.stable.length : Int) < s + c then (nd, [], [], 2) else
 if (c8 s c d).2.2 ≠ 0 then (nd, [], [], (c8 s c d).2.2) else
 if (bD d (s + 16) (c - 16)).2 ≠ 0 then (nd, [], [], (bD d (s + 16) (c - 16)).2) else
 let ct := (bD d (s + 16) (c - 16)).1
 let rs := eC (c8 s c d).2.1 (eN (c8 s c d).1 (c - 16).toNat ct (c - 16).toNat)
 if cE (jO s c (c8 s c d).1 (c8 s c d).2.1 rs) = false then (nd, [], [], 3)
 else (jO s c (c8 s c d).1 (c8 s c d).2.1 rs, rs, oL (jO s c (c8 s c d).1 (c8 s c d).2.1 rs) ct, 0)
def XA (x : bW × List cV × List bO × Nat) : CV := .tup [.agg (fA x.1), .sl .sh 3 (x.2.1.map gl), gp x.2.2.1, er x.2.2.2]
theorem y9 (i j : Nat) (x : bW × List cV × List bO × Nat) : aK i j (XA x) := by
 rw [XA, aK, okL, okL, okL, okL, okL];simp [go_sem, okL, aK, okL_jrC, eF, zh]
theorem GH {c : Int} {p : List UInt8} (h : (ga c p).2.2 = 0) : 0 <= (ga c p).1 /\ (ga c p).1 < c - 16 /\ 1 <= (ga c p).2.1 /\ (ga c p).2.1 <= 1073741824 := by
 cases hn : bZ p with
 | error e => rw [ga, hn] at h; cases h
 | ok x =>
  obtain ⟨a, r⟩ := x
  cases hn2 : bZ r with
  | error e => rw [ga, hn] at h; simp only at h; rw [hn2] at h; cases h
  | ok x =>
   obtain ⟨f, r'⟩ := x;have hP : ga c p = if 0 < r'.length \/ c - 16 <= (a : Int) \/ (f : Int) < 1 \/ 1073741824 < (f : Int) then (0, 0, 3) else ((a : Int), (f : Int), 0) := by
    rw [ga, hn]; simp only; rw [hn2]
   rw [hP] at h ⊢
   by_cases hb : 0 < r'.length \/ c - 16 <= (a : Int) \/ (f : Int) < 1 \/ 1073741824 < (f : Int)
   · rw [if_pos hb] at h; cases h
   · rw [if_neg hb]
     exact ⟨by show (0 : Int) <= a; omega, by show (a : Int) < _; omega, by show 1 <= (f : Int); omega, by show (f : Int) <= _; omega⟩
theorem vw {s c : Int} {d : Dk} (h : (c8 s c d).2.2 = 0) : 0 <= (c8 s c d).1 /\ (c8 s c d).1 < c - 16 /\ 1 <= (c8 s c d).2.1 /\ (c8 s c d).2.1 <= 1073741824 := by
 by_cases h1 : (eE d s).2.2 ≠ 0
 · rw [c8, if_pos h1] at h; exact absurd h h1
 · rw [c8, if_neg h1] at h ⊢
   exact GH h
theorem yX {d : Dk} {a m : Int} {n : Nat} (h : (bD d a m).2 = 0) (hm : m = (n : Int)) : (bD d a m).1.length = n := by
 subst hm
 by_cases h1 : aH d = 0
 · by_cases h2 : bn d a n = true
   · have e : bD d a n = (((aU d).drop a.toNat).take (n : Int).toNat, 0) := by rw [bD, if_neg (by simp [h1]), if_neg (by simp [h2])]
     rw [e];simp only [bn, Bool.and_eq_true, decide_eq_true_eq] at h2;rw [length_take, length_drop, bR];omega
   · rw [bD, if_neg (by simp [h1]), if_pos (by simpa using h2)] at h; cases h
 · rw [bD, if_pos h1] at h; exact absurd h h1
theorem nq : ∀ (f : Nat) (l : List au) (sq : Int), (dk f l sq).1.length <= l.length
 | 0, l, sq => by rw [dk]; exact zero_le _
 | f + 1, l, sq => by
  rw [dk]
  split
  · exact zero_le _
  · split
    · exact zero_le _
    · rename_i r n h
      split
      · exact zero_le _
      · have h1 := nq f (l.drop n) (sq + 1)
        have h2 := tP h;rw [length_drop] at h1;rw [length_cons]; omega
theorem EE (l : List cV) (i : Nat) (h : i < l.length) : eQ (l.take (i + 1)) = eQ (l.take i) ++ [ne (l[i].pay.length : Int)] := by
 rw [eQ, take_succ_eq_append_getElem h, map_append]; rfl
theorem lD (n h : Int) (l : List Int) (x : Int) : iq n h (l ++ [x]) = (iq n h l + x) % n := by rw [iq, foldl_append]; rfl
theorem EA {n h : Int} (hn : 0 < n) (h0 : 0 <= h) (h1 : h < n) : ∀ l : List Int, 0 <= iq n h l /\ iq n h l < n := fun l => by
 rcases List.eq_nil_or_concat l with rfl | ⟨l', x, rfl⟩
 · exact ⟨h0, h1⟩
 · rw [List.concat_eq_append, lD]
   exact ⟨Int.emod_nonneg _ (by omega), Int.emod_lt_of_pos _ hn⟩
theorem EG (n : Int) : 0 <= ne n /\ ne n <= 1026 := by
 unfold ne
 split <;> omega
def WA (V : List Nat) (l : List Int) (cv : CV) (W : List Nat) : Prop := (l = [] /\ cv = .v (.slice none 0 0) /\ W = V) \/ ∃ v, cv = .sl (.own V.length v) 1 (l.map ic) /\ W = V ++ [v]
theorem WA.le {V : List Nat} {l : List Int} {cv : CV} {W : List Nat} (h : WA V l cv W) : Le cv (.sl .sh 1 (l.map ic)) := by
 rcases h with ⟨rfl, rfl, rfl⟩ | ⟨v, rfl, rfl⟩
 · exact .nil 1 (by decide)
 · exact .sh _ _ _
theorem WA.len {V : List Nat} {l : List Int} {cv : CV} {W : List Nat} (h : WA V l cv W) : V.length <= W.length /\ W.take V.length = V := by
 rcases h with ⟨rfl, rfl, rfl⟩ | ⟨v, rfl, rfl⟩ <;> simp
abbrev HO (H : Hp) (d : Dk) (s c : Int) (ct : List au) (cv : CV) (x1 x2 x3 lp : Option (List CV)) : Hp := H ++ [some (cj d), some [iv s, iv c], some yn, some [iv s, iv c], some [aF ct], some [cv], x1, x2, x3, lp]
theorem ND (H : Hp) (V : List Nat) (s c : Int) (d : Dk) (hl : rL d) (hp : (eE d s).1.length <= 100) : CC Tryz.prog 31 [.agg (cj d), .agg [iv s, iv c]] H V (Pu (XA (cm s c d)) H V) := by
 refine CC.of_swp0 Tryz.func31 rfl (by kernel_rfl) (by rw [Tryz.ntmps31]; exact gu _ _ rfl) fun hok oH => ?_
 have bad : ∀ (e : Nat) {H' : Hp} {V' : List Nat}, cm s c d = (nd, [], [], e) -> H'.take H.length = H -> V'.take V.length = V -> ao H.length V.length (Pu (XA (cm s c d)) H V) (.tup [.agg yn, .v (.slice none 0 0), .v (.slice none 0 0), er e]) H' V' := fun e H' V' h1 h2 h3 => by
  rw [h1]
  exact ao.pu (.tup (.cons ym (.cons (.nil 3 (by decide)) (.cons (.nil 3 (by decide)) (.cons (.refl _) .nil))))) (y9 _ _ _) oH h2 h3
 refine aw (aD (ab ?_))
 simp -implicitDefEqProofs [go_sem, ai]
 refine aw (aD (aa (ab ?_)))
 simp -implicitDefEqProofs [go_sem]
 refine CC.mono (eO _ _ d hl) ?_
 rintro _ _ _ ⟨rfl, rfl, rfl⟩
 simp -implicitDefEqProofs [go_sem]
 refine aa (ab ?_)
 by_cases h0 : aH d = 0
 case neg =>
  simp -implicitDefEqProofs [go_sem, h0]
  refine ab ?_
  simp -implicitDefEqProofs [go_sem]
  exact bad _ (by rw [cm, if_pos h0]) (by simp) (by simp)
 simp -implicitDefEqProofs [go_sem, h0]
 refine ab ?_
 simp -implicitDefEqProofs [go_sem]
 have e0 : cm s c d = _ := (by rw [cm, if_neg (by simp [h0])])
 refine aw (aD (ab ?_))
 simp -implicitDefEqProofs [go_sem]
 refine aw (aD (aa (ab ?_)))
 simp -implicitDefEqProofs [go_sem]
 refine CC.mono (pt _ _ _ _) ?_
 rintro _ _ _ ⟨rfl, rfl, rfl⟩
 have w0 : bf s c = true -> IntKind.i64.wrap (s + c) = s + c := fun h => by
  have := (aM s c).1 h
  exact IntWalk.i64_in _ ⟨by omega, by omega⟩
 by_cases hv : bf s c = true
 case neg =>
  simp -implicitDefEqProofs [go_sem, hv]
  refine ab ?_
  simp -implicitDefEqProofs [go_sem]
  exact bad 2 (by rw [e0, if_pos (.inl (by simpa using hv))]) (by simp) (by simp)
 have hvi := (aM s c).1 hv
 by_cases hln : (d.stable.length : Int) < s + c
 · simp -implicitDefEqProofs [go_sem, hv, w0 hv, hln]
   refine ab ?_
   simp -implicitDefEqProofs [go_sem]
   exact bad 2 (by rw [e0, if_pos (.inr hln)]) (by simp) (by simp)
 rw [if_neg (by simp [hv, hln])] at e0
 simp -implicitDefEqProofs [go_sem, hv, w0 hv, hln]
 refine ab ?_
 simp -implicitDefEqProofs [go_sem]
 refine aw (aD (ab ?_))
 simp -implicitDefEqProofs [go_sem]
 refine CC.mono (KP _ _ s c d hv hl hp) ?_
 rintro _ _ _ ⟨rfl, rfl, rfl⟩
 simp -implicitDefEqProofs [go_sem, hdV]
 refine aw (aD (aa (ab ?_)))
 by_cases h1 : (c8 s c d).2.2 = 0
 case neg =>
  simp -implicitDefEqProofs [go_sem, h1]
  refine ab ?_
  simp -implicitDefEqProofs [go_sem]
  exact bad _ (by rw [e0, if_pos h1]) (by simp) (by simp)
 have hho := vw h1
 rw [if_neg (by simp [h1])] at e0
 simp -implicitDefEqProofs [go_sem, h1]
 refine ab ?_
 simp -implicitDefEqProofs [go_sem]
 generalize (c8 s c d).1 = hd at hho e0 ⊢
 generalize (c8 s c d).2.1 = fi at hho e0 ⊢
 refine aw (aD (az [] [11] (.s 0 .pl <| .s 1 .pl <| .s 3 .pl <| .c 2 <| .c 4 <| .s 5 .pl <| .c 6 <| .s 7 .pl <| .s 8 .pl <| .s 9 .pl <| .s 10 .pl <| .s 11 .st <| .s 12 .pl <| .n) ?_))
 simp -implicitDefEqProofs [go_sem]
 refine ⟨_, fun H V => kV H V s c 0 hv (by decide) (by decide), ?_⟩
 simp -implicitDefEqProofs [go_sem]
 refine ⟨_, fun H V => b6 H V s c hv, ?_⟩
 simp -implicitDefEqProofs [go_sem]
 refine ⟨_, fun H V => pM H V d ⟨s + 16, c - 16⟩ hl, ?_⟩
 simp -implicitDefEqProofs [go_sem]
 refine aw (aD (aa (ab ?_)))
 by_cases h2 : (bD d (s + 16) (c - 16)).2 = 0
 case neg =>
  simp -implicitDefEqProofs [go_sem, h2]
  refine ab ?_
  simp -implicitDefEqProofs [go_sem]
  exact bad _ (by rw [e0, if_pos h2]) (by simp) (by simp)
 rw [if_neg (by simp [h2])] at e0
 simp -implicitDefEqProofs [go_sem, h2]
 refine ab ?_
 simp -implicitDefEqProofs [go_sem]
 obtain ⟨n, hnn⟩ : ∃ n : Nat, c - 16 = (n : Int) := ⟨(c - 16).toNat, by omega⟩
 have hct : (bD d (s + 16) (c - 16)).1.length = n := yX h2 hnn
 generalize (bD d (s + 16) (c - 16)).1 = ct at hct e0 ⊢
 rw [show (c - 16).toNat = n by omega] at e0
 dsimp only at e0
 refine aw (aD (ab ?_))
 simp -implicitDefEqProofs [go_sem]
 refine aL.ghost (Sh.trim (T' := [(2, .ptr H.length 0), (3, .ptr (H.length + 1) 0), (4, .ptr (H.length + 2) 0), (9, .ptr (H.length + 3) 0), (10, iv hd), (11, iv fi), (13, .ptr (H.length + 4) 0), (14, .ptr (H.length + 5) 0)]) (L := [some (cj d), some [iv s, iv c], some yn, some [iv s, iv c], some [aF ct], some [.v (.slice none 0 0)]]) (V' := V) (by simp [go_sem]) (by simp [go_sem]) oH (by simp [go_sem]) (le_refl _) (by simp) (by simp)) ?_
 refine aL.join (α := CV × List Nat) (fun x => ([(2, .ptr H.length 0), (3, .ptr (H.length + 1) 0), (4, .ptr (H.length + 2) 0), (9, .ptr (H.length + 3) 0), (10, iv hd), (11, iv fi), (13, .ptr (H.length + 4) 0), (14, .ptr (H.length + 5) 0)], H ++ [some (cj d), some [iv s, iv c], some yn, some [iv s, iv c], some [aF ct], some [x.1]], x.2))
  (fun x => yk V.length (eN hd n ct n) x.1 x.2 /\ V.length <= x.2.length /\ x.2.take V.length = V) ?_ ?_
 · refine aw (aD (az [] [] (.s 0 .pl <| .s 1 .pl <| .s 2 .pl <| .s 3 .pl <| .s 4 .pl <| .n) ?_))
   simp -implicitDefEqProofs [go_sem]
   refine CC.mono (b6 _ _ _ _ hv) ?_
   rintro _ _ _ ⟨rfl, rfl, rfl⟩
   simp -implicitDefEqProofs [go_sem, hnn]
   refine CC.mono (zC _ _ _ _ _ _) ?_
   rintro _ _ _ ⟨rfl, rfl, rfl⟩
   simp -implicitDefEqProofs [go_sem]
   refine aL.block (aL.range [(13, .ptr (H.length + 4) 0), (14, .ptr (H.length + 5) 0), (2, .ptr H.length 0), (3, .ptr (H.length + 1) 0), (4, .ptr (H.length + 2) 0), (9, .ptr (H.length + 3) 0), (10, iv hd), (11, iv fi)] rfl (by simp [go_sem]) ?_)
   simp -implicitDefEqProofs [go_sem]
   generalize hbd : Code.block 1 _ = bd
   generalize has : Code.region 15 _ _ = asg
   obtain ⟨TT, hTT⟩ : ∃ TT : Tm, TT = [(13, .ptr (H.length + 4) 0), (14, .ptr (H.length + 5) 0), (2, .ptr H.length 0), (3, .ptr (H.length + 1) 0), (4, .ptr (H.length + 2) 0), (9, .ptr (H.length + 3) 0), (10, iv hd), (11, iv fi)] := ⟨_, rfl⟩
   rw [<- hTT]
   refine CC.mono (vD _ V _ _ _ _ s c hd n hv hho.1 (by omega) (by omega) (fun i G V' => ∃ cv, yk V.length (eN hd n ct i) cv V' /\ V.length <= V'.length /\ V'.take V.length = V /\ G = HO H d s c ct cv (some [iv s, iv c]) (some [iv hd]) (some [iv n]) (some [fQ 142 #[77] asg bd TT .ready none]))
    ⟨.v (.slice none 0 0), .inl ⟨rfl, rfl⟩, le_refl _, by simp, rfl⟩ ?_ ?_) ?_
   · rintro i _ V' ⟨cv, _, _, _, rfl⟩
     exact ⟨aC _ _ 8, aC _ _ 7, aC _ _ 6⟩
   · rintro i hi _ V' ⟨cv, ha, hv1, hv2, rfl⟩
     refine YC.of_round (n := 142) (ps := #[77]) (bd := bd) (T := TT) (aC _ _ 9) rfl (by decide) ?_
     subst hbd has
     rw [hnn]
     have hq1 := Int.emod_nonneg (hd + (i : Int)) (show (n : Int) ≠ 0 by omega)
     have hq2 := Int.emod_lt_of_pos (hd + (i : Int)) (show 0 < (n : Int) by omega)
     have hmx := wO hd n ct i
     rw [hmx]
     have hln := iS hd n ct i
     generalize eN hd n ct i = M at ha hln ⊢
     obtain ⟨q, hqq⟩ : ∃ q : Nat, (hd + (i : Int)) % (n : Int) = (q : Int) := ⟨((hd + (i : Int)) % (n : Int)).toNat, by omega⟩
     rw [hqq] at hq1 hq2 ⊢
     rw [Int.toNat_natCast]
     have hqc : q < ct.length := by omega
     have hgd : ct.getD q aP = ct[q] := by rw [getD_eq_getElem?_getD, getElem?_eq_getElem hqc]; rfl
     rw [hgd]
     subst hTT
     refine ab ?_
     simp -implicitDefEqProofs [go_sem, yD]
     refine af ?_
     generalize hlp : fQ 142 #[77] _ _ _ LoopState.busy none = lp
     generalize hqqq : RQ 142 #[77] _ _ _ _ _ = QQ
     refine az [] [7] (.s 0 .pl <| .s 1 .pl <| .s 2 .pl <| .s 3 .pl <| .s 4 .pl <| .s 5 .pl <| .s 6 .pl <| .s 7 .st <| .n) ?_
     rcases ha with ⟨rfl, he⟩ | ⟨k, v, rfl, hv, hk⟩
     · simp -implicitDefEqProofs [go_sem, hqc]
       rw [<- hqqq, <- hlp]
       refine ⟨aC _ _ 9, rfl, .sl (.own V'.length 0) 8 [aE ct[q]], .inr ⟨V'.length, 0, ?_, by simp, hv1⟩, by simp; omega, ?_, ?_⟩
       · rw [he]; rfl
       · rw [take_append_of_le_length hv1]; exact hv2
       · simp
     · simp -implicitDefEqProofs [go_sem, hqc, hv]
       rw [<- hqqq, <- hlp]
       have hkv := (List.getElem?_eq_some_iff.1 hv).1
       refine ⟨by omega, aC _ _ 9, rfl, .sl (.own k (v + 1)) 8 (List.map aE M ++ [aE ct[q]]), .inr ⟨k, v + 1, ?_, by rw [getElem?_set_self hkv], hk⟩, by simpa using hv1, ?_, ?_⟩
       · rw [map_append]; rfl
       · rw [take_set_of_le hk]; exact hv2
       · simp
   · rintro _ _ V' ⟨cv, ha, hv1, hv2, rfl⟩
     refine .inl ⟨aC _ _ 9, ?_⟩
     subst hTT
     refine ⟨cv, V', ⟨ha, hv1, hv2⟩, ?_⟩
     exact Sh.trim (L := [some (cj d), some [iv s, iv c], some yn, some [iv s, iv c], some [aF ct], some [cv]]) (by simp [go_sem]) (by simp [go_sem]) oH (by simp [go_sem, ha.ok]) hv1 (by simp) (take_of_length_le (le_refl _))
 rintro ⟨cv, V'⟩ ⟨h3, h4, h5⟩
 dsimp only
 refine aD ?_
 refine aa (ab ?_)
 simp -implicitDefEqProofs [go_sem]
 refine CC.le (.cons h3.le (.cons (.refl _) .nil)) ?_
 have htl := iS hd n ct n
 generalize eN hd n ct n = l at htl h3 e0 ⊢
 refine CC.mono (NB _ _ l fi (by omega) (by omega) (by omega)) ?_
 rintro _ _ _ ⟨rfl, rfl, rfl⟩
 simp -implicitDefEqProofs [go_sem, scV]
 have hR : eC fi l = (dm l fi).1.take (min (dm l fi).1.length (1073741824 - fi).toNat) := rfl
 have hsl : (dm l fi).1.length <= l.length := nq _ _ _
 generalize (dm l fi).1 = rs0 at hR hsl ⊢
 generalize (dm l fi).2 = na
 have w3 : IntKind.i64.wrap (1073741824 - fi) = 1073741824 - fi := IntWalk.i64_in _ ⟨by omega, by omega⟩
 obtain ⟨m, hm⟩ : ∃ m, m = min rs0.length (1073741824 - fi).toNat := ⟨_, rfl⟩
 have hmi : min (rs0.length : Int) (1073741824 - fi) = (m : Int) := by omega
 have hml : m <= rs0.length := by omega
 refine aa (ab ?_)
 simp -implicitDefEqProofs [go_sem, w3, hmi, hml]
 refine aa (ab ?_)
 simp -implicitDefEqProofs [go_sem]
 have eT : List.take m (List.map gl rs0) = (rs0.take m).map gl := (map_take ..).symm
 rw [eT]
 rw [<- hm] at hR
 have hrl : (rs0.take m).length <= 100000 := by rw [length_take]; omega
 generalize rs0.take m = rs at hR hrl ⊢
 rw [hR] at e0
 have hA5 : ∀ W : List Nat, V'.length <= W.length -> aK (H.length + 7) W.length cv := fun W hW => cP (le_refl _) hW h3.ok
 refine am (α := CV × List Nat) (fun x => ([(4, .ptr (H.length + 2) 0), (13, .ptr (H.length + 4) 0), (16, .sl .sh 3 (rs.map gl)), (18, .ptr (H.length + 6) 0)], H ++ [some (cj d), some [iv s, iv c], some yn, some [iv s, iv c], some [aF ct], some [cv], some [iv s, iv c, iv hd, iv (iq n hd (eQ rs)), iv fi, x.1]], x.2)) (fun x => WA V' (eQ rs) x.1 x.2) ?_ ?_
 · refine aa (ab ?_)
   simp -implicitDefEqProofs [go_sem]
   refine af ?_
   refine al (α := Nat × CV × List Nat) (fun x => ([(4, .ptr (H.length + 2) 0), (9, .ptr (H.length + 3) 0), (13, .ptr (H.length + 4) 0), (16, .sl .sh 3 (rs.map gl)), (18, .ptr (H.length + 6) 0), (103, .sl .sh 3 (rs.map gl)), (104, ci rs.length), (105, ci x.1)], H ++ [some (cj d), some [iv s, iv c], some yn, some [iv s, iv c], some [aF ct], some [cv], some [iv s, iv c, iv hd, iv (iq n hd (eQ (rs.take x.1))), iv fi, x.2.1]], x.2.2)) (fun x => x.1 <= rs.length /\ WA V' (eQ (rs.take x.1)) x.2.1 x.2.2) (fun x => rs.length - x.1) (0, .v (.slice none 0 0), V') ⟨zero_le _, .inl ⟨rfl, rfl, rfl⟩⟩ (ae (by simp [go_sem]) (by simp [iq, eQ]) rfl) ?_
   rintro ⟨i, cz, W⟩ ⟨hi, hz⟩
   dsimp only at hi hz ⊢
   refine aa (ab ?_)
   simp -implicitDefEqProofs [go_sem]
   refine aa (ab ?_)
   simp -implicitDefEqProofs [go_sem]
   refine ⟨fun h => ?_, fun h => ?_⟩
   case refine_2 =>
    rw [take_of_length_le h] at hz ⊢
    exact ⟨cz, W, hz, ae (by simp [go_sem]) rfl rfl⟩
   have htx := EA (n := n) (h := hd) (by omega) (by omega) (by omega) (eQ (rs.take i))
   have hsn := EE rs i h
   have hsx := EG (rs[i].pay.length : Int)
   have htn := lD n hd (eQ (rs.take i)) (ne (rs[i].pay.length : Int))
   generalize iq n hd (eQ (rs.take i)) = tl at htx htn ⊢
   refine aa (af (aa (ab ?_)))
   simp -implicitDefEqProofs [go_sem, h]
   refine aa (ab ?_)
   simp -implicitDefEqProofs [go_sem]
   refine CC.mono (rf _ _ _) ?_
   rintro _ _ _ ⟨rfl, rfl, rfl⟩
   simp -implicitDefEqProofs [go_sem]
   generalize ne (rs[i].pay.length : Int) = sz at hsn hsx htn ⊢
   have w5 : IntKind.i64.wrap (tl + sz) = tl + sz := IntWalk.i64_in _ ⟨by omega, by omega⟩
   have t5 := Int.tmod_eq_emod_of_nonneg (b := (n : Int)) (show 0 <= tl + sz by omega)
   have hz0 : ¬ (n : Int) = 0 := by omega
   have hst : iq (n : Int) hd (eQ (rs.take (i + 1))) = (tl + sz) % (n : Int) := by rw [hsn, htn]
   rcases hz with ⟨he, rfl, rfl⟩ | ⟨v, rfl, rfl⟩
   · refine aa (ab ?_)
     simp -implicitDefEqProofs [go_sem]
     refine az [] [8] (.s 0 .pl <| .s 1 .pl <| .s 2 .pl <| .s 3 .pl <| .s 4 .pl <| .s 5 .pl <| .s 6 .pl <| .s 7 .pl <| .s 8 .st <| .n) ?_
     simp -implicitDefEqProofs [go_sem, w5]
     refine CC.mono (b6 _ _ _ _ hv) ?_
     rintro _ _ _ ⟨rfl, rfl, rfl⟩
     simp -implicitDefEqProofs [go_sem, hnn, t5, hz0]
     refine ⟨by omega, ab ?_⟩
     simp -implicitDefEqProofs [go_sem, aq (show i <= 1000000000 by omega)]
     refine ⟨i + 1, .sl (.own W.length 0) 1 [ic sz], W ++ [0], ⟨by omega, .inr ⟨0, by rw [hsn, he]; rfl, rfl⟩⟩, by omega, ?_⟩
     rw [hst]
     exact Sh.trim (L := [some (cj d), some [iv s, iv c], some yn, some [iv s, iv c], some [aF ct], some [cv], some [iv s, iv c, iv hd, iv ((tl + sz) % (n : Int)), iv fi, .sl (.own W.length 0) 1 [ic sz]]]) (by simp [go_sem]) (by simp [go_sem]) oH (by simp [go_sem, hA5 (W ++ [0]) (by simp), okL, aK, ic]; exact cP (le_refl _) (by simp) h3.ok) (by simp; simp at h4; omega) (by simp [ic]) (by simp)
   · refine aa (ab ?_)
     simp -implicitDefEqProofs [go_sem]
     refine ⟨by simp [eQ]; omega, ?_⟩
     refine az [] [8] (.s 0 .pl <| .s 1 .pl <| .s 2 .pl <| .s 3 .pl <| .s 4 .pl <| .s 5 .pl <| .s 6 .pl <| .s 7 .pl <| .s 8 .st <| .n) ?_
     simp -implicitDefEqProofs [go_sem, w5]
     refine CC.mono (b6 _ _ _ _ hv) ?_
     rintro _ _ _ ⟨rfl, rfl, rfl⟩
     simp -implicitDefEqProofs [go_sem, hnn, t5, hz0]
     refine ⟨by omega, ab ?_⟩
     simp -implicitDefEqProofs [go_sem, aq (show i <= 1000000000 by omega)]
     refine ⟨i + 1, .sl (.own V'.length (v + 1)) 1 (List.map ic (eQ (rs.take i)) ++ [ic sz]), V' ++ [v + 1], ⟨by omega, .inr ⟨v + 1, by rw [hsn, map_append]; rfl, rfl⟩⟩, by omega, ?_⟩
     rw [hst]
     exact Sh.trim (L := [some (cj d), some [iv s, iv c], some yn, some [iv s, iv c], some [aF ct], some [cv], some [iv s, iv c, iv hd, iv ((tl + sz) % (n : Int)), iv fi, .sl (.own V'.length (v + 1)) 1 (List.map ic (eQ (rs.take i)) ++ [ic sz])]]) (by simp [go_sem]) (by simp [go_sem]) oH (by
      rw [show List.map ic (eQ (rs.take i)) ++ [ic sz] = (eQ (rs.take i) ++ [sz]).map ic by rw [map_append]; rfl]
      simp [go_sem, aR, -map_append]; exact cP (le_refl _) (by simp) h3.ok) (by simp; simp at h4; omega) (by simp [ic]) (by simp)
 rintro ⟨cz, W⟩ hz
 dsimp only at hz ⊢
 refine aa (ab ?_)
 simp -implicitDefEqProofs [go_sem]
 obtain ⟨J, hJd⟩ : ∃ J, J = jO s c hd fi rs := ⟨_, rfl⟩
 have hJ : [iv s, iv c, iv hd, iv (iq n hd (eQ rs)), iv fi, .sl .sh 1 ((eQ rs).map ic)] = fA J := by rw [hJd, jO, hnn]; rfl
 have hJs : J.sizes.length <= 1000000000 := by rw [hJd, jO]; simp [eQ]; omega
 have hJ1 : J.start = s := by rw [hJd]; rfl
 have hJ2 : J.count = c := by rw [hJd]; rfl
 rw [<- hJd] at e0
 have hzl := hz.len
 refine CC.le (ys := [.agg (fA J)]) (.cons (by rw [<- hJ]; exact .agg (.cons (.refl _) (.cons (.refl _) (.cons (.refl _) (.cons (.refl _) (.cons (.refl _) (.cons hz.le .nil))))))) .nil) ?_
 refine CC.mono (g9 _ _ J hJs) ?_
 rintro _ _ _ ⟨u, rfl, rfl, rfl, hu⟩
 simp -implicitDefEqProofs [go_sem]
 refine aa (aa (ab ?_))
 have hV : W.take V.length = V := by
  have h6 : V'.take V.length = V := h5
  rw [<- h6, <- hzl.2, take_take, Nat.min_eq_left (by simpa using h4)]
  simp
 by_cases hck : cE J = true
 case neg =>
  rw [if_pos (by simpa using hck)] at e0
  simp -implicitDefEqProofs [go_sem, hck]
  refine ab ?_
  simp -implicitDefEqProofs [go_sem]
  exact bad 3 e0 (by simp) hV
 rw [if_neg (by simp [hck])] at e0
 obtain rfl := hu hck
 simp -implicitDefEqProofs [go_sem, hck]
 refine ab ?_
 simp -implicitDefEqProofs [go_sem]
 refine aa (az [H.length + 7, H.length + 4] [6] (.s 0 .pl <| .s 2 .pl <| .s 3 .ld <| .s 4 .ld <| .s 1 .pl <| .s 5 .pl <| .s 6 .st <| .s 7 .pl <| .s 8 .pl <| .s 9 .pl <| .n) ?_)
 simp -implicitDefEqProofs [go_sem]
 refine CC.mono (xk _ _ J _ hJs) ?_
 rintro _ _ _ ⟨v, rfl, rfl, rfl⟩
 simp -implicitDefEqProofs [go_sem]
 refine CC.mono (BB _ _ J ct hck (by rw [hct, hJ2]; omega)) ?_
 rintro _ _ _ ⟨rfl, rfl, rfl⟩
 simp -implicitDefEqProofs [go_sem]
 refine ⟨Kp.keep fun b hb => ?_, ab ?_⟩
 · rcases mem_cons.1 hb with rfl | hb
   · rw [aC, aC]; rfl
   · obtain rfl : b = H.length + 4 := by simpa using hb
     rw [aC, aC]; rfl
 simp -implicitDefEqProofs [go_sem]
 rw [e0]
 refine ao.pu (.tup (.cons (.agg (.cons (.refl _) (.cons (.refl _) (.cons (.refl _) (.cons (.refl _) (.cons (.refl _) (.cons (.sh _ _ _) .nil))))))) (.cons (.refl _) (.cons (.refl _) (.cons (.refl _) .nil))))) (y9 _ _ _) oH (by simp) ?_
 rw [take_append_of_le_length (by have := hzl.1; simp at h4; omega)]
 exact hV
section
open Go.Proofs
end
@[go_sem, simp] theorem UO (d : Dk) : (cj d).drop 2 = [] := rfl
@[go_sem, simp] theorem UN (d : Dk) : (cj d).take 2 = cj d := rfl
section
open Go.Proofs
end
theorem WO (s : au) (h : ig s <= 4096) : ne (ig s : Int) = ((kn s : Nat) : Int) := by
 rw [ne, if_neg (by omega), kn]; omega
section
open Go.Proofs
end
def cp (s c : Int) (d : Dk) : Int × Int × Nat :=
 if aH d ≠ 0 then (0, 0, aH d) else if bf s c = false \/ (d.stable.length : Int) < s + c then (0, 0, 2) else c8 s c d
theorem qg (l : List au) : (bg l).2.length <= 31 := by
 unfold bg
 split
 · rename_i h
   rw [j7, Bool.and_eq_true, lO, Bool.and_eq_true, decide_eq_true_eq] at h;show (pay l).length <= 31;rw [pay, length_take];omega
 · exact zero_le _
theorem BT (d : Dk) (a : Int) : (eE d a).1.length <= 100 := by
 unfold eE
 split
 · exact zero_le _
 · split
   · exact zero_le _
   · show (ii _).2.length <= 100
     unfold ii
     split
     · exact Nat.le_trans (qg _) (by decide)
     · exact Nat.le_trans (qg _) (by decide)
theorem ME {l : List au} {r : cV} {n : Nat} (h : gx l = .ok (r, n)) : ne (r.pay.length : Int) = (n : Int) := by
 cases l with
 | nil => rw [gx, qX] at h; cases h
 | cons s l =>
  unfold gx at h
  split at h
  · cases h
  · rename_i m hm
    obtain ⟨h1, h2, h3, h4⟩ := jy hm
    split at h
    · cases h
    · rename_i r' hr
      cases h
      have hdl : (bb ((s :: l).take n)).length = 4 * n := by rw [gR, length_take]; omega
      have hln : tE (bb ((s :: l).take n)) = ig s := ve s l n (by rw [h1, kn]; omega);have hn : 7 + ig s <= 4 * n := by rw [h1, kn]; omega
      unfold rz at hr
      split at hr
      · cases hr
      · split at hr
        · cases hr
        · have hr := Except.ok.inj hr
          rw [<- hr];show ne ((((bb ((s :: l).take n)).drop 3).take (tE (bb ((s :: l).take n)))).length : Int) = _;rw [hln, length_take, length_drop, hdl, show min (ig s) (4 * n - 3) = ig s by omega, WO s h4, h1]
theorem jE (a : Int) (l : List Int) : ay (a :: l) = a + ay l := by
 have : ∀ (l : List Int) (z : Int), l.foldl (· + ·) z = z + l.foldl (· + ·) 0 := by
  intro l
  induction l with
  | nil => intro z; simp
  | cons b l ih => intro z; rw [foldl_cons, foldl_cons, ih, ih (0 + b)]; omega
 rw [ay, foldl_cons, this, ay]; omega
theorem rU : ∀ (f : Nat) (l : List au) (sq : Int), ay (eQ (dk f l sq).1) = ((dk f l sq).2 : Int) /\ (dk f l sq).2 <= l.length /\ ∀ x ∈ eQ (dk f l sq).1, 2 <= x /\ x <= 1026
 | 0, l, sq => by rw [dk]; exact ⟨rfl, zero_le _, fun x h => by cases h⟩
 | f + 1, l, sq => by
  rw [dk]
  split
  · exact ⟨rfl, zero_le _, fun x h => by cases h⟩
  · split
    · exact ⟨rfl, zero_le _, fun x h => by cases h⟩
    · rename_i r n hd
      split
      · exact ⟨rfl, zero_le _, fun x h => by cases h⟩
      · obtain ⟨a1, a2, a3⟩ := rU f (l.drop n) (sq + 1)
        have hn := tP hd;have hz := ME hd;have hs := EG (r.pay.length : Int);rw [length_drop] at a2;refine ⟨?_, by show n + _ <= _; omega, ?_⟩
        · show ay (ne (r.pay.length : Int) :: eQ (dk f (l.drop n) (sq + 1)).1) = ((n + (dk f (l.drop n) (sq + 1)).2 : Nat) : Int)
          rw [jE, a1, hz]; omega
        · intro x hx
          rcases mem_cons.1 (show x ∈ ne (r.pay.length : Int) :: eQ (dk f (l.drop n) (sq + 1)).1 from hx) with rfl | hx
          · omega
          · exact a3 x hx
theorem s6 : ∀ (l : List Int) (m : Nat), (∀ x ∈ l, 2 <= x /\ x <= 1026) -> 0 <= ay (l.take m) /\ ay (l.take m) <= ay l
 | [], m, _ => by rw [List.take_nil]; exact ⟨by decide, Int.le_refl _⟩
 | a :: l, 0, h => by
  have := s6 l 0 fun x hx => h x (mem_cons_of_mem _ hx);have ha := h a mem_cons_self;rw [take_zero] at this ⊢;rw [jE];have : ay ([] : List Int) = 0 := rfl;omega
 | a :: l, m + 1, h => by
  have := s6 l m fun x hx => h x (mem_cons_of_mem _ hx);have ha := h a mem_cons_self;rw [take_succ_cons, jE, jE];omega
theorem wQ (l : List Int) (x : Int) : ay (l ++ [x]) = ay l + x := by rw [ay, foldl_append]; rfl
theorem rR {n h : Int} (hn : 0 < n) (h0 : 0 <= h) (h1 : h < n) (l : List Int) : iq n h l = (h + ay l) % n := by
 suffices hh : ∀ m, iq n h (l.take m) = (h + ay (l.take m)) % n by
  have := hh l.length
  rwa [take_length] at this
 intro m
 induction m with
 | zero =>
  rw [take_zero];show h = (h + ay []) % n;rw [show ay ([] : List Int) = 0 from rfl, Int.add_zero, Int.emod_eq_of_lt h0 h1]
 | succ m ih =>
  by_cases hm : m < l.length
  · rw [take_succ_eq_append_getElem hm, lD, wQ, ih, Int.emod_add_emod, Int.add_assoc]
  · rw [take_of_length_le (by omega)] at ih ⊢
    exact ih
theorem pZ (f : Int) (l : List au) : (∀ x ∈ eQ (eC f l), 2 <= x /\ x <= 1026) /\ 0 <= ay (eQ (eC f l)) /\ ay (eQ (eC f l)) <= l.length /\ (eC f l).length <= (1073741824 - f).toNat /\ (eC f l).length <= l.length := by
 obtain ⟨a1, a2, a3⟩ := rU (l.length + 1) l f;have hle := nq (l.length + 1) l f;have e : eQ (eC f l) = (eQ (dm l f).1).take (min (dm l f).1.length (1073741824 - f).toNat) := by
  show eQ (((dm l f).1).take _) = _;rw [eQ, eQ, map_take]
 have b := s6 (eQ (dm l f).1) (min (dm l f).1.length (1073741824 - f).toNat) a3;have hc : ay (eQ (dm l f).1) = ((dm l f).2 : Int) := a1;have hd : (dm l f).2 <= l.length := a2;have hl : (eC f l).length = min (min (dm l f).1.length (1073741824 - f).toNat) (dm l f).1.length := by
  show (((dm l f).1).take _).length = _;rw [length_take]
 have hle' : (dm l f).1.length <= l.length := hle;rw [e];refine ⟨fun x hx => a3 x (mem_of_mem_take hx), b.1, by omega, by omega, by omega⟩
theorem zS {s c h f : Int} {l : List au} (hv : bf s c = true) (h0 : 0 <= h) (h1 : h < c - 16) (f1 : 1 <= f) (f2 : f <= 1073741824) (hl : (l.length : Int) = c - 16) : cE (jO s c h f (eC f l)) = true := by
 obtain ⟨a, b, d, e, g⟩ := pZ f l;have ht := rR (n := c - 16) (h := h) (by omega) h0 h1 (eQ (eC f l));have ha : (eQ (eC f l)).all jR = true := all_eq_true.2 fun x hx => by
  have := a x hx;simp [jR]; exact this
 have aT : ((eQ (eC f l)).length : Int) = (eC f l).length := by rw [eQ, length_map]
 simp only [cE, jO, hv, ha, ht, Bool.true_and, Bool.and_true, Bool.and_eq_true, decide_eq_true_eq, aT];exact ⟨⟨⟨⟨⟨⟨h0, h1⟩, f1⟩, f2⟩, by omega⟩, trivial⟩, by omega⟩
theorem sf (n : Nat) (hn : 0 < n) (tl nxt : Int) (ct : List au) : ∀ (i : Nat), i <= n -> ∀ p, p < n -> (eD n tl nxt ct i)[p]? = some (decide (((p : Int) - tl) % n < i) && decide (nxt <= (gn (ct.getD p aP) : Int)))
 | 0, _, p, hp => by
  have := Int.emod_nonneg ((p : Int) - tl) (show (n : Int) ≠ 0 by omega);rw [eD, getElem?_replicate, if_pos (by simpa using hp)]
  congr 1
  rw [decide_eq_false (by omega), Bool.false_and]
 | i + 1, hi, p, hp => by
  have hq0 := Int.emod_nonneg (tl + (i : Int)) (show (n : Int) ≠ 0 by omega);have hq1 := Int.emod_lt_of_pos (tl + (i : Int)) (show 0 < (n : Int) by omega);have hp0 := Int.emod_nonneg ((p : Int) - tl) (show (n : Int) ≠ 0 by omega);have hp1 := Int.emod_lt_of_pos ((p : Int) - tl) (show 0 < (n : Int) by omega);rw [eD]
  by_cases e : ((tl + (i : Int)) % (n : Int)).toNat = p
  · have e1 : ((p : Int) - tl) % n = i := by
     have : (p : Int) = (tl + (i : Int)) % (n : Int) := by omega
     rw [this, Int.emod_sub_emod, show tl + (i : Int) - tl = i by omega, Int.emod_eq_of_lt (by omega) (by omega)]
    rw [e, getElem?_set, if_pos rfl, if_pos (by rw [jh]; simpa using hp), e1, decide_eq_true (show (i : Int) < ((i + 1 : Nat) : Int) by omega), Bool.true_and]
  · have e1 : ((p : Int) - tl) % n ≠ i := fun q => e (by
     have : (tl + (i : Int)) % (n : Int) = p := by
      rw [<- q, Int.add_emod_emod, show tl + ((p : Int) - tl) = p by omega, Int.emod_eq_of_lt (by omega) (by omega)]
     rw [this]; simp)
    rw [getElem?_set_ne e, sf n hn tl nxt ct i (by omega) p hp]
    congr 2
    exact decide_eq_decide.2 (by omega)
theorem BA {n : Nat} {p : Nat} {at' sm : Int} (hn : 0 < n) (h0 : 0 <= sm) (h1 : sm <= n) : ((p : Int) - (at' + sm) % n) % n < n - sm ↔ ¬ ((p : Int) - at' + n) % n < sm := by
 have e1 : ((p : Int) - (at' + sm) % n) % n = (((p : Int) - at') % n - sm) % n := by
  rw [Int.sub_emod_emod, Int.emod_sub_emod]; congr 1; omega
 have e2 : ((p : Int) - at' + n) % n = ((p : Int) - at') % n := Int.add_emod_right ..;rw [e1, e2];have q0 := Int.emod_nonneg ((p : Int) - at') (show (n : Int) ≠ 0 by omega);have q1 := Int.emod_lt_of_pos ((p : Int) - at') (show 0 < (n : Int) by omega);generalize ((p : Int) - at') % n = q at q0 q1
 by_cases h : q < sm
 · have : (q - sm) % (n : Int) = q - sm + n := by
    rw [<- Int.add_emod_right];exact Int.emod_eq_of_lt (by omega) (by omega)
   rw [this]; omega
 · rw [Int.emod_eq_of_lt (by omega) (by omega)]; omega
def FT (j : bW) (ct : List au) : List Bool := eD (j.count - 16) j.tail (ax j) ct (gB j).toNat
theorem yU (j : bW) (ct : List au) : oL j ct = if dV j.start ((FT j ct).length + 1) (FT j ct) 0 = [] then [] else dV j.start ((FT j ct).length + 1) (FT j ct) 0 ++ [cO] := rfl
theorem zn (j : bW) (ct : List au) : (FT j ct).length = (j.count - 16).toNat := jh _ _ _ _ _
theorem KI {j : bW} (h : cE j = true) {ct : List au} {n : Nat} (hn : j.count - 16 = (n : Int)) (p : Nat) (hp : p < n) : (FT j ct)[p]? = some (!(decide (((p : Int) - j.head + n) % n < ay j.sizes) || decide ((gn (ct.getD p aP) : Int) < ax j))) := by
 have hs := kN h;have h1 := (bG j).1 h;obtain ⟨f, hf⟩ : ∃ f : Nat, gB j = (f : Int) := ⟨(gB j).toNat, by rw [gB]; omega⟩
 have hfj : j.count - 16 - ay j.sizes = (f : Int) := by rw [<- hf, gB]
 have e := BA (n := n) (p := p) (at' := j.head) (sm := ay j.sizes) (by omega) (by omega) (by omega);rw [FT, hf, Int.toNat_natCast, hn, sf n (by omega) _ _ _ f (by omega) p hp, h1.2.2.2.2, hn, show (f : Int) = n - ay j.sizes by omega]
 congr 1
 rw [Bool.eq_iff_iff];simp only [Bool.and_eq_true, decide_eq_true_eq, Bool.not_eq_true', Bool.or_eq_false_iff, decide_eq_false_iff_not];rw [e];omega
theorem nB {s c : Int} {d : Dk} (h : (cp s c d).2.2 ≠ 0) : cm s c d = (nd, [], [], (cp s c d).2.2) := by
 unfold cp at h ⊢;unfold cm
 by_cases h1 : aH d ≠ 0
 · rw [if_pos h1, if_pos h1]
 · rw [if_neg h1] at h ⊢
   rw [if_neg h1]
   by_cases h2 : bf s c = false \/ (d.stable.length : Int) < s + c
   · rw [if_pos h2, if_pos h2]
   · rw [if_neg h2] at h ⊢
     rw [if_neg h2, if_pos h]
theorem qk {s c : Int} {d : Dk} (h : (cp s c d).2.2 = 0) : bf s c = true /\ (0 <= (cp s c d).1 /\ (cp s c d).1 < c - 16 /\ 1 <= (cp s c d).2.1 /\ (cp s c d).2.1 <= 1073741824) /\ ((bD d (s + 16) (c - 16)).1.length : Int) = c - 16 ∧
 cm s c d = (jO s c (cp s c d).1 (cp s c d).2.1 (eC (cp s c d).2.1 (eN (cp s c d).1 (c - 16).toNat (bD d (s + 16) (c - 16)).1 (c - 16).toNat)),
  eC (cp s c d).2.1 (eN (cp s c d).1 (c - 16).toNat (bD d (s + 16) (c - 16)).1 (c - 16).toNat),
  oL (jO s c (cp s c d).1 (cp s c d).2.1 (eC (cp s c d).2.1 (eN (cp s c d).1 (c - 16).toNat (bD d (s + 16) (c - 16)).1 (c - 16).toNat))) (bD d (s + 16) (c - 16)).1, 0) := by
 by_cases h1 : aH d ≠ 0
 · rw [cp, if_pos h1] at h; exact absurd h h1
 by_cases h2 : bf s c = false \/ (d.stable.length : Int) < s + c
 · rw [cp, if_neg h1, if_pos h2] at h; cases h
 have e : cp s c d = c8 s c d := by rw [cp, if_neg h1, if_neg h2]
 rw [e] at h ⊢;have hh := vw h;have hv : bf s c = true := by
  cases hx : bf s c with
  | true => rfl
  | false => exact absurd (.inl hx) h2
 have hvi := (aM s c).1 hv;have hl : s + c <= (d.stable.length : Int) := by
  by_cases hq : (d.stable.length : Int) < s + c
  · exact absurd (.inr hq) h2
  · omega
 have hr : (bD d (s + 16) (c - 16)).2 = 0 := by
  rw [bD, if_neg h1, if_neg (by simp [bn]; omega)]
 have hn : ((bD d (s + 16) (c - 16)).1.length : Int) = c - 16 := by
  have := yX hr (show c - 16 = (((c - 16).toNat : Nat) : Int) by omega);omega
 refine ⟨hv, hh, hn, ?_⟩;unfold cm;rw [if_neg h1, if_neg h2, if_neg (by simp [h]), if_neg (by simp [hr])];dsimp only;rw [if_neg];rw [zS hv hh.1 hh.2.1 hh.2.2.1 hh.2.2.2 (by rw [iS]; omega)]
 decide
theorem rQ {H G L : Hp} {n : Nat} (h : G.take (H.length + n) = H ++ L) (k : Nat) (hk : k < n) : G[H.length + k]? = L[k]? := by
 have := congrArg (fun l : Hp => l[H.length + k]?) h;rw [getElem?_take, if_pos (by omega), aC] at this;exact this
section
theorem HB : ∀ n, 0 < (lX n).length := fun n => by
 by_cases h : n < 128
 · rw [iA h]; simp
 · rw [lg (by omega)]; simp
theorem FJ : ∀ (m f i n : Nat) (r : List UInt8), (0 < i -> 0 < m) -> n + m * 128 ^ i <= 9007199254740991 -> (lX m).length <= f -> iK f i n (lX m ++ r) = .ok (n + m * 128 ^ i, r) := by
 intro m
 induction m using Nat.strongRecOn with
 | ind m ih =>
  intro f i n r h0 h1 h2
  cases f with
  | zero => have := HB m; omega
  | succ f =>
   by_cases hm : m < 128
   · have hb : (UInt8.ofNat m).toNat = m := by rw [UInt8.toNat_ofNat']; omega
     rw [iA hm, cons_append, nil_append, iK, hb, if_pos hm, if_neg (by omega)]
   · have hb : (UInt8.ofNat (m % 128 + 128)).toNat = m % 128 + 128 := by rw [UInt8.toNat_ofNat']; omega
     have e1 : (m % 128 + 128) % 128 = m % 128 := by omega
     have e2 : n + m % 128 * 128 ^ i + m / 128 * 128 ^ (i + 1) = n + m * 128 ^ i := by
      have h3 : m = m % 128 + m / 128 * 128 := by omega
      have h4 : m * 128 ^ i = m % 128 * 128 ^ i + m / 128 * 128 * 128 ^ i := by rw [<- Nat.add_mul, <- h3]
      have h5 : m / 128 * 128 ^ (i + 1) = m / 128 * 128 * 128 ^ i := by rw [Nat.pow_succ, Nat.mul_comm (128 ^ i), Nat.mul_assoc]
      omega
     rw [lg (n := m) (by omega), length_cons] at h2;rw [lg (n := m) (by omega), cons_append, iK, hb, if_neg (by omega), e1, ih (m / 128) (by omega) f (i + 1) _ r (by omega) (by rw [e2]; exact h1) (by omega), e2]
theorem g7 (n : Int) (r : List UInt8) : bZ (dP n ++ r) = .ok (jf n, r) := by
 have h := FJ (jf n) 8 0 0 r (by omega) (by have := tA n; omega) (dA n);rw [bZ, dP, h]; simp
theorem sa : ∀ (f i n : Nat) (s : List UInt8) {m : Nat} {r : List UInt8}, iK f i n s = .ok (m, r) -> ∃ q, m = n + q * 128 ^ i /\ s = lX q ++ r /\ (0 < i -> 0 < q) /\ m <= 9007199254740991
 | 0, _, _, _, _, _, h => by rw [iK] at h; cases h
 | f + 1, _, _, [], _, _, h => by rw [iK] at h; cases h
 | f + 1, i, n, b :: s, m, r, h => by
  rw [iK] at h;have hb := b.toNat_lt
  split at h
  · rename_i h1
    split at h
    · cases h
    · rename_i h2
      cases h
      refine ⟨b.toNat, rfl, ?_, by omega, by omega⟩;rw [iA h1, UInt8.ofNat_toNat]; rfl
  · rename_i h1
    obtain ⟨q, h3, h4, h5, h6⟩ := sa f _ _ s h;have hq : 0 < q := h5 (by omega);refine ⟨b.toNat % 128 + q * 128, ?_, ?_, by omega, h6⟩
    · rw [h3, Nat.add_mul, Nat.pow_succ, Nat.mul_comm (128 ^ i), Nat.mul_assoc]; omega
    · rw [lg (by omega), show (b.toNat % 128 + q * 128) % 128 + 128 = b.toNat by omega, show (b.toNat % 128 + q * 128) / 128 = q by omega, UInt8.ofNat_toNat, h4]; rfl
theorem LZ {m : Nat} (h : m <= 9007199254740991) : dP (m : Int) = lX m := by
 rw [dP, jf, if_neg (by omega)]; rfl
theorem kC {s r : List UInt8} {m : Nat} (h : bZ s = .ok (m, r)) : s = dP m ++ r /\ m <= 9007199254740991 := by
 obtain ⟨q, h1, h2, _, h4⟩ := sa 8 0 0 s h;have : m = q := by simpa using h1
 subst this;exact ⟨by rw [LZ h4]; exact h2, h4⟩
def RT {α : Type} (p : Pr α) (e : α -> List UInt8) (h : α -> α) (A : α -> Prop) : Prop := ∀ a r, A a -> p (e a ++ r) = .ok (h a, r)
def ON {α : Type} (p : Pr α) (e : α -> List UInt8) : Prop := ∀ s a r, p s = .ok (a, r) -> s = e a ++ r
section
variable {α : Type} {p : Pr α} {e : α -> List UInt8} {h : α -> α} {A : α -> Prop}
theorem EZ (hp : RT p e h A) : ∀ (l : List α) (r : List UInt8), (∀ a ∈ l, A a) -> gG p l.length (l.flatMap e ++ r) = .ok (l.map h, r)
 | [], r, _ => by rw [length_nil, gG]; rfl
 | a :: l, r, hA => by
  rw [length_cons, gG, flatMap_cons, append_assoc, hp _ _ (hA a (by simp))];dsimp only;rw [EZ hp l r fun b hb => hA b (mem_cons_of_mem _ hb)]; rfl
theorem E0 (hp : ON p e) : ∀ (n : Nat) (s : List UInt8) (l : List α) (r : List UInt8), gG p n s = .ok (l, r) -> s = l.flatMap e ++ r /\ l.length = n
 | 0, s, l, r, hq => by rw [gG] at hq; cases hq; exact ⟨rfl, rfl⟩
 | n + 1, s, l, r, hq => by
  rw [gG] at hq
  split at hq
  · cases hq
  · rename_i a s1 h1
    split at hq
    · cases hq
    · rename_i l1 s2 h2
      cases hq
      obtain ⟨h3, h4⟩ := E0 hp n _ _ _ h2;exact ⟨by rw [hp _ _ _ h1, h3, flatMap_cons, append_assoc], by rw [length_cons, h4]⟩
theorem BV (n : Nat) (r : List UInt8) (hn : n <= 65536) : cT (dP n ++ r) = .ok (n, r) := by
 unfold cT;rw [g7];have : jf (n : Int) = n := by unfold jf; rw [if_neg (by omega)]; rfl
 dsimp only;rw [this, if_neg (by omega)]
theorem BW {s r : List UInt8} {n : Nat} (h : cT s = .ok (n, r)) : s = dP n ++ r := by
 unfold cT at h
 split at h
 · cases h
 · rename_i h1
   split at h
   · cases h
   · cases h; exact (kC h1).1
theorem zq (hp : RT p e h A) : ∀ (l : List α) (r : List UInt8), (l.length <= 65536 /\ ∀ a ∈ l, A a) -> cq p ((dP l.length ++ l.flatMap e) ++ r) = .ok (l.map h, r) := by
 intro l r ⟨hl, hA⟩;unfold cq;rw [append_assoc, BV _ _ hl];dsimp only;exact EZ hp l r hA
theorem zr (hp : ON p e) : ON (cq p) fun l => dP l.length ++ l.flatMap e := by
 intro s l r hq;unfold cq at hq
 split at hq
 · cases hq
 · rename_i h1
   obtain ⟨h2, h3⟩ := E0 hp _ _ _ _ hq;rw [BW h1, h2, <- h3, append_assoc]
end
theorem au.same {a b : au} (h : a.val = b.val) : a = b := by
 cases a; cases b; cases h; rfl
theorem O7 : RT lj au.val id fun _ => True := fun a r _ => by
 have := a.len;unfold lj;rw [dif_neg (by rw [length_append]; omega)];have h1 : (a.val ++ r).take 8 = a.val := by rw [take_append_of_le_length (by omega), take_of_length_le (by omega)]
 have h2 : (a.val ++ r).drop 8 = r := by rw [<- a.len, List.drop_left]
 rw [h2]
 congr 2
 exact au.same h1
theorem O8 : ON lj au.val := fun s a r h => by
 unfold lj at h
 split at h
 · cases h
 · cases h; exact (take_append_drop 8 s).symm
theorem JX (a b : Int) (r : List UInt8) : gY (dP a ++ dP b ++ r) = .ok ((jf a, jf b), r) := by
 unfold gY;rw [append_assoc, g7];dsimp only;rw [g7]
theorem JZ {s r : List UInt8} {a b : Nat} (h : gY s = .ok ((a, b), r)) : s = dP a ++ dP b ++ r := by
 unfold gY at h
 split at h
 · cases h
 · rename_i h1
   split at h
   · cases h
   · rename_i h2; cases h
     rw [(kC h1).1, (kC h2).1, append_assoc]
theorem WG : RT po iz (fun x => ⟨jf x.volume, jf x.start, x.data⟩) fun x => x.data.length <= 65536 := fun x r hx => by
 unfold po iz gM;rw [append_assoc, JX];dsimp only;rw [zq O7 _ _ ⟨hx, fun _ _ => trivial⟩, List.map_id]
theorem WH : ON po iz := fun s a r h => by
 unfold po at h
 split at h
 · cases h
 · rename_i h1
   split at h
   · cases h
   · rename_i h2; cases h
     unfold iz gM;rw [JZ h1, zr O8 _ _ _ h2];simp only [append_assoc]
end
theorem yO {sq : Nat} (hs : sq < 4294967296) (st : List UInt8) (i : Nat) : gn (gk sq st i) = sq := by
 have h : ∀ j, j < 4 -> sb (gk sq st i) j = sq / 256 ^ j % 256 := fun j hj => by
  rw [sb, mp];rcases j with _ | _ | _ | _ | j
  · simp [iR]
  · simp [iR]
  · simp [iR]
  · simp [iR]
  · omega
 rw [NZ, h 3 (by omega), h 2 (by omega), h 1 (by omega), h 0 (by omega)];omega
theorem mn (sq : Nat) (st : List UInt8) : (dD sq st).length = (st.length + 3) / 4 := by rw [dD, length_map, length_range]
theorem mo {sq : Nat} (hs : sq < 4294967296) {st : List UInt8} {x : au} (hx : x ∈ dD sq st) : gn x = sq := by
 obtain ⟨i, -, rfl⟩ := mem_map.1 hx; exact yO hs _ _
theorem zM (sq : Nat) (st : List UInt8) : ∀ k, k <= (st.length + 3) / 4 -> bb ((List.range k).map (gk sq st)) = st.take (4 * k) ++ List.replicate (4 * k - st.length) 0
 | 0, _ => by simp [bb]
 | k + 1, h => by
  have ih := zM sq st k (by omega);have e : bb ((List.range (k + 1)).map (gk sq st)) = bb ((List.range k).map (gk sq st)) ++ (gk sq st k).val.drop 4 := by
   rw [range_succ, map_append, bb, flatMap_append]; simp [bb]
  have hk : 4 * k < st.length := by omega
  rw [e, ih, mp, drop_append_of_le_length (by rw [de]; exact le_refl _), drop_of_length_le (by rw [de]; exact le_refl _), nil_append];rw [show 4 * k - st.length = 0 by omega, List.replicate_zero, append_nil, <- append_assoc];have e2 : st.take (4 * k) ++ jL st 4 k = st.take (4 * (k + 1)) := by rw [jL, Nat.mul_succ, List.take_add]
  rw [e2]
  congr 2
  rw [jL, length_take, length_drop]; omega
theorem KS {x : Nat} (h : x < 4294967296) : j9 (iR x) = x := by
 simp [j9, iR]; omega
theorem pI (sq : Nat) {st : List UInt8} (h : 1 <= st.length) : ∃ tl, dD sq st = gk sq st 0 :: tl := by
 obtain ⟨m, hm⟩ : ∃ m, (st.length + 3) / 4 = m + 1 := ⟨(st.length + 3) / 4 - 1, by omega⟩
 exact ⟨_, by rw [dD, hm, List.range_succ_eq_map, map_cons]⟩
theorem F2 (sq : Nat) {k : Int} {p : List UInt8} (hp : p.length <= 4096) : ig (gk sq (bA k p) 0) = p.length := by
 rw [ig, mp];simp [jL, bA, gD, iR];omega
theorem MD {k : Int} {sq : Nat} {p : List UInt8} (hk : 1 <= k) (hk2 : k <= 255) (hs : 1 <= sq) (hs2 : sq < 4294967296) (hp : p.length <= 4096) (rest : List au) :
 gx (dD sq (bA k p) ++ rest) = .ok (⟨k, sq, p⟩, (dD sq (bA k p)).length) := by
 have hl := mn sq (bA k p);have hst := fR k p;obtain ⟨tl, htl⟩ := pI sq (st := bA k p) (by omega);have hd := zM sq (bA k p) _ (le_refl _);have hall : ∀ x ∈ dD sq (bA k p), gn x = sq := fun x hx => mo hs2 hx;rw [show (List.range (((bA k p).length + 3) / 4)).map (gk sq (bA k p)) = dD sq (bA k p) from rfl, <- hl, take_of_length_le (by omega)] at hd;have hlr := F2 sq (k := k) hp;have hg0 : gn (gk sq (bA k p) 0) = sq := yO hs2 _ _;have hsz : kn (gk sq (bA k p) 0) = (dD sq (bA k p)).length := by rw [kn, hlr]; omega
 have hb : kR (gk sq (bA k p) 0 :: (tl ++ rest)) = .ok (dD sq (bA k p)).length := by
  rw [<- hsz];refine tZ (by omega) (by omega) ?_ ?_
  · rw [hsz, htl]; simp
  · rw [hsz, <- cons_append, <- htl, take_left, all_eq_true]
    intro x hx; rw [hall x hx, hg0]; simp
 rw [gx, htl, cons_append, hb, <- htl];have htk : (gk sq (bA k p) 0 :: (tl ++ rest)).take (dD sq (bA k p)).length = dD sq (bA k p) := by
  rw [<- cons_append, <- htl, take_left]
 dsimp only;rw [htk, hd, List.getD_cons_zero, hg0];generalize 4 * (dD sq (bA k p)).length - (bA k p).length = z;have hln : tE (bA k p ++ List.replicate z 0) = p.length := by
  rw [tE]; simp [bA, gD, j9]; omega
 have hcr := (HQ (gD k p)).isLt;have e1 : (bA k p ++ List.replicate z 0).take (3 + p.length) = gD k p := by
  rw [bA, append_assoc, take_append_of_le_length (by rw [ia]; omega), take_of_length_le (by rw [ia]; omega)]
 have e2 : ((bA k p ++ List.replicate z 0).drop (3 + p.length)).take 4 = iR (HQ (gD k p)).toNat := by
  rw [bA, append_assoc, drop_append_of_le_length (by rw [ia]; omega), drop_of_length_le (by rw [ia]; omega), nil_append, take_append_of_le_length (by rw [de]; exact le_refl _), take_of_length_le (by rw [de]; exact le_refl _)]
 have e3 : (bA k p ++ List.replicate z 0).drop (7 + p.length) = List.replicate z 0 := by
  rw [drop_append_of_le_length (by omega), drop_of_length_le (by omega), nil_append]
 have e4 : j9 ((bA k p ++ List.replicate z 0).take 1) = (wH k).toNat := by
  simp [bA, gD, j9]
 have hby := fJ k;rw [yW]
 · rw [hln, e4]
   have ek : (((wH k).toNat : Nat) : Int) = k := by omega
   have ep : ((bA k p ++ List.replicate z 0).drop 3).take p.length = p := by
    rw [bA, gD]; simp
   rw [ek, ep]
 · rw [hln, e1, e2, KS hcr]; simp
 · rw [hln, e3, e4]
   rintro (h | h)
   · rw [any_eq_true] at h
     obtain ⟨x, hx, hx2⟩ := h;rw [(mem_replicate.1 hx).2] at hx2;exact absurd hx2 (by decide)
   · omega
def eW (r : cV) : List au := dD r.sq.toNat (bA r.kind r.pay)
structure kT (f : Int) (rs : List cV) : Prop where
 kd : ∀ r ∈ rs, 1 <= r.kind /\ r.kind <= 255 /\ r.pay.length <= 4096
 sq : ∀ (i : Nat) (h : i < rs.length), rs[i].sq = f + i
theorem kT.nil (f : Int) : kT f [] := ⟨fun r h => (by cases h), fun i h => absurd h (Nat.not_lt_zero _)⟩
theorem kT.tail {f : Int} {r : cV} {rs : List cV} (h : kT f (r :: rs)) : kT (f + 1) rs :=
 ⟨fun x hx => h.kd x (mem_cons_of_mem _ hx), fun i hi => by
  have := h.sq (i + 1) (by rw [length_cons]; omega);rw [List.getElem_cons_succ] at this;rw [this]; omega⟩
theorem kT.head {f : Int} {r : cV} {rs : List cV} (h : kT f (r :: rs)) : r.sq = f := by
 have := h.sq 0 (by simp)
 simpa using this
theorem kT.drop {f : Int} {rs : List cV} (h : kT f rs) (n : Nat) : kT (f + n) (rs.drop n) :=
 ⟨fun x hx => h.kd x (mem_of_mem_drop hx), fun i hi => by
  rw [length_drop] at hi;rw [getElem_drop, h.sq (n + i) (by omega)]; omega⟩
theorem kT.snoc {f : Int} {rs : List cV} (h : kT f rs) {r : cV} (h1 : 1 <= r.kind /\ r.kind <= 255 /\ r.pay.length <= 4096) (h2 : r.sq = f + rs.length) : kT f (rs ++ [r]) :=
 ⟨fun x hx => by
  rcases mem_append.1 hx with hx | hx
  · exact h.kd x hx
  · rw [mem_singleton] at hx; rw [hx]; exact h1, fun i hi => by
  rw [length_append, length_singleton] at hi
  by_cases e : i < rs.length
  · rw [List.getElem_append_left e]; exact h.sq i e
  · rw [List.getElem_append_right (by omega)]
    have : i = rs.length := by omega
    subst this
    simpa using h2⟩
theorem HD {r : cV} (h : r.pay.length <= 4096) : ((eW r).length : Int) = ne (r.pay.length : Int) := by
 rw [eW, mn, fR, ne, if_neg (by omega)]; omega
theorem lb : ∀ rs : List cV, (∀ r ∈ rs, 1 <= r.kind /\ r.kind <= 255 /\ r.pay.length <= 4096) -> ((rs.flatMap eW).length : Int) = ay (eQ rs)
 | [], _ => rfl
 | r :: rs, h => by
  have := lb rs fun x hx => h x (mem_cons_of_mem _ hx);rw [flatMap_cons, length_append, show eQ (r :: rs) = ne (r.pay.length : Int) :: eQ rs from rfl, iU, <- this, <- HD (h r mem_cons_self).2.2];omega
theorem GX {f : Int} {rs : List cV} (h : kT f rs) (h1 : 1 <= f) (h2 : f + rs.length <= 4294967296) {x : au} (hx : x ∈ rs.flatMap eW) : (gn x : Int) < f + rs.length := by
 obtain ⟨r, hr, hx⟩ := List.mem_flatMap.1 hx;obtain ⟨i, hi, rfl⟩ := getElem_of_mem hr;have := h.sq i hi;rw [mo (by omega) hx];omega
theorem yP : ∀ (rs : List cV) (f : Int) (fu : Nat) (R : List au), kT f rs -> 1 <= f -> f + rs.length <= 4294967296 -> rs.length <= fu -> (∀ g, (dk g R (f + rs.length)).1 = []) -> (dk fu (rs.flatMap eW ++ R) f).1 = rs
 | [], f, fu, R, _, _, _, _, hs => by
  have := hs fu
  simpa using this
 | r :: rs, f, 0, R, h, h1, h2, h3, hs => by rw [length_cons] at h3; omega
 | r :: rs, f, fu + 1, R, h, h1, h2, h3, hs => by
  rw [length_cons] at h2 h3 hs;have hk := h.kd r mem_cons_self;have hq := h.head;have hd := MD (k := r.kind) (sq := r.sq.toNat) (p := r.pay) hk.1 hk.2.1 (by omega) (by omega) hk.2.2 (rs.flatMap eW ++ R);rw [dk, if_neg (by omega), flatMap_cons, append_assoc, show eW r = dD r.sq.toNat (bA r.kind r.pay) from rfl, hd];dsimp only;rw [if_neg (by rw [hq]; omega), List.drop_left, yP rs (f + 1) fu R h.tail (by omega) (by omega) (by omega) (fun g => by
   have := hs g
   rwa [show f + 1 + (rs.length : Int) = f + ((rs.length + 1 : Nat) : Int) by omega])]
  obtain ⟨k, q, p⟩ := r;dsimp only at hq ⊢;rw [Int.toNat_of_nonneg (by omega)]
def TC (nx : Int) (l R : List au) : Prop := (∀ (i : Nat) x, R[i]? = some x -> (gn x : Int) < nx \/ l[i]? = some x) /\ (l = [] \/ ∃ i, i < l.length /\ R[i]? ≠ l[i]?)
def aa8 (nx : Int) (l : List au) : Prop := l = [] \/ ∃ (k : Int) (p : List UInt8), p.length <= 4096 /\ l = dD nx.toNat (bA k p)
theorem H6 {s : au} {l : List au} {n : Nat} (h : kR (s :: l) = .ok n) : ∀ x ∈ (s :: l).take n, gn x = gn s := by
 obtain ⟨h1, h2, h3, h4⟩ := jy h;subst h1
 cases ha : ((s :: l).take (kn s)).all (fun x => gn x == gn s) with
 | false => rw [nZ h3 (by omega) (by omega) ha] at h; cases h
 | true =>
  rw [all_eq_true] at ha;intro x hx
  simpa using ha x hx
theorem JP {nx : Int} {l R : List au} (h : TC nx l R) (hl : aa8 nx l) (h1 : 1 <= nx) (h2 : nx < 4294967296) : ∀ g, (dk g R nx).1 = []
 | 0 => rfl
 | g + 1 => by
  rw [dk, if_neg (by omega)]
  cases hd : gx R with
  | error e => rfl
  | ok x =>
   obtain ⟨r, n⟩ := x;dsimp only;rw [if_pos];intro hr
   cases R with
   | nil => rw [gx, qX] at hd; cases hd
   | cons s R =>
    unfold gx at hd
    split at hd
    · cases hd
    · rename_i m hm
      split at hd
      · cases hd
      · rename_i r' hrec
        obtain ⟨rfl, rfl⟩ : r' = r /\ m = n := by simpa using hd
        have hsq : r'.sq = (gn s : Int) := by
         rw [List.getD_cons_zero] at hrec;unfold rz at hrec
         split at hrec
         · cases hrec
         · split at hrec
           · cases hrec
           · cases hrec; rfl
        obtain ⟨b1, b2, b3, b4⟩ := jy hm;have b5 := H6 hm;have hg : (gn s : Int) = nx := by rw [<- hsq, hr]
        have h0 := (h.1 0 s rfl).resolve_left (by omega);rcases hl with rfl | ⟨k, p, hp, rfl⟩
        · cases h0
        obtain ⟨tl, htl⟩ := pI nx.toNat (st := bA k p) (by rw [fR]; omega);have hs0 : s = gk nx.toNat (bA k p) 0 := by
         rw [htl] at h0
         simpa using h0.symm
        have hlr := F2 nx.toNat (k := k) hp;have hn : m = (dD nx.toNat (bA k p)).length := by rw [b1, kn, hs0, hlr, mn, fR]
        rcases h.2 with h3 | ⟨i, hi, h3⟩
        · rw [htl] at h3; cases h3
        rw [<- hn] at hi;have hil : i < (s :: R).length := by omega
        have hx : (s :: R)[i]? = some (s :: R)[i] := getElem?_eq_getElem hil;rcases h.1 i _ hx with h4 | h4
        · have := b5 (s :: R)[i] (mem_of_getElem? (i := i) (by rw [getElem?_take, if_pos hi, hx]))
          omega
        · exact h3 (hx.trans h4.symm)
def cN (h n i : Nat) : Nat := if h + i < n then h + i else h + i - n
theorem fg {h n i : Nat} (hh : h < n) (hi : i <= n) : cN h n i < n := by unfold cN; split <;> omega
theorem p9 {h n i k : Nat} (hh : h < n) (hi : i < n) (hk : k < n) (e : cN h n i = cN h n k) : i = k := by
 unfold cN at e; split at e <;> split at e <;> omega
theorem E8 {h n i : Nat} (hh : h < n) (hi : i <= n) : (h + i) % n = cN h n i := by
 unfold cN
 split
 · exact Nat.mod_eq_of_lt (by assumption)
 · rw [Nat.mod_eq_sub_mod (by omega), Nat.mod_eq_of_lt (by omega)]
theorem nz {h n i : Nat} (hh : h < n) (hi : i <= n) : ((h : Int) + (i : Int)) % (n : Int) = ((cN h n i : Nat) : Int) := by
 rw [<- E8 hh hi]; simp
def cM (s : List au) (b h n : Nat) : List au := (List.range n).map fun i => s.getD (b + cN h n i) aP
theorem bz (s : List au) (b h n : Nat) : (cM s b h n).length = n := by rw [cM, length_map, length_range]
theorem cy {s : List au} {b h n : Nat} (hl : b + n <= s.length) (hh : h < n) {i : Nat} (hi : i < n) : (cM s b h n)[i]? = s[b + cN h n i]? := by
 have := fg hh (Nat.le_of_lt hi);rw [cM, getElem?_map, List.getElem?_range hi, Option.map_some, getD_eq_getElem?_getD, getElem?_eq_getElem (by omega), Option.getD_some]
theorem z7 {s : List au} {b h n : Nat} (hl : b + n <= s.length) (hh : h < n) : eN (h : Int) n ((s.drop b).take n) n = cM s b h n := by
 rw [eN, cM];refine map_congr_left fun k hk => ?_;rw [mem_range] at hk;have := fg hh (Nat.le_of_lt hk);rw [nz hh (Nat.le_of_lt hk), Int.toNat_natCast, getD_eq_getElem?_getD, getD_eq_getElem?_getD, getElem?_take, if_pos this, getElem?_drop]
def j8 (s : List au) (j : bW) : List au := cM s (j.start.toNat + 16) j.head.toNat (j.count - 16).toNat
structure RJ (s : List au) (j : bW) (rs : List cV) (l : List au) (T : Nat) : Prop where
 jd : JD s j T
 sz : j.sizes = eQ rs
 rc : kT j.first rs
 lk : aa8 (ax j) l
 ring : ∃ R, j8 s j = rs.flatMap eW ++ R /\ TC (ax j) l R
structure RV (s : List au) (j : bW) (rs : List cV) (st n hd u : Nat) : Prop where
 est : j.start = st
 ect : j.count = (n : Int) + 16
 ehd : j.head = hd
 esu : ay j.sizes = u
 efl : (rs.flatMap eW).length = u
 eun : u <= n
 ehn : hd < n
 etl : j.tail = cN hd n u
 en4 : 4 <= n
 en5 : n <= 4096
 els : st + 16 + n <= s.length
 el4 : s.length <= 4096
 ef1 : 1 <= j.first
 enx : ax j <= 1073741824
 enl : ax j = j.first + rs.length
 erg : j8 s j = cM s (st + 16) hd n
theorem RJ.val {s : List au} {j : bW} {rs : List cV} {l : List au} {T : Nat} (h : RJ s j rs l T) : ∃ st n hd u, RV s j rs st n hd u := by
 obtain ⟨st, n, e1, e2, h4, h5, h6, h7, h8⟩ := h.jd.val;have hf := lb rs h.rc.kd;have hc := (bG j).1 h.jd.chk;have hp := (dF j).1 hc.2.1;rw [<- h.sz] at hf;have hl : j.sizes.length = rs.length := by rw [h.sz, eQ, length_map]
 obtain ⟨hd, hhd⟩ : ∃ hd : Nat, j.head = hd := ⟨j.head.toNat, by omega⟩
 refine ⟨st, n, hd, (rs.flatMap eW).length, e1, e2, hhd, hf.symm, rfl, by omega, by omega, ?_, h4, h5, h7, h8, hp.2.2.1, ?_, ?_, ?_⟩
 · rw [hc.2.2.2.2, <- hf, show j.count - 16 = (n : Int) by omega, hhd, nz (by omega) (by omega)]
 · unfold ax; omega
 · unfold ax; omega
 · rw [j8, e1, hhd, show (j.count - 16).toNat = n by omega]; rfl
theorem mA {n : Int} (h0 : 0 <= n) (h1 : n <= 9007199254740991) : ((jf n : Nat) : Int) = n := by
 unfold jf; split <;> omega
theorem vu {c h f : Int} (h0 : 0 <= h) (h1 : h < c - 16) (h2 : c <= 4096) (f0 : 1 <= f) (f1 : f <= 1073741824) : ga c (bk h f) = (h, f, 0) := by
 have e2 : bZ (dP f) = .ok (jf f, []) := by have := g7 f []; rwa [append_nil] at this
 have n1 := mA h0 (by omega : h <= 9007199254740991);have n2 := mA (by omega : 0 <= f) (by omega : f <= 9007199254740991);rw [ga, bk, g7];dsimp only;rw [e2];dsimp only;rw [if_neg (by rw [n1, n2]; simp; omega), n1, n2]
theorem RJ.open {s : List au} {j : bW} {rs : List cV} {l : List au} {T : Nat} (h : RJ s j rs l T) :
 cm j.start j.count ⟨s, []⟩ = (j, rs, oL j ((s.drop (j.start.toNat + 16)).take (j.count - 16).toNat), 0) := by
 obtain ⟨st, n, hd, u, v⟩ := h.val;have hJ := h.jd.chk;have hc := (bG j).1 hJ;have hp := (dF j).1 hc.2.1;obtain ⟨g, hg⟩ := h.jd.gd;obtain ⟨v1, v2, v3, v4, v5, v6, v7, v8, v9, v10, v11, v12, v13, v14, v15, v16⟩ := v;have hk : aH ⟨s, []⟩ = 0 := dg v12;have oq : eE ⟨s, []⟩ j.start = (bk j.head j.first, g, 0) := by
  have := hg.load
  rwa [show ((j.start.toNat : Nat) : Int) = j.start by omega] at this
 have hhead : c8 j.start j.count ⟨s, []⟩ = (j.head, j.first, 0) := by
  rw [c8, oq, if_neg (by simp)];exact vu hp.1 hp.2.1 (by omega) hp.2.2.1 hp.2.2.2.1
 have hrd : bD ⟨s, []⟩ (j.start + 16) (j.count - 16) = ((s.drop (st + 16)).take n, 0) := by
  rw [bD, if_neg (by simp [hk]), if_neg (by simp [bn]; omega), show (j.start + 16).toNat = st + 16 by omega, show (j.count - 16).toNat = n by omega]; rfl
 have hst : j.start.toNat = st := by omega
 have hcn : (j.count - 16).toNat = n := by omega
 obtain ⟨R, hR, hT⟩ := h.ring;have hturn : eN j.head n ((s.drop (st + 16)).take n) n = rs.flatMap eW ++ R := by
  rw [v3, z7 (by omega) v7, <- v16, hR]
 have hrl : (rs.flatMap eW ++ R).length = n := by rw [<- hR, v16, bz]
 have hrr := lb rs h.rc.kd;have hge := eY j.sizes hc.2.2.1;rw [<- h.sz] at hrr;have hszl : j.sizes.length = rs.length := by rw [h.sz, eQ, length_map]
 have hsc : (dm (rs.flatMap eW ++ R) j.first).1 = rs := by
  refine yP rs j.first _ R h.rc v13 (by omega) (by rw [hrl]; omega) fun g => ?_;rw [<- v15];exact JP hT h.lk (by omega) (by omega) g
 have hrec : eC j.first (eN j.head n ((s.drop (st + 16)).take n) n) = rs := by
  rw [hturn, eC, hsc];refine take_of_length_le ?_;have := hp.2.2.2.2;omega
 have hjo : jO j.start j.count j.head j.first rs = j := by
  rw [jO, <- h.sz, rR (by omega) hp.1 hp.2.1, <- hc.2.2.2.2]
 have hfin : cm j.start j.count ⟨s, []⟩ = (jO j.start j.count j.head j.first rs, rs, oL (jO j.start j.count j.head j.first rs) ((s.drop (st + 16)).take n), 0) := by
  unfold cm;rw [hhead, hrd];dsimp only;rw [hcn, hrec, hjo, if_neg (by simp [hk]), if_neg (by simp only [hc.1]; simp; omega), if_neg (by simp), if_neg (by simp), hJ, if_neg (by simp)]
 rw [hfin, hjo, hst, hcn]
def eA (s : List au) (P : Nat -> au -> Prop) (s' : List au) : Prop := s'.length = s.length /\ ∀ q, s'[q]? = s[q]? \/ ∃ x, P q x /\ s'[q]? = some x
def io (ws : List bO) (q : Nat) (x : au) : Prop := ∃ (a : Nat) (l : List au) (i : Nat), dG a l ∈ ws /\ l[i]? = some x /\ q = a + i
theorem eA.refl (s : List au) (P : Nat -> au -> Prop) : eA s P s := ⟨rfl, fun _ => .inl rfl⟩
def en (n : Nat) (ws : List bO) : Prop := ∀ o ∈ ws, ∃ (a : Nat) (l : List au), o = dG a l /\ a + l.length <= n
theorem en.ok {n : Nat} {ws : List bO} (h : en n ws) : ∀ o ∈ ws, yh n o := fun o ho => .inr (h o ho)
theorem fv : ∀ (ws : List bO) (s : List au), en s.length ws -> eA s (io ws) (a8 s ws)
 | [], s, _ => .refl _ _
 | o :: ws, s, h => by
  obtain ⟨a, l, rfl, hl⟩ := h o (by simp);have ih := fv ws (nA s a l) (fun x hx => by rw [fY]; exact h x (by simp [hx]));rw [gK];refine ⟨by rw [ih.1, fY], fun q => ?_⟩;rcases ih.2 q with e | ⟨x, ⟨a', l', i, m1, m2, m3⟩, e⟩
  · rw [e, fZ hl]
    by_cases c : a <= q /\ q < a + l.length
    · rw [if_pos c]
      right
      exact ⟨l[q - a], ⟨a, l, q - a, by simp, getElem?_eq_getElem (by omega), by omega⟩, getElem?_eq_getElem (by omega)⟩
    · rw [if_neg c]; exact .inl rfl
  · exact .inr ⟨x, ⟨a', l', i, by simp [m1], m2, m3⟩, e⟩
theorem qI : ∀ (ws : List bO) (s : List au), en s.length ws -> ∀ (q : Nat) (x : au), (∀ y, io ws q y -> y = x) -> (io ws q x \/ s[q]? = some x) -> (a8 s ws)[q]? = some x
 | [], s, _, q, x, _, h => by
  rcases h with ⟨a, l, i, m, _⟩ | h
  · cases m
  · exact h
 | o :: ws, s, h, q, x, hu, hx => by
  obtain ⟨a, l, rfl, hl⟩ := h o (by simp);rw [gK];refine qI ws (nA s a l) (fun y hy => by rw [fY]; exact h y (by simp [hy])) q x (fun y ⟨a', l', i, m1, m2, m3⟩ => hu y ⟨a', l', i, by simp [m1], m2, m3⟩) ?_;have key : a <= q /\ q < a + l.length -> (nA s a l)[q]? = some x := fun c => by
   rw [fZ hl, if_pos c, getElem?_eq_getElem (by omega)]
   congr 1
   exact hu _ ⟨a, l, q - a, by simp, getElem?_eq_getElem (by omega), by omega⟩
  by_cases c : a <= q /\ q < a + l.length
  · exact .inr (key c)
  · rcases hx with ⟨a', l', i, m1, m2, m3⟩ | hx
    · rcases mem_cons.1 m1 with e | m1
      · simp only [dG, bO.mk.injEq] at e
        obtain ⟨-, e1, rfl⟩ := e;have : i < l'.length := (List.getElem?_eq_some_iff.1 m2).1;exact absurd ⟨by omega, by omega⟩ c
      · exact .inl ⟨a', l', i, m1, m2, m3⟩
    · right; rw [fZ hl, if_neg c, hx]
theorem jN {a b : Nat} {l m : List au} (h : dG a l = dG b m) : a = b /\ l = m := by
 simp only [dG, bO.mk.injEq] at h;exact ⟨by omega, h.2.2⟩
theorem o7 (a : Nat) (l : List au) {x : Int} (h : x = (a : Int)) : dG x l = dG a l := by rw [h]
theorem I7 {s : List au} {j : bW} {rs : List cV} {st n hd u : Nat} (v : RV s j rs st n hd u) {l : List au} (hl : u + l.length <= n) (h1 : 1 <= l.length) :
 en s.length (dQ j.start j.count j.tail l) /\ (∀ q x, io (dQ j.start j.count j.tail l) q x ↔ ∃ i, i < l.length /\ l[i]? = some x /\ q = st + 16 + cN hd n (u + i)) := by
 obtain ⟨v1, v2, v3, v4, v5, v6, v7, v8, v9, v10, v11, v12, v13, v14, v15, v16⟩ := v;have hk : kW j.count j.tail l = min l.length (n - cN hd n u) := by
  have := fg v7 v6;rw [kW, v2, v8]; omega
 have ht := fg v7 v6;have bY : ∀ i, i < l.length -> cN hd n (u + i) = if i < n - cN hd n u then cN hd n u + i else cN hd n u + i - n := fun i hi => by
  unfold cN at ht ⊢
  split <;> split <;> split <;> omega
 generalize cN hd n u = t at *;have e1 : dG (j.start + 16 + j.tail) (l.take (kW j.count j.tail l)) = dG ((st + 16 + t : Nat) : Int) (l.take (kW j.count j.tail l)) := o7 _ _ (by omega);have e2 : dG (j.start + 16) (l.drop (kW j.count j.tail l)) = dG ((st + 16 : Nat) : Int) (l.drop (kW j.count j.tail l)) := o7 _ _ (by omega)
 by_cases hlt : kW j.count j.tail l < l.length
 · rw [sY hlt, e1, e2]
   generalize kW j.count j.tail l = k at *;have hkk : k = n - t := by omega
   refine ⟨fun o ho => ?_, fun q x => ⟨?_, ?_⟩⟩
   · simp only [mem_cons, not_mem_nil, or_false] at ho
     rcases ho with rfl | rfl
     · exact ⟨_, _, rfl, by rw [length_take]; omega⟩
     · exact ⟨_, _, rfl, by rw [length_drop]; omega⟩
   · rintro ⟨a, m, i, m1, m2, rfl⟩
     simp only [mem_cons, not_mem_nil, or_false] at m1;rcases m1 with m1 | m1
     · obtain ⟨rfl, rfl⟩ := jN m1
       rw [getElem?_take] at m2
       split at m2
       · have := (List.getElem?_eq_some_iff.1 m2).1
         refine ⟨i, this, m2, ?_⟩;rw [bY i this, if_pos (by omega)]; omega
       · cases m2
     · obtain ⟨rfl, rfl⟩ := jN m1
       rw [getElem?_drop] at m2;have := (List.getElem?_eq_some_iff.1 m2).1;refine ⟨k + i, this, m2, ?_⟩;rw [bY (k + i) this, if_neg (by omega)]; omega
   · rintro ⟨i, hi, m2, rfl⟩
     rw [bY i hi]
     by_cases c : i < n - t
     · rw [if_pos c]
       exact ⟨_, _, i, mem_cons_self, by rw [getElem?_take, if_pos (by omega), m2], by omega⟩
     · rw [if_neg c]
       exact ⟨_, _, i - k, mem_cons_of_mem _ mem_cons_self, by rw [getElem?_drop, show k + (i - k) = i by omega, m2], by omega⟩
 · rw [oV hlt, e1]
   generalize kW j.count j.tail l = k at *;have hkk : k = l.length := by omega
   subst hkk;rw [take_length];refine ⟨fun o ho => ?_, fun q x => ⟨?_, ?_⟩⟩
   · rw [mem_singleton] at ho; subst ho
     exact ⟨_, _, rfl, by omega⟩
   · rintro ⟨a, m, i, m1, m2, rfl⟩
     rw [mem_singleton] at m1;obtain ⟨rfl, rfl⟩ := jN m1;have := (List.getElem?_eq_some_iff.1 m2).1;refine ⟨i, this, m2, ?_⟩;rw [bY i this, if_pos (by omega)]; omega
   · rintro ⟨i, hi, m2, rfl⟩
     rw [bY i hi, if_pos (by omega)];exact ⟨_, _, i, mem_singleton.2 rfl, m2, by omega⟩
theorem pT {a b R : List au} {r : List au} (h : r = a ++ R) (r' : List au) (hl : r'.length = r.length) (hk : ∀ i, i < a.length -> r'[i]? = r[i]?) : r' = a ++ r'.drop a.length := by
 refine ext_getElem? fun i => ?_
 by_cases c : i < a.length
 · rw [hk i c, h, getElem?_append_left c, getElem?_append_left c]
 · rw [getElem?_append_right (by omega), getElem?_drop]; congr 1; omega
theorem td {s s' : List au} {j : bW} {T : Nat} {P : Nat -> au -> Prop} (h : JD s j T) (hm : eA s P s') (hP : ∀ q x, P q x -> j.start.toNat + 16 <= q) (j' : bW) (hc : cE j' = true) (e1 : j'.start = j.start) (e2 : j'.count = j.count) (e3 : j'.head = j.head) (e4 : j'.first = j.first) : JD s' j' T := by
 obtain ⟨g, hg⟩ := h.gd;refine ⟨hc, by rw [e1, e2, hm.1]; exact h.len, g, ?_⟩;rw [e1, e3, e4];refine hg.keep hm.1 fun q q1 q2 => ?_;rcases hm.2 q with e | ⟨x, hx, -⟩
 · exact e
 · have := hP q x hx; omega
theorem EV {s s' : List au} {j : bW} {T : Nat} (h : JD s j T) (hl : s'.length = s.length) (hk : ∀ q, j.start.toNat <= q -> q < j.start.toNat + 16 -> s'[q]? = s[q]?) : JD s' j T := by
 obtain ⟨g, hg⟩ := h.gd;exact ⟨h.chk, by rw [hl]; exact h.len, g, hg.keep hl hk⟩
theorem RJ.app {s : List au} {j : bW} {rs : List cV} {T : Nat} (h : RJ s j rs [] T) {k : Int} {p : List UInt8} {l : List au} (he : hO ⟨k, ax j, p⟩ = .ok l) (h1 : ¬ 1073741824 <= ax j) (h2 : ¬ gB j < l.length) :
 en s.length (dQ j.start j.count j.tail l) /\ (∀ q x, io (dQ j.start j.count j.tail l) q x -> j.start.toNat + 16 <= q /\ q < j.start.toNat + j.count.toNat) ∧
 (∀ s', eA s (io (dQ j.start j.count j.tail l)) s' →
  RJ s' j rs l T \/ RJ s' ⟨j.start, j.count, j.head, (j.tail + l.length) % (j.count - 16), j.first, j.sizes ++ [(l.length : Int)]⟩ (rs ++ [⟨k, ax j, p⟩]) [] T) ∧
 RJ (a8 s (dQ j.start j.count j.tail l)) ⟨j.start, j.count, j.head, (j.tail + l.length) % (j.count - 16), j.first, j.sizes ++ [(l.length : Int)]⟩ (rs ++ [⟨k, ax j, p⟩]) [] T := by
 obtain ⟨st, n, hd, u, v⟩ := h.val;have hbad : ¬ (k < 1 \/ 255 < k \/ ax j < 1 \/ 4294967295 < ax j) := fun c => by rw [mR (r := ⟨k, ax j, p⟩) c] at he; cases he
 have hlong : ¬ 4096 < p.length := fun c => by rw [vI (r := ⟨k, ax j, p⟩) hbad c] at he; cases he
 have hel : l = dD (ax j).toNat (bA k p) := by rw [xO (r := ⟨k, ax j, p⟩) hbad hlong] at he; cases he; rfl
 have hz := QC he;have hz2 := (kB _).1 hz;have aT : l.length = (p.length + 10) / 4 := by rw [hel, mn, fR]
 have hfree : u + l.length <= n := by rw [gB, v.esu, v.ect] at h2; omega
 obtain ⟨w1, w2⟩ := I7 v hfree (by omega);have hge := eY j.sizes ((bG j).1 h.jd.chk).2.2.1;have vv := v;obtain ⟨v1, v2, v3, v4, v5, v6, v7, v8, v9, v10, v11, v12, v13, v14, v15, v16⟩ := v;have hP : ∀ q x, io (dQ j.start j.count j.tail l) q x -> j.start.toNat + 16 <= q /\ q < j.start.toNat + j.count.toNat := fun q x hq => by
  obtain ⟨i, hi, -, rfl⟩ := (w2 q x).1 hq;have := fg (h := hd) (n := n) (i := u + i) v7 (by omega);omega
 have hnx : 1 <= ax j := by omega
 have hlg : ∀ x ∈ l, (gn x : Int) = ax j := fun x hx => by
  rw [hel] at hx;rw [mo (by omega) hx]; omega
 obtain ⟨R, hR, hT⟩ := h.ring;rw [v16] at hR;have hRl : (rs.flatMap eW ++ R).length = n := by rw [<- hR, bz]
 rw [length_append, v5] at hRl;have hRg : ∀ (i : Nat) x, R[i]? = some x -> (gn x : Int) < ax j := fun i x hx => (hT.1 i x hx).resolve_right (by simp);have key : ∀ s', eA s (io (dQ j.start j.count j.tail l)) s' -> ∃ R', cM s' (st + 16) hd n = rs.flatMap eW ++ R' /\ R'.length = n - u /\ ∀ (i : Nat) x, R'[i]? = some x -> (gn x : Int) < ax j \/ l[i]? = some x := fun s' hm => by
  have hg : ∀ i, i < n -> (cM s' (st + 16) hd n)[i]? = (cM s (st + 16) hd n)[i]? \/ ∃ x, u <= i /\ l[i - u]? = some x /\ (cM s' (st + 16) hd n)[i]? = some x := fun i hi => by
   rw [cy (by rw [hm.1]; omega) v7 hi, cy (by omega) v7 hi];rcases hm.2 (st + 16 + cN hd n i) with e | ⟨x, hx, e⟩
   · exact .inl e
   · obtain ⟨k', hk', k2, k3⟩ := (w2 _ x).1 hx
     have := p9 v7 hi (by omega : u + k' < n) (by omega);exact .inr ⟨x, by omega, by rw [show i - u = k' by omega]; exact k2, e⟩
  have hsp := pT (b := []) hR (cM s' (st + 16) hd n) (by rw [bz, bz]) (fun i hi => by
   rcases hg i (by omega) with e | ⟨x, e, -⟩
   · exact e
   · omega)
  rw [v5] at hsp;refine ⟨_, hsp, by rw [length_drop, bz], fun i x hx => ?_⟩;rw [getElem?_drop] at hx;have hil : u + i < n := by have := (List.getElem?_eq_some_iff.1 hx).1; rwa [bz] at this
  rcases hg (u + i) hil with e | ⟨y, e1, e2, e3⟩
  · left
    rw [hx, hR, getElem?_append_right (by omega), show u + i - (rs.flatMap eW).length = i by omega] at e;exact hRg i x e.symm
  · right
    rw [show u + i - u = i by omega] at e2;rw [hx] at e3;rw [e2, <- e3]
 have hj' : ∀ s', eA s (io (dQ j.start j.count j.tail l)) s' -> (∀ R', cM s' (st + 16) hd n = rs.flatMap eW ++ R' -> ∀ i, i < l.length -> R'[i]? = l[i]?) -> RJ s' ⟨j.start, j.count, j.head, (j.tail + l.length) % (j.count - 16), j.first, j.sizes ++ [(l.length : Int)]⟩ (rs ++ [⟨k, ax j, p⟩]) [] T := fun s' hm hf => by
  obtain ⟨R', k1, k2, k3⟩ := key s' hm;have hnx' : ax ⟨j.start, j.count, j.head, (j.tail + l.length) % (j.count - 16), j.first, j.sizes ++ [(l.length : Int)]⟩ = ax j + 1 := by
   unfold ax; simp; omega
  refine ⟨td h.jd hm (fun q x hq => (hP q x hq).1) _ (HU h.jd.chk h1 h2 hz) rfl rfl rfl rfl, ?_, h.rc.snoc ⟨by show 1 <= k; omega, by show k <= 255; omega, by show p.length <= 4096; omega⟩ v15, .inl rfl, R'.drop l.length, ?_, fun i x hx => .inl ?_, .inl rfl⟩
  · show j.sizes ++ [(l.length : Int)] = eQ (rs ++ [⟨k, ax j, p⟩])
    have : ne (p.length : Int) = (l.length : Int) := by rw [ne, if_neg (by omega), aT]; omega
    rw [h.sz, eQ, eQ, map_append, map_cons, map_nil];show _ = _ ++ [ne (p.length : Int)];rw [this]
  · show j8 s' _ = _
    rw [j8];show cM s' (j.start.toNat + 16) j.head.toNat (j.count - 16).toNat = _;rw [show j.start.toNat + 16 = st + 16 by omega, show j.head.toNat = hd by omega, show (j.count - 16).toNat = n by omega, k1, flatMap_append, flatMap_cons, flatMap_nil, append_nil, append_assoc]
    congr 1
    have e : eW ⟨k, ax j, p⟩ = l := hel.symm;rw [e];refine (take_append_drop l.length R').symm.trans ?_
    congr 1
    refine ext_getElem? fun i => ?_;rw [getElem?_take]
    by_cases c : i < l.length
    · rw [if_pos c, hf R' k1 i c]
    · rw [if_neg c, getElem?_eq_none (by omega)]
  · rw [hnx']
    rw [getElem?_drop] at hx;rcases k3 _ x hx with e | e
    · omega
    · have := hlg x (mem_of_getElem? e); omega
 refine ⟨w1, hP, fun s' hm => ?_, ?_⟩
 · obtain ⟨R', k1, k2, k3⟩ := key s' hm
   by_cases hf : ∀ i, i < l.length -> R'[i]? = l[i]?
   · right
     refine hj' s' hm fun R2 e i hi => ?_;have : R2 = R' := List.append_cancel_left (e.symm.trans k1);rw [this, hf i hi]
   · left
     obtain ⟨i, hi⟩ := Classical.not_forall.1 hf;obtain ⟨hi1, hi2⟩ := Classical.not_imp.1 hi;refine ⟨td h.jd hm (fun q x hq => (hP q x hq).1) _ h.jd.chk rfl rfl rfl rfl, h.sz, h.rc, .inr ⟨k, p, by omega, hel⟩, R', ?_, k3, .inr ⟨i, hi1, hi2⟩⟩;rw [j8, show j.start.toNat + 16 = st + 16 by omega, show j.head.toNat = hd by omega, show (j.count - 16).toNat = n by omega, k1]
 · have hm := fv _ s w1
   refine hj' _ hm fun R' e i hi => ?_;have h3 : (cM (a8 s (dQ j.start j.count j.tail l)) (st + 16) hd n)[u + i]? = some l[i] := by
    rw [cy (by rw [hm.1]; omega) v7 (by omega)];refine qI _ s w1 _ _ (fun y hy => ?_) (.inl ((w2 _ _).2 ⟨i, hi, getElem?_eq_getElem hi, rfl⟩));obtain ⟨i', k1, k2, k3⟩ := (w2 _ y).1 hy;have := p9 v7 (by omega : u + i < n) (by omega : u + i' < n) (by omega);obtain rfl : i = i' := by omega
    rw [getElem?_eq_getElem hi] at k2;exact (Option.some.inj k2).symm
   rw [e, getElem?_append_right (by omega), show u + i - (rs.flatMap eW).length = i by omega] at h3;rw [h3, getElem?_eq_getElem hi]
theorem A0 {s : List au} {b hd n w : Nat} (hl : b + n <= s.length) (hh : hd < n) (hw : w <= n) : cM s b (cN hd n w) n = (cM s b hd n).drop w ++ (cM s b hd n).take w := by
 have hp := fg hh hw;refine ext_getElem? fun i => ?_
 by_cases hi : i < n
 · rw [cy hl hp hi]
   by_cases c : i < n - w
   · rw [getElem?_append_left (by rw [length_drop, bz]; exact c), getElem?_drop, cy hl hh (by omega)]
     congr 2
     unfold cN; split <;> split <;> split <;> omega
   · rw [getElem?_append_right (by rw [length_drop, bz]; omega), length_drop, bz, getElem?_take, if_pos (by omega), cy hl hh (by omega)]
     congr 2
     unfold cN; split <;> split <;> split <;> omega
 · rw [getElem?_eq_none (by rw [bz]; omega), getElem?_eq_none (by rw [length_append, length_drop, length_take, bz]; omega)]
theorem FU {s s' : List au} {a : Nat} {l : List au} (h : eA s (io [dG a l]) s') : Mx s s' a l :=
 ⟨h.1, fun q => by
  rcases h.2 q with e | ⟨x, ⟨a', l', i, m1, m2, rfl⟩, e⟩
  · exact .inl e
  · rw [mem_singleton] at m1
    obtain ⟨rfl, rfl⟩ := jN m1;have := (List.getElem?_eq_some_iff.1 m2).1;exact .inr ⟨by omega, by omega, by rw [e, Nat.add_sub_cancel_left, m2]⟩⟩
def gf (j : bW) (n : Nat) : bW := ⟨j.start, j.count, (j.head + ay (j.sizes.take n)) % (j.count - 16), j.tail, j.first + n, j.sizes.drop n⟩
theorem ED (rs : List cV) (n : Nat) : eQ (rs.take n) = (eQ rs).take n := by rw [eQ, eQ, map_take]
theorem EF (rs : List cV) (n : Nat) : eQ (rs.drop n) = (eQ rs).drop n := by rw [eQ, eQ, map_drop]
theorem nu {s s' : List au} {b hd n : Nat} (hl : b + n <= s.length) (hh : hd < n) (hs : s'.length = s.length) (h : ∀ q, b <= q -> q < b + n -> s'[q]? = s[q]?) : cM s' b hd n = cM s b hd n := by
 refine ext_getElem? fun i => ?_
 by_cases hi : i < n
 · have := fg hh (Nat.le_of_lt hi)
   rw [cy (by omega) hh hi, cy hl hh hi, h _ (by omega) (by omega)]
 · rw [getElem?_eq_none (by rw [bz]; omega), getElem?_eq_none (by rw [bz]; omega)]
theorem RJ.rel {s : List au} {j : bW} {rs : List cV} {T : Nat} (h : RJ s j rs [] T) (hT : T < 4294967295) {n : Nat} (hn : n <= rs.length) (h0 : n ≠ 0) :
 ∃ ws, eS ⟨s, []⟩ j (j.first - 1 + n) = (gf j n, ws ++ [cO], 0) /\ ws.length = 1 /\ en s.length ws /\ (∀ q x, io ws q x -> j.start.toNat <= q /\ q < j.start.toNat + 16) ∧
  (∀ s', eA s (io ws) s' -> RJ s' j rs [] (T + 1) \/ RJ s' (gf j n) (rs.drop n) [] (T + 1)) /\ RJ (a8 s ws) (gf j n) (rs.drop n) [] (T + 1) := by
 obtain ⟨st, m, hd, u, v⟩ := h.val;have hszl : j.sizes.length = rs.length := by rw [h.sz, eQ, length_map]
 obtain ⟨g, hg⟩ := h.jd.gd;have hk := dg hg.l2;have hnx : ax j = j.first + j.sizes.length := rfl;obtain ⟨v1, v2, v3, v4, v5, v6, v7, v8, v9, v10, v11, v12, v13, v14, v15, v16⟩ := v;have hr : eS ⟨s, []⟩ j (j.first - 1 + n) =
  if (b9 ⟨s, []⟩ j.start (bk ((j.head + ay (j.sizes.take n)) % (j.count - 16)) (j.first + n))).2 ≠ 0 then (nd, [], (b9 ⟨s, []⟩ j.start (bk ((j.head + ay (j.sizes.take n)) % (j.count - 16)) (j.first + n))).2)
  else (⟨j.start, j.count, (j.head + ay (j.sizes.take n)) % (j.count - 16), j.tail, j.first + n, j.sizes.drop n⟩, (b9 ⟨s, []⟩ j.start (bk ((j.head + ay (j.sizes.take n)) % (j.count - 16)) (j.first + n))).1, 0) := by
  rw [eS, if_neg (by simp [hk]), if_neg (by simp [h.jd.chk]), if_neg (by omega), if_neg (by omega)];have : (j.first - 1 + n + 1 - j.first).toNat = n := by omega
  rw [this, show j.first - 1 + (n : Int) + 1 = j.first + n by omega]
 have hp := rS ((j.head + ay (j.sizes.take n)) % (j.count - 16)) (j.first + n);have hst0 : j.start.toNat = st := by omega
 rw [hst0] at hg;have lU := hg.store hp hT;rw [v1, lU, if_neg (by simp)] at hr;obtain ⟨R, hR, hTC⟩ := h.ring;rw [v16] at hR;have hw : (((rs.take n).flatMap eW).length : Int) = ay (j.sizes.take n) := by
  rw [lb _ (fun r hr => h.rc.kd r (mem_of_mem_take hr)), ED, <- h.sz]
 have hfl : rs.flatMap eW = (rs.take n).flatMap eW ++ (rs.drop n).flatMap eW := by
  rw [<- flatMap_append, take_append_drop]
 have hwu : ((rs.take n).flatMap eW).length <= u := by rw [<- v5, hfl, length_append]; omega
 have hwn : ((rs.take n).flatMap eW).length <= m := by omega
 generalize hwd : ((rs.take n).flatMap eW).length = w at hw hwu hwn;have hhd : (j.head + ay (j.sizes.take n)) % (j.count - 16) = ((cN hd m w : Nat) : Int) := by
  rw [v3, <- hw, show j.count - 16 = (m : Int) by omega, nz v7 hwn]
 have hpl := fg v7 hwn;have hJ' : cE (gf j n) = true := C4 h.jd.chk (by omega);have hnx' : ax (gf j n) = ax j := by
  unfold ax gf;dsimp only;rw [length_drop]; omega
 have hold : ∀ s', s'.length = s.length -> (∀ q, st + 16 <= q -> s'[q]? = s[q]?) -> (∃ g, Gd st s' g (bk j.head j.first) (T + 1)) -> RJ s' j rs [] (T + 1) := fun s' hl hq hgd => by
  refine ⟨⟨h.jd.chk, by rw [hl]; exact h.jd.len, by rw [hst0]; exact hgd⟩, h.sz, h.rc, .inl rfl, R, ?_, hTC⟩;rw [j8, show j.start.toNat + 16 = st + 16 by omega, show j.head.toNat = hd by omega, show (j.count - 16).toNat = m by omega, <- hR];exact nu (by omega) v7 hl fun q q1 _ => hq q q1
 have dT : ∀ s', s'.length = s.length -> (∀ q, st + 16 <= q -> s'[q]? = s[q]?) -> (∃ g, Gd st s' g (bk ((j.head + ay (j.sizes.take n)) % (j.count - 16)) (j.first + n)) (T + 1)) -> RJ s' (gf j n) (rs.drop n) [] (T + 1) := fun s' hl hq hgd => by
  refine ⟨⟨hJ', by rw [hl]; exact h.jd.len, ?_⟩, ?_, h.rc.drop n, .inl rfl, R ++ (rs.take n).flatMap eW, ?_, fun i x hx => .inl ?_, .inl rfl⟩
  · show ∃ g, Gd j.start.toNat s' g _ _
    rw [hst0]; exact hgd
  · show j.sizes.drop n = _
    rw [EF, <- h.sz]
  · show cM s' (j.start.toNat + 16) ((j.head + ay (j.sizes.take n)) % (j.count - 16)).toNat (j.count - 16).toNat = _
    rw [hhd, show j.start.toNat + 16 = st + 16 by omega, Int.toNat_natCast, show (j.count - 16).toNat = m by omega, nu (by omega) hpl hl fun q q1 _ => hq q q1, A0 (by omega) v7 hwn, hR, hfl, <- hwd, append_assoc, List.drop_left, take_left, append_assoc]
  · rw [hnx']
    rcases mem_append.1 (mem_of_getElem? hx) with hx | hx
    · obtain ⟨i, hi⟩ := List.mem_iff_getElem?.1 hx
      exact (hTC.1 i x hi).resolve_right (by simp)
    · rw [v15]
      refine GX h.rc v13 (by omega) ?_;rw [hfl]; exact mem_append_left _ hx
 generalize bk ((j.head + ay (j.sizes.take n)) % (j.count - 16)) (j.first + n) = sp at hp hr dT;obtain ⟨a, ha⟩ : ∃ a, a = if (pA st s).1 < (pB st s).1 then st else st + 8 := ⟨_, rfl⟩
 rw [<- ha] at hr;have ha2 : st <= a /\ a + 8 <= st + 16 := by rw [ha]; split <;> omega
 have hcl := cD (d9 (ip st s) + 1) sp;have hfit : a + (bN (d9 (ip st s) + 1) sp).length <= s.length := by rw [hcl]; omega
 have hws : en s.length [dG a (bN (d9 (ip st s) + 1) sp)] := fun o ho => by
  rw [mem_singleton] at ho; subst ho;exact ⟨_, _, rfl, hfit⟩
 have hinw : ∀ q x, io [dG a (bN (d9 (ip st s) + 1) sp)] q x -> st <= q /\ q < st + 16 := fun q x hq => by
  obtain ⟨a', l', i, m1, m2, rfl⟩ := hq;rw [mem_singleton] at m1;obtain ⟨rfl, rfl⟩ := jN m1;have := (List.getElem?_eq_some_iff.1 m2).1;omega
 have hout : ∀ s', eA s (io [dG a (bN (d9 (ip st s) + 1) sp)]) s' -> ∀ q, st + 16 <= q -> s'[q]? = s[q]? := fun s' hm q hq => by
  rcases hm.2 q with e | ⟨x, hx, -⟩
  · exact e
  · have := hinw q x hx; omega
 refine ⟨[dG a (bN (d9 (ip st s) + 1) sp)], ?_, rfl, hws, by rw [hst0]; exact hinw, fun s' hm => ?_, ?_⟩
 · rw [hr, gf, v1]; rfl
 · have hx := hg.mx hp hT (s' := s') (by rw [<- ha]; exact FU hm)
   rcases hx.1 with e | e
   · exact .inl (hold s' hm.1 (hout s' hm) ⟨_, e⟩)
   · exact .inr (dT s' hm.1 (hout s' hm) ⟨_, e⟩)
 · have hm := fv _ s hws
   have hx := hg.mx hp hT (s' := a8 s [dG a (bN (d9 (ip st s) + 1) sp)]) (by rw [<- ha]; exact FU hm);refine dT _ hm.1 (hout _ hm) ⟨_, hx.2.2.2.2 fun q q1 q2 => ?_⟩;rw [<- ha] at q1 q2 ⊢;show (nA s a (bN (d9 (ip st s) + 1) sp))[q]? = _;rw [fZ hfit, if_pos ⟨q1, by rw [hcl]; exact q2⟩]
theorem oW : gn aP = 0 := by kernel_rfl
theorem pO (st : Nat) : ∀ (f : Nat) (M : List Bool) (p : Nat), M.length - p < f →
 (∀ o ∈ dV (st : Int) f M p, ∃ (a K : Nat), o = dG ((st + 16 + a : Nat) : Int) (List.replicate K aP) /\ 1 <= K /\ a + K <= M.length) ∧
 (∀ q x, io (dV (st : Int) f M p) q x ↔ x = aP /\ ∃ a, p <= a /\ q = st + 16 + a /\ M[a]? = some true)
 | 0, M, p, h => by omega
 | f + 1, M, p, h => by
  rw [dV]
  by_cases h1 : M.length <= p
  · rw [if_pos h1]
    refine ⟨fun o ho => (by cases ho), fun q x => ⟨?_, ?_⟩⟩
    · rintro ⟨a, l, i, m, _⟩; cases m
    · rintro ⟨-, a, ha, -, hm⟩
      rw [getElem?_eq_none (by omega)] at hm; cases hm
  rw [if_neg h1];have hat := tf (M.drop p);have hrl := oY (M.drop p);rw [length_drop] at hrl
  by_cases h2 : iX (M.drop p) = 0
  · rw [if_pos h2]
    obtain ⟨i1, i2⟩ := pO st f M (p + 1) (by omega);refine ⟨i1, fun q x => (i2 q x).trans ⟨?_, ?_⟩⟩
    · rintro ⟨rfl, a, ha, rfl, hm⟩; exact ⟨rfl, a, by omega, rfl, hm⟩
    · rintro ⟨rfl, a, ha, rfl, hm⟩
      refine ⟨rfl, a, ?_, rfl, hm⟩;rcases Nat.eq_or_lt_of_le ha with e | e
      · subst e
        rw [h2, getElem?_drop, Nat.add_zero] at hat;exact absurd hm hat
      · exact e
  · rw [if_neg h2]
    have hlt := te (M.drop p);generalize iX (M.drop p) = r at *;obtain ⟨i1, i2⟩ := pO st f M (p + r + 1) (by omega);have eop : dG ((st : Int) + 16 + (p : Int)) (List.replicate r aP) = dG ((st + 16 + p : Nat) : Int) (List.replicate r aP) := o7 _ _ (by omega);rw [eop];refine ⟨fun o ho => ?_, fun q x => ⟨?_, ?_⟩⟩
    · rcases mem_cons.1 ho with rfl | ho
      · exact ⟨p, r, rfl, by omega, by omega⟩
      · exact i1 o ho
    · rintro ⟨a, l, i, m1, m2, rfl⟩
      rcases mem_cons.1 m1 with e | m1
      · obtain ⟨rfl, rfl⟩ := jN e
        rw [getElem?_replicate] at m2
        split at m2
        · rename_i hi
          refine ⟨(Option.some.inj m2).symm, p + i, by omega, by omega, ?_⟩;have := hlt i hi
          rwa [getElem?_drop] at this
        · cases m2
      · obtain ⟨rfl, b, hb, e, hm⟩ := (i2 _ x).1 ⟨a, l, i, m1, m2, rfl⟩
        exact ⟨rfl, b, by omega, e, hm⟩
    · rintro ⟨rfl, a, ha, rfl, hm⟩
      by_cases c : a < p + r
      · exact ⟨st + 16 + p, _, a - p, mem_cons_self, by rw [getElem?_replicate, if_pos (by omega)], by omega⟩
      · have hne : a ≠ p + r := fun e => by
         subst e;rw [getElem?_drop] at hat;exact hat hm
        obtain ⟨b, l, i, m1, m2, m3⟩ := (i2 (st + 16 + a) aP).2 ⟨rfl, a, by omega, rfl, hm⟩;exact ⟨b, l, i, mem_cons_of_mem _ m1, m2, m3⟩
theorem pN (s : Int) : ∀ (f : Nat) (M : List Bool) (p : Nat), (dV s f M p).length <= f
 | 0, M, p => le_refl _
 | f + 1, M, p => by
  rw [dV]
  split
  · exact zero_le _
  · split
    · exact Nat.le_succ_of_le (pN s f M (p + 1))
    · rw [length_cons]; exact Nat.succ_le_succ (pN s f M _)
theorem BI {hd n i : Nat} (hh : hd < n) (hi : i < n) : (((cN hd n i : Nat) : Int) - hd + n) % (n : Int) = i := by
 unfold cN
 split
 · rw [show (((hd + i : Nat) : Int) - hd + n) = ((i + n : Nat) : Int) by omega, <- Int.natCast_emod, Nat.add_mod_right, Nat.mod_eq_of_lt hi]
 · rw [show (((hd + i - n : Nat) : Int) - hd + n) = ((i : Nat) : Int) by omega, <- Int.natCast_emod, Nat.mod_eq_of_lt hi]
theorem E7 {hd n q : Nat} (hh : hd < n) (hq : q < n) : ∃ i, i < n /\ cN hd n i = q := by
 refine ⟨if hd <= q then q - hd else q + n - hd, ?_, ?_⟩
 · split <;> omega
 · unfold cN; split <;> split <;> omega
theorem RJ.clean {s : List au} {j : bW} {rs : List cV} {l : List au} {T : Nat} (h : RJ s j rs l T) :
 ∃ ws, oL j ((s.drop (j.start.toNat + 16)).take (j.count - 16).toNat) = (if ws = [] then [] else ws ++ [cO]) /\ en s.length ws /\ (∀ q x, io ws q x -> j.start.toNat + 16 <= q /\ q < j.start.toNat + j.count.toNat) ∧
  (∀ s', eA s (io ws) s' -> RJ s' j rs l T) /\ RJ (a8 s ws) j rs [] T /\ (l = [] -> ws = []) /\ ws.length <= (j.count - 16).toNat + 1 := by
 obtain ⟨st, n, hd, u, v⟩ := h.val;obtain ⟨v1, v2, v3, v4, v5, v6, v7, v8, v9, v10, v11, v12, v13, v14, v15, v16⟩ := v;have hst : j.start.toNat = st := by omega
 have hcn : (j.count - 16).toNat = n := by omega
 rw [hst, hcn, yU];have hML := zn j ((s.drop (st + 16)).take n);rw [hcn] at hML;have hMg : ∀ i, i < n -> ((FT j ((s.drop (st + 16)).take n))[cN hd n i]? = some true ↔ u <= i /\ ∃ x, s[st + 16 + cN hd n i]? = some x /\ ax j <= gn x) := fun i hi => by
  have hp := fg v7 (Nat.le_of_lt hi);have e1 : ((s.drop (st + 16)).take n).getD (cN hd n i) aP = s.getD (st + 16 + cN hd n i) aP := by
   rw [getD_eq_getElem?_getD, getD_eq_getElem?_getD, getElem?_take, if_pos hp, getElem?_drop]
  have e2 : s[st + 16 + cN hd n i]? = some (s.getD (st + 16 + cN hd n i) aP) := by
   rw [getD_eq_getElem?_getD, getElem?_eq_getElem (by omega)]; rfl
  rw [KI h.jd.chk (show j.count - 16 = (n : Int) by omega) _ hp, v3, BI v7 hi, e1, e2, v4];generalize s.getD (st + 16 + cN hd n i) aP = x;simp only [Option.some.injEq, Bool.not_eq_true', Bool.or_eq_false_iff, decide_eq_false_iff_not]
  constructor
  · rintro ⟨a, b⟩; exact ⟨by omega, x, rfl, by omega⟩
  · rintro ⟨a, y, rfl, b⟩; exact ⟨by omega, by omega⟩
 generalize FT j ((s.drop (st + 16)).take n) = M at hML hMg;rw [v1];obtain ⟨r1, r2⟩ := pO st (M.length + 1) M 0 (by omega);have r3 := pN (st : Int) (M.length + 1) M 0;generalize dV (st : Int) (M.length + 1) M 0 = ws at r1 r2 r3;have hW : en s.length ws := fun o ho => by
  obtain ⟨a, K, rfl, k1, k2⟩ := r1 o ho;exact ⟨st + 16 + a, _, rfl, by rw [length_replicate]; omega⟩
 have hin : ∀ q x, io ws q x -> x = aP /\ ∃ i, u <= i /\ i < n /\ q = st + 16 + cN hd n i /\ ∃ y, s[q]? = some y /\ ax j <= gn y := fun q x hq => by
  obtain ⟨rfl, a, -, rfl, hm⟩ := (r2 q x).1 hq;have hal : a < n := by rw [<- hML]; exact (List.getElem?_eq_some_iff.1 hm).1
  obtain ⟨i, hi, rfl⟩ := E7 v7 hal;obtain ⟨k1, y, k2, k3⟩ := (hMg i hi).1 hm;exact ⟨rfl, i, k1, hi, rfl, y, k2, k3⟩
 obtain ⟨R, hR, hT⟩ := h.ring;rw [v16] at hR;have hRl : (rs.flatMap eW ++ R).length = n := by rw [<- hR, bz]
 rw [length_append, v5] at hRl;have hge := eY j.sizes ((bG j).1 h.jd.chk).2.2.1;have hszl : j.sizes.length = rs.length := by rw [h.sz, eQ, length_map]
 have key : ∀ s', eA s (io ws) s' -> ∃ R', cM s' (st + 16) hd n = rs.flatMap eW ++ R' /\ R'.length = n - u /\ ∀ i, R'[i]? = R[i]? \/ R'[i]? = some aP := fun s' hm => by
  have hg : ∀ i, i < n -> (cM s' (st + 16) hd n)[i]? = (cM s (st + 16) hd n)[i]? \/ (u <= i /\ (cM s' (st + 16) hd n)[i]? = some aP) := fun i hi => by
   rw [cy (by rw [hm.1]; omega) v7 hi, cy (by omega) v7 hi];rcases hm.2 (st + 16 + cN hd n i) with e | ⟨x, hx, e⟩
   · exact .inl e
   · obtain ⟨rfl, k', k1, k2, k3, -⟩ := hin _ x hx
     have := p9 v7 hi k2 (by omega);exact .inr ⟨by omega, e⟩
  have hsp := pT (b := []) hR (cM s' (st + 16) hd n) (by rw [bz, bz]) (fun i hi => by
   rcases hg i (by omega) with e | ⟨e, -⟩
   · exact e
   · omega)
  rw [v5] at hsp;refine ⟨_, hsp, by rw [length_drop, bz], fun i => ?_⟩;rw [getElem?_drop]
  by_cases hi : u + i < n
  · rcases hg (u + i) hi with e | ⟨-, e⟩
    · left
      rw [e, hR, getElem?_append_right (by omega)]; congr 1; omega
    · exact .inr e
  · left
    rw [getElem?_eq_none (by rw [bz]; omega), getElem?_eq_none (by omega)]
 have hkeep : ∀ s', eA s (io ws) s' -> JD s' j T := fun s' hm => td h.jd hm (fun q x hq => by
  obtain ⟨-, i, -, hi, rfl, -⟩ := hin q x hq
  omega) j h.jd.chk rfl rfl rfl rfl
 have hrj : ∀ s', j8 s' j = cM s' (st + 16) hd n := fun s' => by
  rw [j8, show j.start.toNat + 16 = st + 16 by omega, show j.head.toNat = hd by omega, hcn]
 refine ⟨ws, rfl, hW, fun q x hq => ?_, fun s' hm => ?_, ?_, fun hl => ?_, by omega⟩
 · obtain ⟨-, i, -, hi, rfl, -⟩ := hin q x hq
   have := fg v7 (Nat.le_of_lt hi);omega
 · obtain ⟨R', k1, k2, k3⟩ := key s' hm
   refine ⟨hkeep s' hm, h.sz, h.rc, h.lk, R', by rw [hrj, k1], fun i x hx => ?_, ?_⟩
   · rcases k3 i with e | e
     · exact hT.1 i x (by rw [<- e, hx])
     · left
       rw [hx] at e;rw [Option.some.inj e, oW]; omega
   · rcases hT.2 with e | ⟨i, hi, e⟩
     · exact .inl e
     · right
       refine ⟨i, hi, ?_⟩;rcases k3 i with e2 | e2
       · rw [e2]; exact e
       · rw [e2]
         intro e3;rcases h.lk with rfl | ⟨k, p, hp, rfl⟩
         · simp at hi
         · have := mo (by omega) (mem_of_getElem? e3.symm)
           rw [oW] at this;omega
 · have hm := fv ws s hW
   obtain ⟨R', k1, k2, k3⟩ := key _ hm;refine ⟨hkeep _ hm, h.sz, h.rc, .inl rfl, R', by rw [hrj, k1], fun i x hx => .inl ?_, .inl rfl⟩;have hil : i < R'.length := (List.getElem?_eq_some_iff.1 hx).1;have hi : u + i < n := by omega
   have hx' : (a8 s ws)[st + 16 + cN hd n (u + i)]? = some x := by
    rw [<- cy (by rw [hm.1]; omega) v7 hi, k1, getElem?_append_right (by omega), show u + i - (rs.flatMap eW).length = i by omega, hx]
   by_cases c : M[cN hd n (u + i)]? = some true
   · have := qI ws s hW (st + 16 + cN hd n (u + i)) aP (fun y hy => (hin _ y hy).1) (.inl ((r2 _ _).2 ⟨rfl, _, zero_le _, rfl, c⟩))
     rw [hx'] at this;rw [Option.some.inj this, oW]; omega
   · have hse : (a8 s ws)[st + 16 + cN hd n (u + i)]? = s[st + 16 + cN hd n (u + i)]? := by
      rcases hm.2 (st + 16 + cN hd n (u + i)) with e | ⟨y, hy, -⟩
      · exact e
      · obtain ⟨-, a, -, ea, hm'⟩ := (r2 _ y).1 hy
        have : a = cN hd n (u + i) := by omega
        rw [this] at hm';exact absurd hm' c
     rw [hx'] at hse;refine Classical.byContradiction fun hlt => c ((hMg (u + i) hi).2 ⟨by omega, x, hse.symm, by omega⟩)
 · subst hl
   cases ws with
   | nil => rfl
   | cons o ws =>
    obtain ⟨a, K, rfl, k1, k2⟩ := r1 o mem_cons_self;obtain ⟨-, i, i1, i2, i3, y, i4, i5⟩ := hin (st + 16 + a) aP ⟨st + 16 + a, _, 0, mem_cons_self, by rw [getElem?_replicate, if_pos (by omega)], rfl⟩;rw [i3, <- cy (by omega) v7 i2, hR, getElem?_append_right (by omega)] at i4;have := (hT.1 _ y i4).resolve_right (by simp);omega
theorem uG (H : Hp) (V : List Nat) (b2 b : Nat) (ks : List Int) (vs : List CV) (hb2 : H[b2]? = some (some [.mv b])) (hb : H[b]? = some (some [.objm ks vs])) (hkl : ks.length <= 1000000) :
 CC Tryz.prog 164 [.fn 166 [.ptr b2 0]] H V (abc ks H V) := by
 refine aj Tryz.func164 rfl fun hok oH => ?_;clear hok;refine aa (ab ?_);simp [go_sem, ai];refine aa (ab ?_);simp [go_sem];refine CC.le (.cons (.nilti 1 (by decide)) (.cons (.refl _) .nil)) (CC.mono (ry _ _ b2 b ks vs hb2 hb hkl) ?_);rintro r _ _ ⟨xs, W, rfl, rfl, h1, hxl, h2⟩;simp [go_sem];refine ab ?_;simp [go_sem];exact ao.self ⟨xs, W, rfl, rfl, h1, hxl, h2⟩
structure ue : Prop where
 box : ∀ (H : Hp) (V : List Nat) (b : Nat) (xs : List Int), H[b]? = some (some (xs.map ci)) -> xs.length <= 1000000 →
  CC Tryz.prog 165 [.bsa b xs.length 1] H V (fun _ H' V' => ∃ ys : List Int, (∀ y ∈ ys, y ∈ xs) /\ ys.length = xs.length /\ H' = H.set b (some (ys.map ci)) /\ V' = V)
 none : ∀ (H : Hp) (V : List Nat), CC Tryz.prog 165 [.sl .ti 1 []] H V (fun _ H' V' => H' = H /\ V' = V)
def af4 (ks : List Int) (H : Hp) (V : List Nat) : CV -> Hp -> List Nat -> Prop := fun r H' V' => ∃ ys : List Int, (∀ y ∈ ys, y ∈ ks) /\ ys.length <= 1000000 /\ r = .sl .sh 1 (ys.map ic) /\ H' = H /\ V' = V
theorem sK : ∀ ys : List Int, aY 1 ys.length (ys.map ci) = ys.map ic
 | [] => rfl
 | y :: ys => by
  rw [length_cons, aY];exact congrArg (_ :: ·) (sK ys)
theorem pL (hs : ue) (H : Hp) (V : List Nat) (b2 b : Nat) (ks : List Int) (vs : List CV) (hb2 : H[b2]? = some (some [.mv b])) (hb : H[b]? = some (some [.objm ks vs])) (hkl : ks.length <= 1000000) :
 CC Tryz.prog 138 [.fn 166 [.ptr b2 0]] H V (af4 ks H V) := by
 refine aj Tryz.func138 rfl fun hok oH => ?_;clear hok;refine aa (ab ?_);simp [go_sem, ai];refine aa (ab ?_);simp [go_sem];refine CC.mono (uG _ _ b2 b ks vs hb2 hb hkl) ?_;rintro r _ _ ⟨xs, W, rfl, rfl, h1, hxl, ⟨rfl, rfl⟩ | ⟨j, rfl, hj⟩⟩
 · simp [go_sem]
   refine aa (ab ?_);simp [go_sem];refine CC.mono (hs.none _ _) ?_;rintro _ _ _ ⟨rfl, rfl⟩;simp [go_sem];refine ab ?_;simp [go_sem];exact ao.pure (r' := .sl .sh 1 []) ⟨[], by simp, by simp, rfl, rfl, rfl⟩ (by simp) (by simp) (.sh _ _ _) (by simp [go_sem]) oH
 · simp [go_sem]
   refine aa (ab ?_);simp [go_sem];have hj' : (H ++ W)[H.length + j]? = some (some (xs.map ci)) := by rw [aC]; exact hj
   refine CC.mono (hs.box _ _ _ xs hj' (by omega)) ?_;rintro _ _ _ ⟨ys, hy1, hy2, rfl, rfl⟩;simp [go_sem];refine ab ?_;simp [go_sem];have hjl := (List.getElem?_eq_some_iff.1 hj').1;refine ao.froz (b := H.length + j) (o := 0) (n := xs.length) (sz := 1) (cs := ys.map ci) (xs := ys.map ic) ⟨ys, fun y hy => h1 y (hy1 y hy), ?_, rfl, rfl, rfl⟩ (.bsa _ _ _) (by rw [aC]; exact getElem?_set_self (List.getElem?_eq_some_iff.1 hj).1) ?_ ?_ (by omega) (by rw [aR]; trivial) oH ?_ (by simp)
   · omega
   · rw [drop_zero, <- hy2, sK]
   · rw [length_map]; omega
   · simp
theorem lL (H : Hp) (V : List Nat) (tk : Tk) (l : List Int) (hx : l.length <= 1000000000) : CC Tryz.prog 33 [.sl tk 1 (l.map ic)] H V (Fr 1 (l.map ic) H V) := by
 refine aj Tryz.func33 rfl fun hok oH => ?_;clear hok;refine aa (ab ?_);simp [go_sem, ai];refine aa (ab ?_);simp [go_sem];refine ⟨ab ?_, fun e => ao.frtok (by decide) (.inl ⟨rfl, by rw [e]; rfl⟩) (by simp [go_sem, aR]) oH (by simp) (by simp)⟩;simp [go_sem];exact ⟨by omega, ao.fr (by simp [go_sem, aR]) oH (by simp)⟩
def Mix (d d' : Dk) : Prop := d'.cache = [] /\ d'.stable.length = d.stable.length /\ ∀ (i : Nat) (h : i < d'.stable.length), (∃ h' : i < d.stable.length, d'.stable[i] = d.stable[i]) \/ ∃ c ∈ d.cache, c.pos = (i : Int) /\ d'.stable[i] = c.data
def IP (d : Dk) (ss : List au) : Prop := ss.length = d.stable.length /\ ∀ (i : Nat) (h : i < ss.length), (∃ h' : i < d.stable.length, ss[i] = d.stable[i]) \/ ∃ c ∈ d.cache, c.pos = (i : Int) /\ ss[i] = c.data
theorem IP.put {d : Dk} {ss : List au} {c : dH} {n : Nat} (h : IP d ss) (hc : c ∈ d.cache) (hn : c.pos = (n : Int)) : IP d (ss.set n c.data) := by
 obtain ⟨h1, h2⟩ := h;refine ⟨by rw [length_set]; exact h1, fun i hi => ?_⟩;rw [length_set] at hi;rw [getElem_set]
 split
 · rename_i e; subst e; exact .inr ⟨c, hc, hn, rfl⟩
 · exact h2 i hi
structure sU where
 key : Int
 tok : Nat
 ver : Nat
 secs : List au
def oR (e : sU) : CV := .sl (.own e.tok e.ver) 8 (e.secs.map aE)
def I5 (nv : Nat) (cs : List dH) (es : List sU) (V : List Nat) : Prop :=
 (es.map sU.tok).Nodup /\ (∀ e ∈ es, V[e.tok]? = some e.ver /\ nv <= e.tok /\ e.secs.length <= cs.length /\ (∃ c ∈ cs, c.pos = e.key) /\ ∀ s ∈ e.secs, ∃ c ∈ cs, c.pos = e.key /\ c.data = s) /\ es.length <= cs.length
theorem I5.new {nv : Nat} {cs : List dH} {es : List sU} {V : List Nat} {c : dH} (he : I5 nv cs es V) (hv : nv <= V.length) : I5 nv (cs ++ [c]) (es ++ [⟨c.pos, V.length, 0, [c.data]⟩]) (V ++ [0]) := by
 obtain ⟨h1, h2, h3⟩ := he;have hlt : ∀ e ∈ es, e.tok < V.length := fun e m => (List.getElem?_eq_some_iff.1 (h2 e m).1).1;refine ⟨?_, ?_, by simp; omega⟩
 · rw [map_append, List.nodup_append]
   refine ⟨h1, by simp, ?_⟩;intro a ha b hb;simp only [map_cons, map_nil, mem_singleton] at hb;obtain ⟨e, m, rfl⟩ := mem_map.1 ha;have := hlt e m;omega
 · intro e m
   rcases mem_append.1 m with m | m
   · obtain ⟨q1, q2, q3, ⟨c', q4, q5⟩, q6⟩ := h2 e m
     refine ⟨by rw [getElem?_append_left (hlt e m)]; exact q1, q2, by simp; omega, ⟨c', mem_append_left _ q4, q5⟩, fun s hs => ?_⟩;obtain ⟨c2, r1, r2⟩ := q6 s hs;exact ⟨c2, mem_append_left _ r1, r2⟩
   · rw [mem_singleton] at m
     subst m;refine ⟨by simp, hv, by simp, ⟨c, by simp, rfl⟩, fun s hs => ⟨c, by simp, rfl, ?_⟩⟩;simp only [mem_singleton] at hs;exact hs.symm
theorem I5.more {nv : Nat} {cs : List dH} {es : List sU} {V : List Nat} {c : dH} {j : Nat} (he : I5 nv cs es V) (hj : j < es.length) (hk : es[j].key = c.pos) : I5 nv (cs ++ [c]) (es.set j ⟨es[j].key, es[j].tok, es[j].ver + 1, es[j].secs ++ [c.data]⟩) (V.set es[j].tok (es[j].ver + 1)) := by
 obtain ⟨h1, h2, h3⟩ := he;have hlt : ∀ e ∈ es, e.tok < V.length := fun e m => (List.getElem?_eq_some_iff.1 (h2 e m).1).1;have hm : (es.set j ⟨es[j].key, es[j].tok, es[j].ver + 1, es[j].secs ++ [c.data]⟩).map sU.tok = es.map sU.tok := by
  rw [map_set];exact ext_getElem (by simp) fun n a b => by
   rw [getElem_set]
   split
   · rename_i e; subst e; simp
   · rfl
 refine ⟨by rw [hm]; exact h1, ?_, by simp; omega⟩;intro e m;obtain ⟨k, hk2, rfl⟩ := getElem_of_mem m;simp only [length_set] at hk2;rw [getElem_set]
 split
 · rename_i e; subst e
   obtain ⟨q1, q2, q3, ⟨c', q4, q5⟩, q6⟩ := h2 es[j] (getElem_mem hj);refine ⟨by rw [getElem?_set_self (hlt _ (getElem_mem hj))], q2, by simp; omega, ⟨c, by simp, hk.symm⟩, fun s hs => ?_⟩;rcases mem_append.1 hs with hs | hs
   · obtain ⟨c2, r1, r2⟩ := q6 s hs
     exact ⟨c2, mem_append_left _ r1, r2⟩
   · simp only [mem_singleton] at hs
     exact ⟨c, by simp, hk.symm, hs.symm⟩
 · rename_i hne
   obtain ⟨q1, q2, q3, ⟨c', q4, q5⟩, q6⟩ := h2 es[k] (getElem_mem hk2);have hnt : es[j].tok ≠ es[k].tok := fun e => hne (by
    have hp := List.pairwise_iff_getElem.1 h1;rcases Nat.lt_trichotomy j k with q | q | q
    · exact (hp j k (by simpa using hj) (by simpa using hk2) q (by simpa using e)).elim
    · exact q
    · exact (hp k j (by simpa using hk2) (by simpa using hj) q (by simpa using e.symm)).elim)
   refine ⟨by rw [getElem?_set_ne hnt]; exact q1, q2, by simp; omega, ⟨c', mem_append_left _ q4, q5⟩, fun s hs => ?_⟩;obtain ⟨c2, r1, r2⟩ := q6 s hs;exact ⟨c2, mem_append_left _ r1, r2⟩
theorem I5.okL {nv nb : Nat} {cs : List dH} {es : List sU} {V : List Nat} (he : I5 nv cs es V) : Go.Proofs.YtfflhepmkhlppaaGreatDoor.okL nb V.length (es.map oR) := by
 rw [co];intro x hx;obtain ⟨e, m, rfl⟩ := mem_map.1 hx;have hlt : e.tok < V.length := (List.getElem?_eq_some_iff.1 (he.2.1 e m).1).1;simp [go_sem, oR, hlt, cR]
def CrR (d : Dk) (n : Nat) (H : Hp) (V : List Nat) : CV -> Hp -> List Nat -> Prop := fun r H' V' => ∃ (d' : Dk) (l' : List Int), (Mix d d' /\ l'.length <= n) /\ r = .tup [.agg (cj d'), .sl .sh 1 (l'.map ic)] /\ H' = H /\ V' = V
theorem AY (hs : ue) (H : Hp) (V : List Nat) (d : Dk) (tk : Tk) (l : List Int) (hd : rL d) (hc : aH d = 0) (hll : l.length <= 1000000) : CC Tryz.prog 101 [.agg (cj d), .sl tk 1 (l.map ic)] H V (CrR d l.length H V) := by
 refine aj Tryz.func101 rfl fun hok oH => ?_
 have htk : ∀ {a b : Nat}, H.length <= a -> V.length <= b -> aK a b (.sl tk 1 (l.map ic)) := fun ha hb => cP ha hb (co.1 hok _ (by simp))
 clear hok
 have hl1 := hd.1
 have hl2 := hd.2
 refine aa (ab ?_)
 simp -implicitDefEqProofs [go_sem, ai]
 refine aa (ab ?_)
 simp -implicitDefEqProofs [go_sem]
 refine CC.mono (eO _ _ d hd) ?_
 rintro _ _ _ ⟨rfl, rfl, rfl⟩
 simp -implicitDefEqProofs [go_sem, hc]
 refine aa (ab ?_)
 simp -implicitDefEqProofs [go_sem]
 refine am (α := List sU × List Nat) (fun x => ([(1, .sl tk 1 (l.map ic)), (2, .ptr H.length 0), (4, .ptr (H.length + 1) 0), (6, .mv (H.length + 2))], H ++ [some (cj d), some [.v (.slice none 0 0), .v (.slice none 0 0)], some [.objm (x.1.map sU.key) (x.1.map oR)]], x.2))
  (fun x => I5 V.length d.cache x.1 x.2 /\ V.length <= x.2.length /\ x.2.take V.length = V) ?_ ?_
 · refine aa (ab ?_)
   simp -implicitDefEqProofs [go_sem]
   refine af ?_
   refine al (α := Nat × List sU × List Nat) (fun x => ([(1, .sl tk 1 (l.map ic)), (2, .ptr H.length 0), (4, .ptr (H.length + 1) 0), (6, .mv (H.length + 2)), (21, oE d.cache), (22, ci d.cache.length), (23, ci x.1)], H ++ [some (cj d), some [.v (.slice none 0 0), .v (.slice none 0 0)], some [.objm (x.2.1.map sU.key) (x.2.1.map oR)]], x.2.2))
    (fun x => x.1 <= d.cache.length /\ I5 V.length (d.cache.take x.1) x.2.1 x.2.2 /\ V.length <= x.2.2.length /\ x.2.2.take V.length = V) (fun x => d.cache.length - x.1) (0, [], V) ⟨zero_le _, ⟨by simp, by simp, by simp⟩, le_refl _, by simp⟩ (ae (by simp -implicitDefEqProofs [go_sem]) (by simp) rfl) ?_
   rintro ⟨i, es, V'⟩ ⟨hi, he, hv1, hv2⟩
   dsimp only at hi he hv1 hv2 ⊢
   refine aa (ab ?_)
   simp -implicitDefEqProofs [go_sem]
   refine aa (ab ?_)
   simp -implicitDefEqProofs [go_sem]
   refine ⟨fun h => ?_, fun h => ⟨es, V', ⟨by rw [take_of_length_le h] at he; exact he, hv1, hv2⟩, ae (by simp -implicitDefEqProofs [go_sem]) rfl rfl⟩⟩
   refine aa (af (aa (ab ?_)))
   simp -implicitDefEqProofs [go_sem, h]
   refine az [H.length + 3] [11] (.s 0 .pl <| .s 1 .pl <| .s 2 .ld <| .s 3 .pl <| .s 4 .pl <| .s 5 .ld <| .s 7 .pl <| .s 8 .ld <| .s 9 .pl <| .s 6 .pl <| .s 10 .pl <| .s 11 .st <| .n) ?_
   simp -implicitDefEqProofs [go_sem]
   rw [jm (aC H _ 2)]
   rcases hk : ka (es.map sU.key) d.cache[i].pos with _ | j
   · simp -implicitDefEqProofs only [mD, hk]
     simp -implicitDefEqProofs [go_sem]
     rw [jm (aC H _ 2)]
     simp -implicitDefEqProofs only [tC, hk]
     refine ⟨fun b hb cs q => by rw [mem_singleton] at hb; subst hb; rw [aC] at q ⊢; exact q, ab ?_⟩
     simp -implicitDefEqProofs [go_sem, aq (show i <= 1000000000 by omega)]
     have hn := he.new (c := d.cache[i]) hv1
     refine ⟨i + 1, _, _, ⟨by omega, by rw [take_succ_eq_append_getElem h]; exact hn, by simp; omega, by rw [take_append_of_le_length hv1]; exact hv2⟩, by omega, Sh.trim (L := [some (cj d), some [.v (.slice none 0 0), .v (.slice none 0 0)], some [.objm _ _]]) ?_ ?_ oH ?_ (by simp; omega) ?_ (take_of_length_le (le_refl _))⟩
     · simp -implicitDefEqProofs [go_sem]
     · exact ⟨htk (by simp) (by simp; omega), by simp -implicitDefEqProofs [go_sem]; rw [aK]; omega⟩
     · rw [aW, aW, aW]
       refine ⟨by simp -implicitDefEqProofs [go_sem], by simp -implicitDefEqProofs [go_sem], ?_, trivial⟩
       rw [okL, aK, okL]
       exact ⟨hn.okL, trivial⟩
     · simp [take_append, oR]
       exact take_of_length_le (by simp)
   · obtain ⟨hj, hjn⟩ := mH hk
     simp only [length_map] at hj
     have hje := he.2.1 es[j] (getElem_mem hj)
     simp -implicitDefEqProofs only [mD, hk, getElem?_map, getElem?_eq_getElem hj, Option.map_some, Option.getD_some, oR]
     simp -implicitDefEqProofs [go_sem, hje.1]
     refine ⟨by have := hje.2.2.1; have := List.length_take_le i d.cache; omega, ?_⟩
     rw [jm (aC H _ 2)]
     simp -implicitDefEqProofs only [tC, hk]
     refine ⟨fun b hb cs q => by rw [mem_singleton] at hb; subst hb; rw [aC] at q ⊢; exact q, ab ?_⟩
     simp -implicitDefEqProofs [go_sem, aq (show i <= 1000000000 by omega)]
     have hkj : es[j].key = d.cache[i].pos := by
      rw [getElem?_map, getElem?_eq_getElem hj] at hjn
      exact Option.some.inj hjn
     have hn := he.more (c := d.cache[i]) hj hkj
     refine ⟨i + 1, _, _, ⟨by omega, by rw [take_succ_eq_append_getElem h]; exact hn, by simp; omega, by rw [take_set_of_le hje.2.1]; exact hv2⟩, by omega, Sh.trim (L := [some (cj d), some [.v (.slice none 0 0), .v (.slice none 0 0)], some [.objm _ _]]) ?_ ?_ oH ?_ (by simp; omega) ?_ (take_of_length_le (le_refl _))⟩
     · simp -implicitDefEqProofs [go_sem]
     · exact ⟨htk (by simp) (by simp; omega), by simp -implicitDefEqProofs [go_sem]; rw [aK]; omega⟩
     · rw [aW, aW, aW]
       refine ⟨by simp -implicitDefEqProofs [go_sem], by simp -implicitDefEqProofs [go_sem], ?_, trivial⟩
       rw [okL, aK, okL]
       exact ⟨hn.okL, trivial⟩
     · have ek : (es.set j ⟨es[j].key, es[j].tok, es[j].ver + 1, es[j].secs ++ [d.cache[i].data]⟩).map sU.key = es.map sU.key := by
        rw [map_set]
        exact ext_getElem (by simp) fun n a b => by
         rw [getElem_set]
         split
         · rename_i e; subst e; simp
         · rfl
       rw [ek, map_set]
       simp [take_append, oR]
       exact take_of_length_le (by simp)
 · rintro ⟨es, V1⟩ ⟨he, hv1, hv2⟩
   dsimp only at he hv1 hv2 ⊢
   by_cases h0 : d.stable = []
   · have hcc : d.cache = [] := by
      rcases hcl : d.cache with _ | ⟨c0, cs⟩
      · rfl
      · have := (kO hc).2 c0 (by rw [hcl]; simp)
        rw [h0] at this
        simp at this
     have hes : es = [] := by
      have := he.2.2
      rw [hcc] at this
      exact eq_nil_of_length_eq_zero (by simpa using this)
     subst hes
     refine aa (ab ?_)
     simp -implicitDefEqProofs [go_sem]
     refine CC.mono (lK _ _ .sh _ (by omega)) ?_
     rintro _ _ _ ⟨v, rfl, rfl, rfl⟩
     simp -implicitDefEqProofs [go_sem]
     refine aa (ab ?_)
     simp -implicitDefEqProofs [go_sem]
     refine aa (aa (ab ?_))
     simp -implicitDefEqProofs [go_sem]
     refine CC.mono (uF _ _ (H.length + 2) (by simp)) ?_
     rintro _ _ _ ⟨rfl, rfl, rfl⟩
     simp -implicitDefEqProofs [go_sem]
     refine CC.mono (pL hs _ _ (H.length + 4) (H.length + 2) [] [] (aC H _ 4) (aC H _ 2) (by simp)) ?_
     rintro _ _ V9 ⟨ys, hy, hyl, rfl, rfl, eV⟩
     obtain rfl := eV.symm
     have hys : ys = [] := by
      rcases ys with _ | ⟨y, ys⟩
      · rfl
      · have := hy y (by simp)
        simp at this
     subst hys
     simp -implicitDefEqProofs [go_sem]
     refine af ?_
     refine al (α := Unit) (fun _ => ([(4, .ptr (H.length + 1) 0), (9, .ptr (H.length + 3) 0), (10, .sl tk 1 (l.map ic)), (47, ci 0), (48, ci 0)], H ++ [some (cj d), some [.v (.slice none 0 0), .v (.slice none 0 0)], some [.objm [] []], some [.sl (.own V1.length v) 8 (d.stable.map aE), .v (.slice none 0 0)], some [.mv (H.length + 2)]], V1 ++ [v]))
      (fun _ => True) (fun _ => 0) () trivial (ae (by simp -implicitDefEqProofs [go_sem]) (by simp) rfl) ?_
     rintro - -
     dsimp only
     refine aa (ab ?_)
     simp -implicitDefEqProofs [go_sem]
     refine aa (ab ?_)
     simp -implicitDefEqProofs [go_sem]
     refine aa ?_
     refine az [H.length + 3] [3] (.s 0 .ld <| .s 1 .pl <| .s 2 .pl <| .s 3 .st <| .s 4 .pl <| .n) ?_
     simp -implicitDefEqProofs [go_sem]
     refine CC.mono (lL _ _ tk l (by omega)) ?_
     rintro _ _ _ ⟨v2, rfl, rfl, rfl⟩
     simp -implicitDefEqProofs [go_sem]
     refine ⟨fun b hb cs q => by rw [mem_singleton] at hb; subst hb; rw [aC] at q ⊢; exact q, ab ?_⟩
     simp -implicitDefEqProofs [go_sem]
     refine ao.pure (r' := .tup [.agg (cj ⟨d.stable, []⟩), .sl .sh 1 (l.map ic)]) ⟨⟨d.stable, []⟩, l, ⟨⟨rfl, rfl, fun i h => .inl ⟨h, rfl⟩⟩, le_refl _⟩, rfl, rfl, rfl⟩ (by simp) ?_ (.tup (.cons (.agg (.cons (.sh _ _ _) (.cons (.nil 9 (by decide)) .nil))) (.cons (.sh _ _ _) .nil))) ?_ oH
     · rw [take_append_of_le_length hv1]; exact hv2
     · simp -implicitDefEqProofs [go_sem, cj, cR, aR, f9]
   refine aa (ab ?_)
   simp -implicitDefEqProofs [go_sem]
   refine CC.mono (pK _ _ .sh _ h0 (by omega)) ?_
   rintro _ _ _ ⟨rfl, rfl, rfl⟩
   simp -implicitDefEqProofs [go_sem]
   refine aa (ab ?_)
   simp -implicitDefEqProofs [go_sem]
   refine aa (aa (ab ?_))
   simp -implicitDefEqProofs [go_sem]
   refine CC.mono (uF _ _ (H.length + 2) (by simp)) ?_
   rintro _ _ _ ⟨rfl, rfl, rfl⟩
   simp -implicitDefEqProofs [go_sem]
   refine CC.mono (pL hs _ _ (H.length + 5) (H.length + 2) (es.map sU.key) (es.map oR) (aC H _ 5) (aC H _ 2) (by have := he.2.2; simp; omega)) ?_
   rintro _ _ V9 ⟨ys, hy, hyl, rfl, rfl, eV⟩
   obtain rfl := eV.symm
   simp -implicitDefEqProofs [go_sem]
   refine af ?_
   refine al (α := Nat × (Tk × List Int) × List au) (fun x => ([(4, .ptr (H.length + 1) 0), (6, .mv (H.length + 2)), (9, .ptr (H.length + 4) 0), (10, .sl x.2.1.1 1 (x.2.1.2.map ic)), (46, .sl .sh 1 (ys.map ic)), (47, ci ys.length), (48, ci x.1)], H ++ [some (cj d), some [.v (.slice none 0 0), .v (.slice none 0 0)], some [.objm (es.map sU.key) (es.map oR)], some (aQ x.2.2), some [.bsl (H.length + 3) 0 d.stable.length 8, .v (.slice none 0 0)], some [.mv (H.length + 2)]], V1))
    (fun x => x.1 <= ys.length /\ IP d x.2.2 /\ (x.2.1.1 = tk \/ x.2.1.1 = .sh) /\ x.2.1.2.length <= l.length) (fun x => ys.length - x.1) (0, (tk, l), d.stable) ⟨zero_le _, ⟨rfl, fun i h => .inl ⟨h, rfl⟩⟩, .inl rfl, le_refl _⟩ (ae (by simp -implicitDefEqProofs [go_sem]) (by simp) rfl) ?_
   rintro ⟨i, ⟨tk', l'⟩, ss⟩ ⟨hi, hm, ht, hll'⟩
   dsimp only at hi hm ht hll' ⊢
   refine aa (ab ?_)
   simp -implicitDefEqProofs [go_sem]
   refine aa (ab ?_)
   simp -implicitDefEqProofs [go_sem]
   refine ⟨fun h => ?_, fun h => ?_⟩
   · refine am (α := List Int × List au) (fun q => ([(4, .ptr (H.length + 1) 0), (6, .mv (H.length + 2)), (9, .ptr (H.length + 4) 0), (10, .sl .sh 1 (q.1.map ic)), (46, .sl .sh 1 (ys.map ic)), (47, ci ys.length), (48, ci i)], H ++ [some (cj d), some [.v (.slice none 0 0), .v (.slice none 0 0)], some [.objm (es.map sU.key) (es.map oR)], some (aQ q.2), some [.bsl (H.length + 3) 0 d.stable.length 8, .v (.slice none 0 0)], some [.mv (H.length + 2)]], V1)) (fun q => IP d q.2 /\ q.1.length <= l.length) ?_ (by
      rintro ⟨l2, ss'⟩ ⟨hm', hl2'⟩
      dsimp only at hm' hl2' ⊢
      refine ab ?_
      simp -implicitDefEqProofs [go_sem, aq (show i <= 1000000000 by omega)]
      exact ⟨i + 1, .sh, l2, ss', ⟨by omega, hm', .inr rfl, hl2'⟩, by omega, ae (by simp -implicitDefEqProofs [go_sem]) rfl rfl⟩)
     refine af (aa (ab ?_))
     simp -implicitDefEqProofs [go_sem, h]
     refine aa (ab ?_)
     simp -implicitDefEqProofs [go_sem]
     refine aa (ab ?_)
     simp -implicitDefEqProofs [go_sem]
     rw [jm (aC H _ 2)]
     obtain ⟨j, hk⟩ : ∃ j, ka (es.map sU.key) ys[i] = some j := by
      rcases hk : ka (es.map sU.key) ys[i] with _ | j
      · have hm := hy _ (getElem_mem h)
        unfold ka at hk
        rw [List.findIdx?_eq_none_iff] at hk
        exact absurd (hk _ hm) (by simp)
      · exact ⟨j, rfl⟩
     obtain ⟨hj, hjn⟩ := mH hk
     simp only [length_map] at hj
     have hje := he.2.1 es[j] (getElem_mem hj)
     have hjl : es[j].secs.length <= 1000000 := by have := hje.2.2.1; omega
     have hkj : es[j].key = ys[i] := by
      rw [getElem?_map, getElem?_eq_getElem hj] at hjn
      exact Option.some.inj hjn
     simp -implicitDefEqProofs only [mD, hk, getElem?_map, getElem?_eq_getElem hj, Option.map_some, Option.getD_some, oR]
     simp -implicitDefEqProofs [go_sem, aq (show es[j].secs.length <= 1000000000 by omega)]
     refine CC.mono (wZ _ _ tk' l' (es[j].secs.length + 1) (by omega) (by omega)) ?_
     rintro _ H9 V9 ⟨k, l2, ⟨hk2, hl2'⟩, rfl, eH, eV⟩
     subst eH eV
     simp -implicitDefEqProofs [go_sem]
     refine aa (ab ?_)
     simp -implicitDefEqProofs [go_sem]
     refine ab ?_
     simp -implicitDefEqProofs [go_sem]
     refine ⟨fun h2 => ?_, fun h2 => ⟨l2, ss, ⟨hm, by omega⟩, ae (by simp -implicitDefEqProofs [go_sem]) rfl rfl⟩⟩
     refine az [H.length + 4] [11] (.s 0 .pl <| .s 1 .pl <| .s 2 .pl <| .s 3 .pl <| .s 4 .pl <| .s 6 .pl <| .s 7 .pl <| .s 5 .pl <| .s 8 .pl <| .s 9 .pl <| .s 10 .pl <| .s 11 .st <| .n) ?_
     simp -implicitDefEqProofs [go_sem]
     rw [jm (aC H _ 2)]
     have hwk : IntKind.i64.wrap ((k : Int) - 1) = ((k - 1 : Nat) : Int) := by rw [IntWalk.i64_in _ ⟨by omega, by omega⟩]; omega
     have hk1 : k - 1 < es[j].secs.length := by omega
     obtain ⟨c0, hc0, hcp⟩ := hje.2.2.2.1
     have bY := (kO hc).2 c0 hc0
     rw [hcp, hkj] at bY
     simp -implicitDefEqProofs only [mD, hk, getElem?_map, getElem?_eq_getElem hj, Option.map_some, Option.getD_some, oR, hwk]
     simp -implicitDefEqProofs [go_sem, hk1, bY.1]
     obtain ⟨c1, hc1, hcp1, hcd1⟩ := hje.2.2.2.2 _ (getElem_mem hk1)
     refine ⟨by omega, by have := hm.1; omega, fun b hb cs q => by rw [mem_singleton] at hb; subst hb; rw [aC] at q ⊢; exact q, l2, ss.set ys[i].toNat es[j].secs[k - 1], ⟨?_, by omega⟩, ae (by simp -implicitDefEqProofs [go_sem]) ?_ rfl⟩
     · rw [<- hcd1]; exact hm.put hc1 (by rw [hcp1, hkj]; omega)
     · rw [pJ (by have := hm.1; omega)]
   · refine aa ?_
     refine az [H.length + 4] [3] (.s 0 .ld <| .s 1 .pl <| .s 2 .pl <| .s 3 .st <| .s 4 .pl <| .n) ?_
     simp -implicitDefEqProofs [go_sem]
     refine CC.mono (lL _ _ tk' l' (by omega)) ?_
     rintro _ _ _ ⟨v, rfl, rfl, rfl⟩
     simp -implicitDefEqProofs [go_sem]
     refine ⟨fun b hb cs q => by rw [mem_singleton] at hb; subst hb; rw [aC] at q ⊢; exact q, ab ?_⟩
     simp -implicitDefEqProofs [go_sem]
     refine ao.frozG (b := H.length + 3) (cs := aQ ss) (r1 := .tup [.agg [.bsl (H.length + 3) 0 d.stable.length 8, oE []], .sl .sh 1 (l'.map ic)]) (r2 := .tup [.agg (cj ⟨ss, []⟩), .sl .sh 1 (l'.map ic)]) ⟨⟨ss, []⟩, l', ⟨⟨rfl, hm.1, hm.2⟩, hll'⟩, rfl, rfl, rfl⟩ (.tup (.cons (.agg (.cons (.refl _) (.cons (.nil 9 (by decide)) .nil))) (.cons (.sh _ _ _) .nil))) (by rw [aC]; rfl) ?_ (by omega) ?_ oH (by simp) ?_
     · have hz := Fz.bsl (b := H.length + 3) (cs := aQ ss) 0 d.stable.length 8 (by have := hm.1; simp; omega)
       rw [drop_zero, <- hm.1, cU] at hz
       rw [<- hm.1]
       exact .tup (.cons (.agg (.cons hz (.cons (.refl _) .nil))) (.cons (.refl _) .nil))
     · simp -implicitDefEqProofs [go_sem, cj, cR, aR, f9]
     · rw [take_append_of_le_length hv1]; exact hv2
theorem AH {d d' : Dk} {o : bO} (hc : aH d = 0) (h : fT d o = .ok d') : aH d' = 0 /\ d'.stable.length = d.stable.length /\ d'.cache.length <= d.cache.length + o.data.length := by
 unfold fT at h
 split at h
 · cases h
 · split at h
   · cases hw : iI d o.pos o.data with
     | none => rw [hw] at h; cases h
     | some d2 =>
      rw [hw] at h; cases h;unfold iI at hw
      split at hw
      · rename_i hi
        cases hw
        exact ⟨we hc hi, rfl, by simp⟩
      · cases hw
   · cases h
     exact ⟨wg hc, bR _, by simp⟩
theorem uI : ∀ (ops : List bO) {d d' : Dk} {i n : Nat}, aH d = 0 -> db d ops i = .ok (d', n) -> aH d' = 0 /\ d'.stable.length = d.stable.length /\ d'.cache.length <= d.cache.length + tot ops
 | [], d, d', i, n, hc, h => by cases h; exact ⟨hc, rfl, by simp [tot]⟩
 | o :: ops, d, d', i, n, hc, h => by
  rw [db] at h
  cases hs : fT d o with
  | error e => rw [hs] at h; cases h
  | ok d2 =>
   rw [hs] at h;obtain ⟨h1, h2, h3⟩ := AH hc hs;obtain ⟨g1, g2, g3⟩ := uI ops h1 h;refine ⟨g1, g2.trans h2, ?_⟩;have : tot (o :: ops) = o.data.length + tot ops := by simp [tot]
   omega
theorem EX {d : Dk} {ops : List bO} (h : (du d ops).2.2 = 0) : aH d = 0 /\ aH (du d ops).1 = 0 /\ (du d ops).1.stable.length = d.stable.length /\ (du d ops).1.cache.length <= d.cache.length + tot ops := by
 unfold du at h ⊢
 split at h
 · rename_i hc; exact absurd h hc
 · rename_i hc
   have hc : aH d = 0 := Classical.not_not.1 hc;rw [if_neg (by simp [hc])]
   cases hr : db d ops 0 with
   | error x =>
    obtain ⟨i, e⟩ := x;rw [hr] at h;exact absurd h (pS _ _ _ _ _ hr)
   | ok x =>
    obtain ⟨d', n⟩ := x;exact ⟨hc, uI _ hc hr⟩
theorem D7 (ops : List bO) (n : Nat) : tot (ops.take n) <= tot ops := by
 have h : tot ops = tot (ops.take n) + tot (ops.drop n) := by
  conv => lhs; rw [<- take_append_drop n ops]
  rw [tot, map_append, List.sum_append]; rfl
 omega
def gz (d : Dk) (ops : List bO) (a : Int) (d' : Dk) (e : Nat) : Prop :=
 if aH d ≠ 0 then e = aH d /\ d' = zL
 else if a < 0 \/ (ops.length : Int) < a then e = 2 /\ d' = zL
 else if (du d (ops.take a.toNat)).2.2 ≠ 0 then e = (du d (ops.take a.toNat)).2.2 /\ d' = zL
 else e = 0 /\ Mix (du d (ops.take a.toNat)).1 d'
def aa9 (d : Dk) (ops : List bO) (a : Int) (n : Nat) (H : Hp) (V : List Nat) : CV -> Hp -> List Nat -> Prop := fun r H' V' => ∃ (d' : Dk) (l' : List Int) (e : Nat), (gz d ops a d' e /\ l'.length <= n) /\ r = .tup [.agg (cj d'), .sl .sh 1 (l'.map ic), er e] /\ H' = H /\ V' = V
theorem lr (H : Hp) (V : List Nat) (d : Dk) (ops : List bO) (a : Int) (tk : Tk) (l : List Int) (hl : d.stable.length <= 1000000) (hl2 : d.cache.length + tot ops <= 1000000) (hl3 : ops.length <= 1000000) (hll : l.length <= 1000000) (hs : ue) :
 CC Tryz.prog 53 [.agg (cj d), gp ops, ci a, .sl tk 1 (l.map ic)] H V (aa9 d ops a l.length H V) := by
 refine aj Tryz.func53 rfl fun hok oH => ?_;clear hok;have hd : rL d := ⟨hl, by omega⟩
 have bad : ∀ (e : Nat) {H' : Hp} {V' : List Nat}, gz d ops a zL e -> H'.take H.length = H -> V'.take V.length = V -> ao H.length V.length (aa9 d ops a l.length H V) (.tup [.agg [.v (.slice none 0 0), .v (.slice none 0 0)], .v (.slice none 0 0), er e]) H' V' := fun e H' V' h1 h2 h3 =>
  ao.pure (r' := .tup [.agg (cj zL), .sl .sh 1 (([] : List Int).map ic), er e]) ⟨zL, [], e, ⟨h1, zero_le _⟩, rfl, rfl, rfl⟩ h2 h3 (.tup (.cons (.agg (.cons (.nil 8 (by decide)) (.cons (.nil 9 (by decide)) .nil))) (.cons (.nil 1 (by decide)) (.cons (.refl _) .nil)))) (by simp [go_sem, cj, cR, aR, f9]) oH
 refine aa (ab ?_);simp [go_sem, ai];refine aa (ab ?_);simp [go_sem];refine ah (eO _ _ d hd) ?_;simp [go_sem];refine ⟨fun hc => ?_, fun hc => ?_⟩
 case refine_1 => exact bad _ (by rw [gz, if_pos hc]; exact ⟨rfl, rfl⟩) (by simp) (by simp)
 refine aa (ab ?_);simp [go_sem];refine ⟨fun h1 => ⟨fun h2 => ?_, fun h2 => ?_⟩, fun h1 => ?_⟩
 case refine_2.refine_1 => exact bad 2 (by rw [gz, if_neg (by simp [hc]), if_pos (.inr h2)]; exact ⟨rfl, rfl⟩) (by simp) (by simp)
 case refine_2.refine_3 => exact bad 2 (by rw [gz, if_neg (by simp [hc]), if_pos (.inl h1)]; exact ⟨rfl, rfl⟩) (by simp) (by simp)
 obtain ⟨a, rfl⟩ := Int.eq_ofNat_of_zero_le h1;have h2' : a <= ops.length := by omega
 refine aa (az [] [10] (.s 0 .pl <| .s 1 .pl <| .s 2 .pl <| .s 3 .pl <| .c 4 <| .s 5 .pl <| .s 6 .pl <| .s 7 .pl <| .s 8 .pl <| .s 9 .pl <| .s 10 .st <| .s 11 .pl <| .s 12 .pl <| .n) ?_);simp [go_sem, h2'];have htt := D7 ops a;refine ⟨pQ (du d (ops.take a)), fun H V => ?_, ?_⟩
 · show CC Tryz.prog 12 [.agg (cj d), .sl .sh 3 ((ops.map fN).take a)] H V _
   rw [<- map_take];exact kX H V d (ops.take a) hl (by omega) (by rw [length_take]; omega)
 have hI : ∀ d' e, gz d ops a d' e = if (du d (ops.take a)).2.2 ≠ 0 then e = (du d (ops.take a)).2.2 /\ d' = zL else e = 0 /\ Mix (du d (ops.take a)).1 d' := fun d' e => by
  rw [gz, if_neg (by simp [hc]), if_neg (by omega)]; rfl
 have hinv := fun h => EX (d := d) (ops := ops.take a) h;generalize hr : du d (ops.take a) = r at *;obtain ⟨d2, n2, e2⟩ := r;simp [go_sem, pQ];refine aa (ab ?_);simp [go_sem];refine ⟨fun he => bad e2 (by rw [hI, if_pos he]; exact ⟨rfl, rfl⟩) (by simp) (by simp), fun he => ?_⟩;obtain ⟨i1, i2, i3, i4⟩ := hinv he;dsimp only at i2 i3 i4;refine aa (ab ?_);simp [go_sem];refine CC.mono (AY hs _ _ d2 tk l ⟨by omega, by omega⟩ i2 hll) ?_;rintro _ _ _ ⟨d3, l3, ⟨hm, hl3'⟩, rfl, rfl, rfl⟩;simp [go_sem];refine aa (ab ?_);simp [go_sem];refine ab ?_;simp [go_sem];exact ao.pure (r' := .tup [.agg (cj d3), .sl .sh 1 (l3.map ic), er 0]) ⟨d3, l3, 0, ⟨by rw [hI, if_neg (by simp [he])]; exact ⟨rfl, hm⟩, hl3'⟩, rfl, rfl, rfl⟩ (by simp) (by simp) (.refl _) (by simp [go_sem, cj, cR, aR, f9]) oH
theorem FV {a : Nat} {l : List au} {c : dH} (h : c ∈ gm a l) : ∃ i, l[i]? = some c.data /\ c.pos = ((a + i : Nat) : Int) := by
 rw [gm] at h;obtain ⟨p, hp, rfl⟩ := mem_map.1 h;exact ⟨p.2, List.mem_zipIdx_iff_getElem?.1 hp, by simp⟩
theorem EH {s : List au} {c : List dH} {a : Nat} {l : List au} (hl : a + l.length <= s.length) : fT ⟨s, c⟩ (dG a l) = .ok ⟨s, c ++ gm a l⟩ := by
 rw [fT, if_neg (by simp [dG]), if_pos (by rfl)];show (match iI ⟨s, c⟩ a l with | some d' => Except.ok d' | none => Except.error 2) = _;rw [iI, if_pos (su hl)]; rfl
theorem yS : ∀ (ws : List bO) (s : List au) (c : List dH) (i : Nat), en s.length ws -> ∃ cs, db ⟨s, c⟩ ws i = .ok (⟨s, c ++ cs⟩, i + ws.length) /\ ∀ x ∈ cs, ∃ q : Nat, x.pos = (q : Int) /\ io ws q x.data
 | [], s, c, i, _ => ⟨[], by rw [db, append_nil]; rfl, fun x hx => by cases hx⟩
 | o :: ws, s, c, i, h => by
  obtain ⟨a, l, rfl, hl⟩ := h o (by simp);obtain ⟨cs, h1, h2⟩ := yS ws s (c ++ gm a l) (i + 1) (fun x hx => h x (by simp [hx]));refine ⟨gm a l ++ cs, ?_, fun x hx => ?_⟩
  · rw [db, EH hl]
    show db _ ws (i + 1) = _;rw [h1, append_assoc, length_cons, show i + 1 + ws.length = i + (ws.length + 1) by omega]
  · rcases mem_append.1 hx with hx | hx
    · obtain ⟨k, k1, k2⟩ := FV hx
      exact ⟨a + k, k2, a, l, k, by simp, k1, rfl⟩
    · obtain ⟨q, q1, a', l', k, m1, m2, m3⟩ := h2 x hx
      exact ⟨q, q1, a', l', k, by simp [m1], m2, m3⟩
theorem uH : ∀ (ws : List bO) (s : List au) (c : List dH) (r : List bO) (i : Nat), en s.length ws -> db ⟨s, c⟩ (ws ++ cO :: r) i = db ⟨a8 (aU ⟨s, c⟩) ws, []⟩ r (i + ws.length + 1)
 | [], s, c, r, i, _ => by rw [nil_append, EY]; rfl
 | o :: ws, s, c, r, i, h => by
  obtain ⟨a, l, rfl, hl⟩ := h o (by simp);rw [cons_append, db, EH hl];show db _ (ws ++ cO :: r) (i + 1) = _;rw [uH ws s _ r _ (fun x hx => h x (by simp [hx])), gK, length_cons];have : aU ⟨s, c ++ gm a l⟩ = nA (aU ⟨s, c⟩) a l := by rw [aU, foldl_append]; rfl
  rw [this, show i + 1 + ws.length + 1 = i + (ws.length + 1) + 1 by omega]
theorem pR : ∀ (os : List bO) (d : Dk) (i k : Nat), db d os (i + k) = match db d os i with | .ok (d', n) => .ok (d', n + k) | .error (n, e) => .error (n + k, e)
 | [], d, i, k => rfl
 | o :: os, d, i, k => by
  rw [db, db]
  cases fT d o with
  | error e => rfl
  | ok d' =>
   dsimp only;rw [show i + k + 1 = i + 1 + k by omega, pR os d' (i + 1) k]
theorem zo {s : List au} {d' : Dk} (h : Mix ⟨s, []⟩ d') : d' = ⟨s, []⟩ := by
 obtain ⟨st, ca⟩ := d';obtain ⟨h1, h2, h3⟩ := h;dsimp only at h1 h2 h3;subst h1
 congr 1
 refine ext_getElem h2 fun i a b => ?_;rcases h3 i a with ⟨_, e⟩ | ⟨c, hc, -⟩
 · exact e
 · cases hc
theorem F5 {s : List au} {ws : List bO} (hs : s.length <= 4096) (hw : en s.length ws) {a : Nat} (ha : a <= ws.length + 1) {d' : Dk} {e : Nat} (h : gz ⟨s, []⟩ (ws ++ [cO]) a d' e) :
 e = 0 /\ ∃ s', d' = ⟨s', []⟩ /\ eA s (io ws) s' /\ (a = ws.length + 1 -> s' = a8 s ws) := by
 have hc := dg hs;rw [gz, if_neg (by simp [hc]), if_neg (by simp; omega), Int.toNat_natCast] at h
 by_cases ha2 : a = ws.length + 1
 · rw [take_of_length_le (by simp; omega), kY hs (fun o ho => by
    rcases mem_append.1 ho with ho | ho
    · exact hw.ok o ho
    · rw [mem_singleton] at ho; exact .inl ho) (.inr (by simp)), if_neg (by simp), jn, gL] at h
   refine ⟨h.1, a8 s ws, zo h.2, fv ws s hw, fun _ => rfl⟩
 · have hw' : en s.length (ws.take a) := fun o ho => hw o (mem_of_mem_take ho)
   obtain ⟨cs, h1, h2⟩ := yS (ws.take a) s [] 0 hw';have hr : du ⟨s, []⟩ (ws.take a) = (⟨s, cs⟩, 0 + (ws.take a).length, 0) := by rw [du, if_neg (by simp [hc]), h1]; rfl
   rw [take_append_of_le_length (by omega), hr, if_neg (by simp)] at h;obtain ⟨g0, g1, g2, g3⟩ := h;obtain ⟨st, ca⟩ := d';dsimp only at g1 g2 g3;subst g1;refine ⟨g0, st, rfl, ⟨g2, fun q => ?_⟩, fun e => absurd e ha2⟩
   by_cases hq : q < st.length
   · rcases g3 q hq with ⟨hq', e⟩ | ⟨c, hc', e1, e2⟩
     · left; rw [getElem?_eq_getElem hq, getElem?_eq_getElem hq', e]
     · right
       obtain ⟨q', e3, a', l', i, m1, m2, m3⟩ := h2 c hc';refine ⟨c.data, ⟨a', l', i, mem_of_mem_take m1, m2, by omega⟩, by rw [getElem?_eq_getElem hq, e2]⟩
   · left; rw [getElem?_eq_none (by omega), getElem?_eq_none (by omega)]
theorem zt {s : List au} (hs : s.length <= 4096) {d' : Dk} {e : Nat} (h : gz ⟨s, []⟩ [] 0 d' e) : e = 0 /\ d' = ⟨s, []⟩ := by
 have hr : du ⟨s, []⟩ [] = (⟨s, []⟩, 0, 0) := by rw [du, if_neg (by simp [dg hs])]; rfl
 rw [gz, if_neg (by simp [dg hs]), if_neg (by simp), show (([] : List bO).take (0 : Int).toNat) = [] from rfl, hr, if_neg (by simp)] at h;exact ⟨h.1, zo h.2⟩
theorem KU {s : List au} {ws r : List bO} (hs : s.length <= 4096) (hw : en s.length ws) {a : Nat} {d' : Dk} {e : Nat} (h : gz ⟨s, []⟩ (ws ++ cO :: r) ((ws.length + 1 + a : Nat) : Int) d' e) (ha : a <= r.length) : gz ⟨a8 s ws, []⟩ r (a : Int) d' e := by
 have hc := dg hs;have hc' : aH ⟨a8 s ws, []⟩ = 0 := dg (by rw [nU]; exact hs);rw [gz, if_neg (by simp [hc]), if_neg (by simp; omega), Int.toNat_natCast] at h;rw [gz, if_neg (by simp [hc']), if_neg (by omega), Int.toNat_natCast];have e1 : (ws ++ cO :: r).take (ws.length + 1 + a) = ws ++ cO :: r.take a := by
  rw [take_append, take_of_length_le (by omega), show ws.length + 1 + a - ws.length = a + 1 by omega, take_succ_cons]
 have e2 : (du ⟨s, []⟩ (ws ++ cO :: r.take a)).1 = (du ⟨a8 s ws, []⟩ (r.take a)).1 /\ (du ⟨s, []⟩ (ws ++ cO :: r.take a)).2.2 = (du ⟨a8 s ws, []⟩ (r.take a)).2.2 := by
  have e3 : du ⟨s, []⟩ (ws ++ cO :: r.take a) = match db ⟨a8 s ws, []⟩ (r.take a) (0 + (ws.length + 1)) with | .ok (d', n) => (d', n, 0) | .error (i, e) => (zL, i, e) := by
   rw [du, if_neg (by simp [hc]), uH ws s [] _ 0 hw, Nat.add_assoc]; rfl
  have e4 : du ⟨a8 s ws, []⟩ (r.take a) = match db ⟨a8 s ws, []⟩ (r.take a) 0 with | .ok (d', n) => (d', n, 0) | .error (i, e) => (zL, i, e) := by
   rw [du, if_neg (by simp [hc'])]; rfl
  rw [e3, e4, pR]
  cases db ⟨a8 s ws, []⟩ (r.take a) 0 with
  | ok x => exact ⟨rfl, rfl⟩
  | error x => exact ⟨rfl, rfl⟩
 rw [e1, e2.1, e2.2] at h;exact h
theorem KV {s : List au} {ws r : List bO} (hs : s.length <= 4096) (hw : en s.length ws) {a : Nat} (ha : a <= ws.length) {d' : Dk} {e : Nat} (h : gz ⟨s, []⟩ (ws ++ cO :: r) a d' e) :
 e = 0 /\ ∃ s', d' = ⟨s', []⟩ /\ eA s (io ws) s' := by
 have : gz ⟨s, []⟩ (ws ++ [cO]) a d' e := by
  have hc := dg hs;rw [gz, if_neg (by simp [hc]), if_neg (by simp; omega), Int.toNat_natCast, take_append_of_le_length ha] at h;rw [gz, if_neg (by simp [hc]), if_neg (by simp; omega), Int.toNat_natCast, take_append_of_le_length ha];exact h
 obtain ⟨h1, s', h2, h3, -⟩ := F5 hs hw (by omega) this;exact ⟨h1, s', h2, h3⟩
theorem wP {ops : List bO} {n : Nat} (h : ∀ o ∈ ops, o.data.length <= n) : tot ops <= ops.length * n := by
 induction ops with
 | nil => simp [tot]
 | cons o ops ih =>
  have := ih fun x hx => h x (by simp [hx]);have e : tot (o :: ops) = o.data.length + tot ops := by simp [tot]
  have := h o (by simp);rw [e, length_cons, Nat.succ_mul]; omega
theorem en.dat {n : Nat} {ws : List bO} (h : en n ws) : ∀ o ∈ ws, o.data.length <= n := fun o ho => by
 obtain ⟨a, l, rfl, hl⟩ := h o ho;show l.length <= n;omega
theorem en.tot {n : Nat} {ws : List bO} (h : en n ws) : Go.Proofs.YtfflhepmkhlppaaGreatDoor.tot (ws ++ [cO]) <= (ws.length + 1) * n := by
 have := wP (ops := ws ++ [cO]) (n := n) fun o ho => by
  rcases mem_append.1 ho with ho | ho
  · exact h.dat o ho
  · rw [mem_singleton] at ho; rw [ho]; exact zero_le _
 rwa [length_append, length_singleton] at this
theorem en.run {s : List au} {ws : List bO} (hs : s.length <= 4096) (h : en s.length ws) : du ⟨s, []⟩ (ws ++ [cO]) = (⟨a8 s ws, []⟩, ws.length + 1, 0) := by
 rw [kY hs (fun o ho => by
  rcases mem_append.1 ho with ho | ho
  · exact h.ok o ho
  · rw [mem_singleton] at ho; exact .inl ho) (.inr (by simp)), jn, gL, length_append, length_singleton]; rfl
theorem yR {s : List au} (hs : s.length <= 4096) : du ⟨s, []⟩ [] = (⟨s, []⟩, 0, 0) := by rw [du, if_neg (by simp [dg hs])]; rfl
def me (n : Nat) : List au := List.replicate n aP
theorem gT (n : Nat) : (me n).length = n := length_replicate ..
theorem pm {n q : Nat} (h : q < n) : (me n)[q]? = some aP := by rw [me, getElem?_replicate, if_pos h]
theorem tp {n a k : Nat} (h : a + k <= n) : nA (me n) a (List.replicate k aP) = me n := by
 refine ext_getElem? fun q => ?_;rw [fZ (by rw [gT, length_replicate]; exact h), length_replicate]
 split
 · rename_i c
   rw [pm (by omega), getElem?_replicate, if_pos (by omega)]
 · rfl
theorem uu : (bk 0 1).length <= 31 := rS 0 1
theorem vS : ii (bN 1 (bk 0 1) ++ List.replicate 8 aP) = (1, bk 0 1) := by kernel_rfl
theorem xT : Nat.ble (d9 (bN 1 (bk 0 1) ++ List.replicate 8 aP)) 1 = true := by kernel_rfl
theorem O3 {a b : List au} (h : a = b) (g : Nat.ble (d9 b) 1 = true) : d9 a <= 1 := by subst h; exact Nat.le_of_ble_eq_true g
def lQ (n st : Nat) : List au := nA (me n) st (bN 1 (bk 0 1))
theorem jg (n st : Nat) : (lQ n st).length = n := by rw [lQ, fY, gT]
theorem vb {n st : Nat} (h : st + 16 <= n) {q : Nat} (hq : q < n) (ho : q < st \/ st + 16 <= q) : (lQ n st)[q]? = some aP := by
 rw [lQ, fZ (by rw [gT, cD]; omega), cD, if_neg (by omega), pm hq]
theorem va {n st : Nat} (h : st + 16 <= n) : ip st (lQ n st) = bN 1 (bk 0 1) ++ List.replicate 8 aP := by
 refine ext_getElem? fun i => ?_;rw [ip, getElem?_take, getElem?_drop, lQ, fZ (by rw [gT, cD]; omega), cD]
 by_cases c : i < 8
 · rw [if_pos (by omega), if_pos (by omega), getElem?_append_left (by rw [cD]; exact c)]; congr 1; omega
 · rw [getElem?_append_right (by rw [cD]; omega), cD, getElem?_replicate]
   by_cases c2 : i < 16
   · rw [if_pos c2, if_neg (by omega), if_pos (by omega), pm (by omega)]
   · rw [if_neg c2, if_neg (by omega)]
def oN (st c : Int) : bW := ⟨st, c, 0, 0, 1, []⟩
theorem KE {n st : Nat} {c : Int} (hv : bf st c = true) (h : st + c.toNat <= n) (hn : n <= 4096) : RJ (lQ n st) (oN st c) [] [] 1 := by
 have v := (aM _ _).1 hv;have hc : cE (oN st c) = true := by
  rw [bG];refine ⟨hv, (dF _).2 ⟨?_, ?_, ?_, ?_, ?_⟩, rfl, ?_, ?_⟩
  · show (0 : Int) <= 0; omega
  · show (0 : Int) < c - 16; omega
  · show (1 : Int) <= 1; omega
  · simp [oN]
  · simp [oN]
  · show (0 : Int) <= c - 16; omega
  · show (0 : Int) = (0 + 0) % (c - 16); simp
 have hjd : JD (lQ n st) (oN st c) 1 := by
  refine ⟨hc, by rw [jg]; show (st : Int).toNat + c.toNat <= n; omega, 1, ?_⟩;show Gd (st : Int).toNat _ 1 (bk 0 1) 1;rw [Int.toNat_natCast];exact ⟨by rw [jg]; omega, by rw [jg]; exact hn, by rw [va (by omega), vS], le_refl _, O3 (va (by omega)) xT⟩
 refine ⟨hjd, rfl, kT.nil _, .inl rfl, j8 (lQ n st) (oN st c), rfl, fun i x hx => .inl ?_, .inl rfl⟩;show (gn x : Int) < 1 + ((0 : Nat) : Int);have hx' : (cM (lQ n st) (st + 16) 0 (c - 16).toNat)[i]? = some x := hx;have hi : i < (c - 16).toNat := by have := (List.getElem?_eq_some_iff.1 hx').1; rwa [bz] at this
 have hp := fg (h := 0) (n := (c - 16).toNat) (i := i) (by omega) (by omega);rw [cy (by rw [jg]; omega) (by omega) hi, vb (by omega) (by omega) (by omega)] at hx';rw [<- Option.some.inj hx', oW]; decide
theorem zE {st : Nat} {c : Int} (hv : bf st c = true) : b8 st c = (oN st c, dG ((st + 16 : Nat) : Int) (List.replicate (c - 16).toNat aP) :: cO :: [dG (st : Int) (List.replicate 16 aP), cO, dG (st : Int) (bN 1 (bk 0 1)), cO], 0) := by
 have v := (aM _ _).1 hv;have hf : dz (st : Int) (bk 0 1) = ([dG (st : Int) (List.replicate 16 aP), cO, dG (st : Int) (bN 1 (bk 0 1)), cO], 0) := by
  rw [dz, if_neg (by omega), if_neg (by have := uu; omega)]
 rw [b8, if_neg (by simp [hv]), hf, if_neg (by simp)];rfl
theorem CQ {st n : Nat} {c : Int} (hv : bf st c = true) (h : st + c.toNat <= n) : a8 (me n) (b8 st c).2.1 = lQ n st /\ (∀ o ∈ (b8 st c).2.1, yh n o) /\ (b8 st c).2.1.getLast? = some cO := by
 have v := (aM _ _).1 hv;rw [zE hv];refine ⟨?_, fun o ho => ?_, rfl⟩
 · dsimp only
   rw [gK, gL, gK, gL, gK, gL, a8, tp (by omega), tp (by omega)]; rfl
 · simp only [mem_cons, not_mem_nil, or_false] at ho
   rcases ho with rfl | rfl | rfl | rfl | rfl | rfl
   · exact .inr ⟨_, _, rfl, by rw [length_replicate]; omega⟩
   · exact .inl rfl
   · exact .inr ⟨_, _, rfl, by rw [length_replicate]; omega⟩
   · exact .inl rfl
   · exact .inr ⟨_, _, rfl, by rw [cD]; omega⟩
   · exact .inl rfl
theorem RJ.mono {s : List au} {j : bW} {rs : List cV} {l : List au} {T T' : Nat} (h : RJ s j rs l T) (ht : T <= T') : RJ s j rs l T' := by
 refine ⟨⟨h.jd.chk, h.jd.len, ?_⟩, h.sz, h.rc, h.lk, h.ring⟩;obtain ⟨g, hg⟩ := h.jd.gd;exact ⟨g, hg.l1, hg.l2, hg.bst, hg.pos, Nat.le_trans hg.top ht⟩
theorem mE {s s' : List au} {P : Nat -> au -> Prop} {a b : Nat} (hm : eA s P s') (hP : ∀ q x, P q x -> a <= q /\ q < b) {q : Nat} (hq : q < a \/ b <= q) : s'[q]? = s[q]? := by
 rcases hm.2 q with e | ⟨x, hx, -⟩
 · exact e
 · have := hP q x hx; omega
def oS (ws : List bO) : List bO := if ws = [] then [] else ws ++ [cO]
theorem MR {s : List au} {ws : List bO} (hs : s.length <= 4096) (h : en s.length ws) : du ⟨s, []⟩ (oS ws) = (⟨a8 s ws, []⟩, (oS ws).length, 0) := by
 rw [oS]
 split
 · rename_i e; subst e; rw [yR hs]; rfl
 · rw [h.run hs, length_append]; rfl
theorem MS (ws : List bO) : (oS ws).length <= ws.length + 1 := by
 rw [oS]
 split
 · simp
 · simp
theorem MQ {n : Nat} {ws : List bO} (h : en n ws) : tot (oS ws) <= (ws.length + 1) * n := by
 rw [oS]
 split
 · simp [tot]
 · exact h.tot
@[go_sem, simp] theorem QE (d : Dk) : (cj d).drop 2 = [] := rfl
section
open Go.Proofs
end
def WB : Wr := ⟨0, 0, []⟩
def JM : Except Nat (List Wr × List UInt8) -> Option Wr
 | .ok ([w], []) => some w
 | _ => none
def s9 (r : cV) : Option Wr := if r.kind = 1 then JM (cq po r.pay) else none
def AJ : Option Wr -> CV
 | none => .tup [.agg (bq WB), er 3]
 | some w => .tup [.agg (bq w), er 0]
theorem u4 (i j : Nat) (x : Option Wr) : aK i j (AJ x) := by
 cases x <;> simp [AJ, go_sem, okL, aK, tv]
theorem O2 : Le (.agg [ci 0, ci 0, .v (.slice none 0 0)]) (.agg (bq WB)) := .agg (.cons (.refl _) (.cons (.refl _) (.cons (.nil 8 (by decide)) .nil)))
theorem AO (H : Hp) (V : List Nat) (r : cV) (hl : r.pay.length <= 1000000000) : CC Tryz.prog 84 [.agg (gl r)] H V (Pu (AJ (s9 r)) H V) := by
 refine aj Tryz.func84 rfl fun hok oH => ?_;clear hok;have bad : ∀ {H' : Hp} {V' : List Nat}, s9 r = none -> H'.take H.length = H -> V'.take V.length = V -> ao H.length V.length (Pu (AJ (s9 r)) H V) (.tup [.agg [ci 0, ci 0, .v (.slice none 0 0)], er 3]) H' V' := fun h1 h2 h3 => by
  rw [h1];exact ao.pu (.tup (.cons O2 (.cons (.refl _) .nil))) (u4 _ _ none) oH h2 h3
 refine aa (ab ?_);simp [go_sem, ai];refine aa (ab ?_);simp [go_sem];refine ah (DF _ _ .sh r.pay hl) ?_;have hs : s9 r = if r.kind = 1 then JM (cq po r.pay) else none := rfl
 generalize cq po r.pay = x at hs ⊢
 cases x with
 | error e =>
  have hs' : s9 r = none := by rw [hs]; split <;> rfl
  simp [go_sem, ug];refine aa (aa (ab ?_))
  by_cases hk : r.kind = 1
  · simp [go_sem, hk]
    refine ⟨fun _ => ?_, fun _ => ?_⟩
    · refine ab ?_
      simp [go_sem];exact bad hs' (by simp) (by simp)
    · refine ab ?_
      simp [go_sem];exact bad hs' (by simp) (by simp)
  · simp [go_sem, hk]
    refine ab ?_;simp [go_sem];exact bad hs' (by simp) (by simp)
 | ok x =>
  obtain ⟨l, s⟩ := x;simp [go_sem, ug];refine aa (aa (ab ?_))
  by_cases hk : r.kind = 1
  case neg =>
   rw [if_neg hk] at hs;simp [go_sem, hk];refine ab ?_;simp [go_sem];exact bad hs (by simp) (by simp)
  rw [if_pos hk] at hs
  cases s with
  | cons b s =>
   have hs' : s9 r = none := by
    rw [hs]
    match l with
    | [] => rfl
    | [w] => rfl
    | _ :: _ :: _ => rfl
   have hb : 0 < ((b :: s).length : Int) := by rw [length_cons]; omega
   simp [go_sem, hk, hb];refine ab ?_;simp [go_sem];exact bad hs' (by simp) (by simp)
  | nil =>
   match l with
   | [] =>
    simp [go_sem, hk];refine ab ?_;simp [go_sem];exact bad hs (by simp) (by simp)
   | [w] =>
    simp [go_sem, hk];refine ab ?_;simp [go_sem];refine aa (ab ?_);simp [go_sem];refine ab ?_;simp [go_sem];rw [hs];exact ao.pu (.refl _) (u4 _ _ (some w)) oH (by simp) (by simp)
   | a :: b :: l =>
    have hb : ¬ (l.length : Int) + 1 + 1 = 1 := by omega
    simp [go_sem, hk, hb];refine ab ?_;simp [go_sem];exact bad hs (by simp) (by simp)
def jz (s : List au) (a : Nat) (l : List Int) : Nat -> bX
 | 0 => []
 | i + 1 => jz s a l i ++ [(s.drop (a + (ay (l.take i)).toNat)).take (l.getD i 0).toNat]
def da (s : List au) (a : Nat) (l : List Int) : bX := jz s a l l.length
theorem n7 (s : List au) (a : Nat) (l : List Int) : ∀ i, (jz s a l i).length = i
 | 0 => rfl
 | i + 1 => by rw [jz, length_append, n7 s a l i]; rfl
def M6 (s : List au) (a : Nat) (l : List Int) (i : Nat) : List (List CV) := (jz s a l i).map eB
theorem M5 (s : List au) (a : Nat) (l : List Int) (i : Nat) : (M6 s a l i).length = i := by rw [M6, length_map, n7]
theorem aaQ (s : List au) (a : Nat) (l : List Int) (i : Nat) : M6 s a l (i + 1) = M6 s a l i ++ [eB ((s.drop (a + (ay (l.take i)).toNat)).take (l.getD i 0).toNat)] := by rw [M6, jz, map_append]; rfl
theorem xU (H : Hp) (V : List Nat) (d : Dk) (l : List Int) (a : Nat) (hd : rL d) (hc : aH d = 0) (hz : ew l) (hin : (a : Int) + ay l <= d.stable.length) : CC Tryz.prog 32 [.agg (cj d), .sl .sh 1 (l.map ic), ci a] H V (Pu (.tup [F9 (da (aU d) a l), er 0]) H V) := by
 refine aj Tryz.func32 rfl fun hok oH => ?_;clear hok;have hst := kO hc;have hnl := bR d;refine aa (ab ?_);simp [go_sem, ai];refine aa (ab ?_);simp [go_sem];refine am (α := Nat) (fun v => ([(8, .sl (.own V.length v) 1 (M6 (aU d) a l l.length))], H ++ [some (cj d)], V ++ [v])) (fun _ => True) ?_ ?_
 · refine aa (ab ?_)
   simp [go_sem];refine af ?_;refine al (α := Nat × Nat) (fun x => ([(2, ci (a + ay (l.take x.1))), (3, .ptr H.length 0), (8, .sl (.own V.length x.2) 1 (M6 (aU d) a l x.1)), (13, .sl .sh 1 (l.map ic)), (14, ci l.length), (15, ci x.1)], H ++ [some (cj d)], V ++ [x.2])) (fun x => x.1 <= l.length) (fun x => l.length - x.1) (0, 0) (zero_le _) (Sh.tokT (by simp [go_sem, ay, M6, jz]) rfl rfl) ?_;rintro ⟨i, v⟩ hi;dsimp only at hi ⊢;refine aa (ab ?_);simp [go_sem];refine aa (ab ?_);simp [go_sem];refine ⟨fun h => ?_, fun h => ?_⟩
   case refine_2 =>
    obtain rfl : i = l.length := by omega
    exact ⟨v, ae (by simp [go_sem]) rfl rfl⟩
   have hsu := hz.sum i;have hl0 := hz.2 l[i] (getElem_mem h);have hl1 := hz.1;have htk := fC l i h;have hmo : ay (l.take (i + 1)) <= ay l := by
    have e := mj (l.take (i + 1)) (l.drop (i + 1));rw [take_append_drop] at e;have hd2 : ew (l.drop (i + 1)) := ⟨by rw [length_drop]; omega, fun n hn => hz.2 n (mem_of_mem_drop hn)⟩
    have := hd2.sum';omega
   obtain ⟨q, hq⟩ : ∃ q : Nat, ay (l.take i) = (q : Int) := ⟨(ay (l.take i)).toNat, by omega⟩
   obtain ⟨k, hk⟩ : ∃ k : Nat, l[i] = (k : Int) := ⟨l[i].toNat, by omega⟩
   have hrd : bD d ((a : Int) + (q : Int)) (k : Int) = (((aU d).drop (a + q)).take k, 0) := by
    rw [bD, if_neg (by simp [hc]), if_neg (by simp [bn]; omega)];rw [show ((a : Int) + (q : Int)).toNat = a + q by omega, Int.toNat_natCast]
   have hxs := aaQ (aU d) a l i;have hxl := M5 (aU d) a l i;rw [hq, Int.toNat_natCast, getD_eq_getElem?_getD, getElem?_eq_getElem h, Option.getD_some, hk, Int.toNat_natCast] at hxs;generalize M6 (aU d) a l i = M at hxs hxl ⊢;rw [hq];refine aa (af (aa (ab ?_)));simp [go_sem, h, hk];refine aa (ab ?_);simp [go_sem];refine ah (pM _ _ d ⟨(a : Int) + (q : Int), (k : Int)⟩ hd) ?_;dsimp only;rw [hrd];simp [go_sem];refine aa (aa (ab ?_));simp [go_sem];refine ab ?_;simp [go_sem];have w3 : IntKind.i64.wrap ((a : Int) + (q : Int) + (k : Int)) = (a : Int) + (q : Int) + (k : Int) := IntWalk.i64_in _ ⟨by omega, by omega⟩;refine ab ?_;simp [go_sem, w3, hxl];refine ⟨by omega, ?_⟩;refine ab ?_;simp [go_sem];refine ⟨i + 1, by omega, by omega, v + 1, ae ?_ rfl (by simp)⟩;rw [hxs, htk, hq, hk];simp [go_sem, aq (show i <= 1000000000 by omega), eB, aF, map_take, map_drop, Int.add_assoc]
 rintro v -;dsimp only;refine aa (ab ?_);simp [go_sem];refine ab ?_;simp [go_sem];refine ao.pu (.tup (.cons ?_ (.cons (.refl _) .nil))) (by simp [go_sem, okL, aK, gH]) oH (by simp) (by simp);exact .sh _ _ _
def oc (im : bX) (r : cV) : Wr × Nat :=
 match s9 r with
 | none => (WB, 3)
 | some w => (w, gc im w)
theorem um {im : bX} {r : cV} (h : s9 r = none) : oc im r = (WB, 3) := by rw [oc, h]
theorem pq {im : bX} {r : cV} {w : Wr} (h : s9 r = some w) : oc im r = (w, gc im w) := by rw [oc, h]
theorem zZ (H : Hp) (V : List Nat) (im : bX) (rs : List cV) : CC Tryz.prog 34 [.sl .sh 1 (im.map eB), .sl .sh 3 (rs.map gl)] H V (fun r H' V' => r = .fn 83 [.ptr (H.length + 1) 0, .ptr H.length 0] /\ H' = H ++ [some [.sl .sh 1 (im.map eB)], some [.sl .sh 3 (rs.map gl)]] /\ V = V') := by
 refine aj Tryz.func34 rfl fun hok oH => ?_;clear hok;refine aa (ab ?_);simp [go_sem, ai];refine ab ?_;simp [go_sem];refine ao.cut (H.length + 2) V.length ⟨rfl, rfl, rfl⟩ (by omega) (le_refl _) (take_of_length_le (by simp)) (take_of_length_le (le_refl _)) (.refl _) (by simp [go_sem]) ?_;intro b cs hb;rw [getElem?_append] at hb
 split at hb
 · exact aO (by omega) (le_refl _) (oH b cs hb)
 · exact cK (i := H.length + 2) (j := V.length) (L := [some [.sl .sh 1 (im.map eB)], some [.sl .sh 3 (rs.map gl)]]) (by simp [go_sem, okL, aK, gH, zh]) _ _ hb
theorem wK (H : Hp) (V : List Nat) (L b1 b2 : Nat) (im : bX) (rs : List cV) (hb1 : H[b1]? = some (some [.sl .sh 3 (rs.map gl)])) (hb2 : H[b2]? = some (some [.sl .sh 1 (im.map eB)])) (hrl : rs.length <= 1000000000) (hrp : ∀ r ∈ rs, r.pay.length <= 1000000000)
 (hil : im.length <= 1000000000) (hiv : ∀ v ∈ im, v.length <= 1000000000) (hwd : ∀ r ∈ rs, ∀ w, s9 r = some w -> w.data.length <= 1000000000)
 (I : Nat -> Hp -> List Nat -> Prop) (Q : Hp -> List Nat -> Prop) (h0 : I 0 H V)
 (hI : ∀ i G V', I i G V' -> G.length = H.length /\ G[b1]? = some (some [.sl .sh 3 (rs.map gl)]) /\ G[b2]? = some (some [.sl .sh 1 (im.map eB)]))
 (hn : ∀ i (h : i < rs.length), (oc im rs[i]).2 = 0 -> ∀ G V' W, I i G V' -> YC Tryz.prog L [.agg (bq (oc im rs[i]).1), er 0] (G ++ W) V' (fun r H2 V2 => r = .v (.bool true) /\ ∃ G' W', I (i + 1) G' V2 /\ H2 = G' ++ (W ++ W')))
 (he : ∀ i (h : i < rs.length), (oc im rs[i]).2 ≠ 0 -> ∀ G V' W, I i G V' -> YC Tryz.prog L [.agg (bq (oc im rs[i]).1), er (oc im rs[i]).2] (G ++ W) V' (fun r H2 V2 => ∃ b, r = .v (.bool b) /\ ∃ G' W', Q G' V2 /\ H2 = G' ++ (W ++ W')))
 (hq : ∀ G V', I rs.length G V' -> Q G V') :
 CC Tryz.prog 83 [.yl L, .ptr b1 0, .ptr b2 0] H V (fun _ H' V' => ∃ G W, Q G V' /\ H' = G ++ W) := by
 have lt1 := (List.getElem?_eq_some_iff.1 hb1).1;have lt2 := (List.getElem?_eq_some_iff.1 hb2).1;refine aj Tryz.func83 rfl fun hok oH => ?_;clear hok;refine aa (ab ?_);simp [go_sem, ai, ak hb1];refine af ?_;refine al (α := Nat × Hp × Hp × List Nat) (fun x => ([(0, .yl L), (1, .ptr b1 0), (2, .ptr b2 0), (8, .sl .sh 3 (rs.map gl)), (9, ci rs.length), (10, ci x.1)], x.2.1 ++ x.2.2.1, x.2.2.2)) (fun x => x.1 <= rs.length /\ I x.1 x.2.1 x.2.2.2) (fun x => rs.length - x.1) (0, H, [], V) ⟨zero_le _, h0⟩ (ae (by simp [go_sem]) (by simp) rfl) ?_;rintro ⟨i, G, W, V1⟩ ⟨hi, hi1⟩;dsimp only at hi hi1 ⊢;obtain ⟨g0, g1, g2⟩ := hI _ _ _ hi1;refine aa (ab ?_);simp [go_sem];refine aa (ab ?_);simp [go_sem];refine ⟨fun h => ?_, fun h => ?_⟩
 case refine_2 =>
  obtain rfl : i = rs.length := by omega
  exact ao.self ⟨G, hq _ _ hi1, W, rfl⟩
 have hK1 : (G ++ W)[b1]? = some (some [.sl .sh 3 (rs.map gl)]) := by rw [getElem?_append_left (by omega)]; exact g1
 have hK2 : (G ++ W)[b2]? = some (some [.sl .sh 1 (im.map eB)]) := by rw [getElem?_append_left (by omega)]; exact g2
 have hkl : b2 < (G ++ W).length := by rw [length_append]; omega
 have hnn := hn i h;have hee := he i h;have hpay := hrp _ (getElem_mem h);have hwdd := hwd _ (getElem_mem h);obtain ⟨K, hK⟩ : ∃ K, K = G ++ W := ⟨_, rfl⟩
 rw [<- hK] at hK1 hK2 hkl ⊢;refine aa (af (aa (ab ?_)));simp [go_sem, h];refine aa (ab ?_);simp [go_sem];refine ah (AO _ _ rs[i] hpay) ?_;have k2 : ∀ M : Hp, (K ++ M)[b2]? = some (some [.sl .sh 1 (im.map eB)]) := fun M => by rw [getElem?_append_left hkl]; exact hK2
 cases hsn : s9 rs[i] with
 | none =>
  have hwe := um (im := im) hsn;simp [go_sem, AJ];refine aa (aa (ab ?_));simp [go_sem];refine ab ?_;simp [go_sem];rw [hwe] at hee;refine aa (ab ?_);simp [go_sem];have hy := hee (by decide) G V1 (W ++ [some (gl rs[i]), some (bq WB)]) hi1;rw [<- append_assoc, <- hK] at hy;refine YC.mono hy ?_;rintro _ _ V2 ⟨b, rfl, G', W', hQ, rfl⟩
  cases b with
  | false =>
   simp [go_sem];refine ab ?_;simp [go_sem];exact ao.self ⟨G', hQ, _, rfl⟩
  | true =>
   simp [go_sem];refine ab ?_;simp [go_sem];exact ao.self ⟨G', hQ, _, rfl⟩
 | some w =>
  have hwe := pq (im := im) hsn;simp [go_sem, AJ];refine aa (aa (ab ?_));simp [go_sem];refine ab ?_;simp [go_sem, ak (k2 [some (gl rs[i]), some (bq w)])];refine ah (pj _ _ .sh im w hil hiv (hwdd w hsn)) ?_;simp [go_sem];rw [hwe] at hee hnn;dsimp only at hee hnn;refine aa (ab ?_);simp [go_sem]
  by_cases hf : gc im w = 0
  case neg =>
   have hf' : ¬ (gc im w : Int) = 0 := by omega
   have hy := hee hf G V1 (W ++ [some (gl rs[i]), some (bq w)]) hi1;rw [<- append_assoc, <- hK] at hy;refine YC.mono hy ?_;rintro _ _ V2 ⟨b, rfl, G', W', hQ, rfl⟩
   cases b with
   | false =>
    simp [go_sem];refine ab ?_;simp [go_sem];exact ao.self ⟨G', hQ, _, rfl⟩
   | true =>
    simp [go_sem, hf, hf'];refine ab ?_;simp [go_sem];exact ao.self ⟨G', hQ, _, rfl⟩
  rw [hf];have hy := hnn hf G V1 (W ++ [some (gl rs[i]), some (bq w)]) hi1;rw [<- append_assoc, <- hK] at hy;refine YC.mono hy ?_;rintro _ _ V2 ⟨rfl, G', W', hI', rfl⟩;simp [go_sem];refine ab ?_;simp [go_sem];refine ab ?_;simp [go_sem];refine ⟨i + 1, G', W ++ [some (gl rs[i]), some (bq w)] ++ W', V2, ⟨by omega, hI'⟩, by omega, ae ?_ (by simp) rfl⟩;simp [go_sem, aq (show i <= 1000000000 by omega)]
end Go.Proofs.YtfflhepmkhlppaaGreatDoor
