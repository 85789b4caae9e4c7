import Derived.Test.YtfflhepmkhlppaaGreatDoorB9
import Derived.Shelf.Slices.Delete
import Derived.Test.YtfflhepmkhlppaaGreatDoorB4
set_option linter.unusedSimpArgs false
set_option linter.unusedVariables false
set_option linter.unusedSectionVars false
set_option maxRecDepth 8000
set_option maxHeartbeats 4000000
open List (all_append all_cons all_eq_true all_map any_eq_true append_assoc append_nil cons_append contains_iff_mem drop_append_of_le_length drop_drop drop_eq_getElem_cons drop_eq_nil_of_le drop_of_length_le drop_one drop_succ_cons drop_take drop_zero eq_nil_of_length_eq_zero ext_getElem ext_getElem? filter_cons flatMap_append flatMap_cons flatMap_nil flatten_append flatten_cons flatten_nil foldl_append foldl_cons getD_eq_getElem?_getD getElem?_append getElem?_append_left getElem?_append_right getElem?_cons_succ getElem?_cons_zero getElem?_drop getElem?_eq_getElem getElem?_eq_none getElem?_map getElem?_of_mem getElem?_replicate getElem?_set getElem?_set_ne getElem?_set_self getElem?_take getElem?_toArray getElem_drop getElem_map getElem_mem getElem_of_mem getElem_set length_append length_cons length_drop length_eq_zero_iff length_map length_nil length_pos_iff length_range length_replicate length_set length_singleton length_take mapM_cons map_append map_congr_left map_cons map_drop map_map map_nil map_set map_take mem_append mem_append_left mem_cons mem_cons_of_mem mem_cons_self mem_flatten mem_map mem_of_getElem? mem_of_mem_drop mem_of_mem_take mem_range mem_replicate mem_singleton nil_append not_mem_nil prefix_refl range_succ replicate_succ replicate_succ' set_append_left set_append_right set_eq_take_append_cons_drop set_getElem_self set_set size_toArray take_append take_append_drop take_append_of_le_length take_left take_length take_of_length_le take_set_of_le take_succ_cons take_succ_eq_append_getElem take_take take_zero zip_cons_cons)
open Nat (le_refl zero_le)
namespace Go.Proofs.YtfflhepmkhlppaaGreatDoor
open Go.Proofs
def xK (n i : Nat) : List Bool := List.replicate i true ++ List.replicate (n - i) false
theorem zH {n i : Nat} (h : i <= n) : (xK n i).length = n := by rw [xK, length_append, length_replicate, length_replicate]; omega
theorem LS {n i : Nat} (h : i < n) : (xK n i).set i true = xK n (i + 1) := by
 rw [xK, xK, set_append_right _ _ (by simp), length_replicate, Nat.sub_self, show n - i = (n - (i + 1)) + 1 by omega, replicate_succ, List.set_cons_zero, replicate_succ', append_assoc]; rfl
theorem LT (n k : Nat) (h : k < (xK n n).length) : (xK n n)[k] = true := by simp [xK]
theorem YT (n : Nat) : List.replicate n (cb false) = (xK n 0).map eL := by rw [xK]; simp
abbrev HC (H : Hp) (h : ie) (iss ack : List Int) (n i : Nat) (lp : Option (List CV)) : Hp :=
 H ++ (some (dv h iss ack) :: some [cb false] :: some ((xK n i).map eL) :: some [.bsl (H.length + 2) 0 n 1] :: some (dv h iss ack) :: some [.sl .sh 1 ((bT n).map ic)] :: lp :: [])
theorem vk (H : Hp) (V : List Nat) (h : ie) (iss ack : List Int) (n : Nat) (hn : n = h.ws.length) (hnl : n <= 1000000) : CC Tryz.prog 69 [.agg (dv h iss ack), .sl .sh 1 ((bT n).map ic)] H V (Pu (cb true) H V) := by
 refine CC.of_swp0 Tryz.func69 rfl (by kernel_rfl) (by rw [Tryz.ntmps69]; exact gu _ _ rfl) fun hok oH => ?_
 subst hn
 obtain ⟨n, hn⟩ : ∃ n, n = h.ws.length := ⟨_, rfl⟩
 have hfl := fp n
 rw [<- hn] at hnl ⊢
 refine aw (aD (ab ?_))
 simp -implicitDefEqProofs [go_sem, ai]
 refine aw (aD (ab ?_))
 simp -implicitDefEqProofs [go_sem]
 rw [<- hn]
 refine ⟨by omega, ?_⟩
 refine aw (aw (aD (ab ?_)))
 simp -implicitDefEqProofs [go_sem]
 refine CC.mono (lS _ _ h iss ack (bT n)) ?_
 rintro _ _ _ ⟨rfl, rfl, rfl⟩
 simp -implicitDefEqProofs [go_sem]
 simp only [Nat.add_assoc, Nat.reduceAdd]
 obtain ⟨TT, hTT⟩ : ∃ TT : Tm, TT = [(1, .sl .sh 1 ((bT n).map ic)), (2, .ptr H.length 0), (4, .ptr (H.length + 1) 0), (5, .ptr (H.length + 3) 0), (16, .fn 120 [.ptr (H.length + 5) 0, .ptr (H.length + 4) 0])] := ⟨_, rfl⟩
 refine aL.block (aL.range TT (by rfl) (by rw [hTT]; simp [go_sem]) ?_)
 simp -implicitDefEqProofs [go_sem]
 generalize hbd : Code.block 1 _ = bd
 generalize has : Code.region 3 _ _ = asg
 rw [show List.replicate n (CV.v (Value.bool false)) = (xK n 0).map eL from YT n]
 refine CC.mono (tD (HC H h iss ack n 0 (some [fQ 47 #[17, 18] asg bd TT .ready none])) V (H.length + 6) (H.length + 5) (H.length + 4) h iss ack n hn hnl (aC _ _ 5) (aC _ _ 4)
  (fun i G V' => i <= n /\ V' = V /\ G = HC H h iss ack n i (some [fQ 47 #[17, 18] asg bd TT .ready none])) ⟨zero_le _, rfl, rfl⟩ ?_ ?_) ?_
 · rintro i _ V' ⟨-, rfl, rfl⟩
   exact ⟨by simp, aC _ _ 5, aC _ _ 4⟩
 · rintro i hi _ _ W ⟨hin, rfl, rfl⟩
   refine YC.of_round (n := 47) (ps := #[17, 18]) (bd := bd) (T := TT) (by rw [append_assoc]; exact aC _ _ 6) rfl (by decide) ?_
   subst hbd has
   refine ab ?_
   simp -implicitDefEqProofs [go_sem, yD, hTT]
   generalize hlp : fQ 47 #[17, 18] _ _ _ LoopState.busy none = lp
   generalize hqq : RQ 47 #[17, 18] _ _ _ _ _ = QQ
   refine af (ab ?_)
   have hfi := zH (show i <= n by omega)
   simp -implicitDefEqProofs [go_sem]
   refine ⟨by omega, by omega, ?_⟩
   rw [<- hqq, <- hlp]
   refine ⟨aC _ _ 6, rfl, _, ⟨by omega, rfl, rfl⟩, [], ?_⟩
   have e := mX (xK n i) i (by omega)
   rw [LS (by omega)] at e
   simp [go_sem, <- e]
 rintro _ _ _ ⟨G, W, ⟨-, rfl, rfl⟩, rfl⟩
 refine .inl ⟨by rw [append_assoc]; exact aC _ _ 6, ?_⟩
 obtain ⟨K, hK⟩ : ∃ K, K = (HC H h iss ack n n (some [fQ 47 #[17, 18] asg bd TT .ready none]) ++ W).set (H.length + 6) none := ⟨_, rfl⟩
 have hKg : ∀ k x, k < 6 -> (HC H h iss ack n n (some [fQ 47 #[17, 18] asg bd TT .ready none]))[H.length + k]? = some x -> K[H.length + k]? = some x := fun k x hk hx => by
  rw [hK, getElem?_set_ne (by omega), getElem?_append_left (by simp; omega)]; exact hx
 have k0 := hKg 0 _ (by omega) (aC _ _ 0)
 have k1 := hKg 1 _ (by omega) (aC _ _ 1)
 have k2 := hKg 2 _ (by omega) (aC _ _ 2)
 have k3 := hKg 3 _ (by omega) (aC _ _ 3)
 have kH : K.take H.length = H := by rw [hK, take_set_of_le (by omega)]; simp
 have hKl : H.length + 3 < K.length := (List.getElem?_eq_some_iff.1 k3).1
 rw [<- hK]
 clear hK hKg hbd has
 rw [Nat.add_zero] at k0
 refine aw (aw (aD (ab ?_)))
 simp -implicitDefEqProofs [go_sem, hTT, ak k0]
 rename_i V
 refine CC.mono (lS _ _ h iss ack (bT n)) ?_
 rintro _ _ _ ⟨rfl, rfl, rfl⟩
 simp -implicitDefEqProofs [go_sem]
 clear hTT TT
 have kf : ∀ (L : Hp) (k : Nat) x, K[H.length + k]? = some x -> (K ++ L)[H.length + k]? = some x := fun L k x hx => by rw [getElem?_append_left (List.getElem?_eq_some_iff.1 hx).1]; exact hx
 obtain ⟨TT, hTT⟩ : ∃ TT : Tm, TT = [(2, .ptr H.length 0), (4, .ptr (H.length + 1) 0), (5, .ptr (H.length + 3) 0), (24, .fn 120 [.ptr (K.length + 1) 0, .ptr K.length 0])] := ⟨_, rfl⟩
 refine aL.block (aL.range TT (by rfl) (by rw [hTT]; simp [go_sem]) ?_)
 simp -implicitDefEqProofs [go_sem]
 generalize hbd : Code.block 3 _ = bd
 generalize has : Code.region 6 _ _ = asg
 refine CC.mono (tD (K ++ [some (dv h iss ack), some [.sl .sh 1 ((bT n).map ic)], some [fQ 47 #[25, 26] asg bd TT .ready none]]) V (K.length + 2) (K.length + 1) K.length h iss ack n hn hnl (aC _ _ 1) (aC _ _ 0)
  (fun i G V' => V' = V /\ G = K ++ [some (dv h iss ack), some [.sl .sh 1 ((bT n).map ic)], some [fQ 47 #[25, 26] asg bd TT .ready none]]) ⟨rfl, rfl⟩ ?_ ?_) ?_
 · rintro i _ V' ⟨rfl, rfl⟩
   exact ⟨rfl, aC _ _ 1, aC _ _ 0⟩
 · rintro i hi _ V W ⟨rfl, rfl⟩
   refine YC.of_round (n := 47) (ps := #[25, 26]) (bd := bd) (T := TT) (by rw [append_assoc]; exact aC _ _ 2) rfl (by decide) ?_
   subst hbd has
   refine ab ?_
   simp -implicitDefEqProofs [go_sem, yD, hTT]
   generalize hlp : fQ 47 #[25, 26] _ _ _ LoopState.busy none = lp
   generalize hqq : RQ 47 #[25, 26] _ _ _ _ _ = QQ
   have hff := zH (le_refl n)
   refine af (aa (ab ?_))
   have f0 : ∀ L : Hp, (K ++ L)[H.length]? = some (some (dv h iss ack)) := fun L => kf L 0 _ k0
   have f2 := fun L => kf L 2 _ k2
   have f3 := fun L => kf L 3 _ k3
   simp -implicitDefEqProofs [go_sem, ak (f0 _)]
   refine af ?_
   refine al (α := Nat) (fun a => ([(2, .ptr H.length 0), (5, .ptr (H.length + 3) 0), (7, ci i), (30, ci n), (31, ci a)], K ++ some (dv h iss ack) :: some [.sl .sh 1 ((bT n).map ic)] :: some [lp] :: W, V)) (fun a => a <= n) (fun a => n - a) 0 (zero_le _) (ae (by simp [go_sem, <- hn]) rfl rfl) ?_
   intro a ha
   dsimp only
   refine aa (ab ?_)
   simp -implicitDefEqProofs [go_sem]
   refine aa (ab ?_)
   by_cases h0 : a < n
   case neg =>
    obtain rfl : a = n := by omega
    simp -implicitDefEqProofs [go_sem]
    rw [<- hqq, <- hlp]
    refine ⟨aC _ _ 2, rfl, _, ⟨rfl, rfl⟩, [], ?_⟩
    simp [go_sem]
   have wi : IntKind.i64.wrap ((a : Int) + 1) = (a : Int) + 1 := aq (show a <= 1000000000 by omega)
   have hfa := LT n a (by omega)
   have haf : a < (xK n n).length := by omega
   simp -implicitDefEqProofs [go_sem, h0]
   refine aa (af (aa (ab ?_)))
   simp -implicitDefEqProofs [go_sem]
   refine aa (ab ?_)
   simp -implicitDefEqProofs [go_sem, ak (f0 _), ak (f2 _), ak (f3 _), hfa, haf]
   refine ⟨by omega, ?_⟩
   refine ab ?_
   simp -implicitDefEqProofs [go_sem]
   refine ab ?_
   simp -implicitDefEqProofs [go_sem, wi]
   exact ⟨a + 1, by omega, by omega, ae (by simp [go_sem, wi]) rfl rfl⟩
 rintro _ _ _ ⟨G, W, ⟨rfl, rfl⟩, rfl⟩
 refine .inl ⟨by rw [append_assoc]; exact aC _ _ 2, ?_⟩
 have f1 := fun L => kf L 1 _ k1
 have f4 : ∀ (L : Hp) (Q : List CV) (C : List CV -> Prop), dN ((K ++ L).set (H.length + 1) (some Q)) (H.length + 1) C = C Q := fun L Q C => ak (getElem?_set_self (by rw [length_append]; omega)) C
 rw [append_assoc]
 refine aw (aD (ab ?_))
 simp -implicitDefEqProofs [go_sem, ak (f1 _)]
 refine aD (ab ?_)
 simp -implicitDefEqProofs [go_sem]
 rw [f4]
 simp -implicitDefEqProofs [go_sem]
 refine aA rfl oH ?_ (by simp)
 rw [take_set_of_le (by omega), take_append_of_le_length (by omega)]
 exact kH
theorem xH (H : Hp) (V : List Nat) (h : ie) (m : Nat) (hh : jC h m) (n : Nat) (hn : n = h.ws.length) : CC Tryz.prog 29 [.agg (gI h), .sl .sh 1 ((bT n).map ic)] H V (Pu (cb true) H V) := by
 refine aj Tryz.func29 rfl fun hok oH => ?_;clear hok;have hwl := hh.wl;have hml := hh.ml;refine aa (ab ?_);simp [go_sem, ai];refine aa (ab ?_);simp [go_sem];refine ah (mJ _ _ h m hh) ?_;simp [go_sem];refine aa (ab ?_);simp [go_sem];refine ah (vj _ _ h (eI m) (ee m) n hn (by omega)) ?_;simp [go_sem];refine ah (vk _ _ h (eI m) (ee m) n hn (by omega)) ?_;simp [go_sem];refine ab ?_;simp [go_sem];exact aA rfl oH (by simp) (by simp)
abbrev HI (H : Hp) (h : ie) (iss ack : List Int) (n : Nat) (l : CV) (lp : Option (List CV)) : Hp :=
 H ++ (some (gI h) :: some (dv h iss ack) :: some [l] :: some (dv h iss ack) :: some [.sl .sh 1 ((bT n).map ic)] :: lp :: [])
theorem CJ (H : Hp) (V : List Nat) (h : ie) (m : Nat) (hh : jC h m) (n : Nat) (hn : n = h.ws.length) : CC Tryz.prog 28 [.agg (gI h), .sl .sh 1 ((bT n).map ic)] H V (Pu (.tup [F9 (fM (bo h.sizes) h.ws), er 0]) H V) := by
 refine CC.of_swp0 Tryz.func28 rfl (by kernel_rfl) (by rw [Tryz.ntmps28]; exact gu _ _ rfl) fun hok oH => ?_
 have hfl := fp n
 have hwl := hh.wl
 have hml := hh.ml
 have hsl := hh.sl
 have him := hh.im
 refine aw (aD (ab ?_))
 simp -implicitDefEqProofs [go_sem, ai]
 refine aw (aD (ab ?_))
 simp -implicitDefEqProofs [go_sem]
 refine CC.mono (mJ _ _ h m hh) ?_
 rintro _ _ _ ⟨rfl, rfl, rfl⟩
 simp -implicitDefEqProofs [go_sem]
 refine aw (aD (aa (ab ?_)))
 simp -implicitDefEqProofs [go_sem]
 refine ab ?_
 simp -implicitDefEqProofs [go_sem]
 refine aw (aD (aa (ab ?_)))
 simp -implicitDefEqProofs [go_sem]
 refine CC.mono (vj _ _ h (eI m) (ee m) n hn (by omega)) ?_
 rintro _ _ _ ⟨rfl, rfl, rfl⟩
 simp -implicitDefEqProofs [go_sem]
 refine ab ?_
 simp -implicitDefEqProofs [go_sem]
 refine aw (aD (ab ?_))
 simp -implicitDefEqProofs [go_sem]
 refine CC.mono (md _ _ .sh h.sizes (by omega)) ?_
 rintro _ _ _ ⟨rfl, rfl, rfl⟩
 rw [hh.sz, if_neg (by simp)]
 simp -implicitDefEqProofs [go_sem]
 refine aw (aD (ab ?_))
 simp -implicitDefEqProofs [go_sem]
 refine aw (aw (aD (ab ?_)))
 simp -implicitDefEqProofs [go_sem]
 refine CC.mono (lS _ _ h (eI m) (ee m) (bT n)) ?_
 rintro _ _ _ ⟨rfl, rfl, rfl⟩
 simp -implicitDefEqProofs [go_sem]
 simp only [Nat.add_assoc, Nat.reduceAdd]
 obtain ⟨TT, hTT⟩ : ∃ TT : Tm, TT = [(8, F9 (bo h.sizes)), (10, .ptr (H.length + 2) 0), (35, .fn 120 [.ptr (H.length + 4) 0, .ptr (H.length + 3) 0])] := ⟨_, rfl⟩
 refine aL.ghost (T' := TT) (H' := H ++ [some (gI h), some (dv h (eI m) (ee m)), some [.sl (.own V.length 0) 3 []], some (dv h (eI m) (ee m)), some [.sl .sh 1 ((bT n).map ic)]]) (V' := V ++ [0]) (Sh.tokB (b := H.length + 2) (d := .sl (.own V.length 0) 3 []) (aC _ _ 2) (by simp [go_sem]) (by simp [CV.isObj]) (by rw [hTT]; simp [go_sem]) (by simp) rfl) ?_
 refine aL.block (aL.range TT (by rw [hTT]; rfl) (by rw [hTT]; simp [go_sem]) ?_)
 simp -implicitDefEqProofs [go_sem]
 generalize hbd : Code.block 1 _ = bd
 generalize has : Code.region 9 _ _ = asg
 refine CC.mono (tD (HI H h (eI m) (ee m) n (.sl (.own V.length 0) 3 ((h.ws.take 0).map bq)) (some [fQ 51 #[36, 37] asg bd TT .ready none])) (V ++ [0]) (H.length + 5) (H.length + 4) (H.length + 3) h (eI m) (ee m) n hn (by omega) (aC _ _ 4) (aC _ _ 3)
  (fun i G V' => V' = V ++ [i] /\ G = HI H h (eI m) (ee m) n (.sl (.own V.length i) 3 ((h.ws.take i).map bq)) (some [fQ 51 #[36, 37] asg bd TT .ready none])) ⟨rfl, rfl⟩ ?_ ?_) ?_
 · rintro i _ V' ⟨rfl, rfl⟩
   exact ⟨by simp, aC _ _ 4, aC _ _ 3⟩
 · rintro i hi _ _ W ⟨rfl, rfl⟩
   refine YC.of_round (n := 51) (ps := #[36, 37]) (bd := bd) (T := TT) (by rw [append_assoc]; exact aC _ _ 5) rfl (by decide) ?_
   subst hbd has
   refine ab ?_
   simp -implicitDefEqProofs [go_sem, yD, hTT]
   generalize hlp : fQ 51 #[36, 37] _ _ _ LoopState.busy none = lp
   generalize hqq : RQ 51 #[36, 37] _ _ _ _ _ = QQ
   have htk : (h.ws.take (i + 1)).map bq = (h.ws.take i).map bq ++ [bq h.ws[i]] := by rw [take_succ_eq_append_getElem hi, map_append]; rfl
   have hmn : min i h.ws.length = i := by omega
   refine af (ab ?_)
   simp -implicitDefEqProofs [go_sem, hmn]
   refine ⟨by omega, ?_⟩
   rw [<- hqq, <- hlp]
   refine ⟨aC _ _ 5, rfl, _, ⟨rfl, rfl⟩, [some (bq h.ws[i])], ?_⟩
   rw [map_take, map_take] at htk
   rw [htk]
   simp [go_sem]
 rintro _ _ _ ⟨G, W, ⟨rfl, rfl⟩, rfl⟩
 refine .inl ⟨by rw [append_assoc]; exact aC _ _ 5, ?_⟩
 rw [append_assoc]
 have htn : h.ws.take n = h.ws := take_of_length_le (by omega)
 rw [htn]
 refine aw (aD (ab ?_))
 simp -implicitDefEqProofs [go_sem, hTT]
 refine CC.le (ys := [.sl .sh 1 ((bo h.sizes).map eB), .sl .sh 3 (h.ws.map bq)]) (.cons (.refl _) (.cons (.sh _ _ _) .nil)) ?_
 refine CC.mono (qu _ _ .sh (bo h.sizes) h.ws him.1 (by omega) (fun w hw => by have := hh.dl w hw; omega)) ?_
 rintro _ _ _ ⟨rfl, rfl, rfl⟩
 have har : ij (bo h.sizes) h.ws = (fM (bo h.sizes) h.ws, 0, 0) := sS (by rw [cI hh.sz]; exact hh.sz) (by rw [cI hh.sz]; exact hh.fs)
 rw [har]
 simp -implicitDefEqProofs [go_sem, OW]
 refine aw (aD (ab ?_))
 simp -implicitDefEqProofs [go_sem]
 refine aD (ab ?_)
 simp -implicitDefEqProofs [go_sem]
 refine ao.pu (.refl _) ?_ oH (by simp) (by simp)
 simp [go_sem, okL, aK, gH]
theorem vB (H : Hp) (V : List Nat) (h : ie) (h1 : h.sizes.length <= 1000000) (h2 : h.ws.length <= 1000000) (h3 : h.evs.length <= 1000000) (h4 : ∀ w ∈ h.ws, w.data.length <= 1000000) : CC Tryz.prog 118 [.agg (gI h)] H V (fun r H' V' => ∃ v1 v2, r = .agg [.sl .sh 1 (h.sizes.map ic), .sl (.own (V.length + 1) v2) 3 (h.ws.map bq), .sl (.own V.length v1) 2 (h.evs.map bl)] /\ H = H' /\ V' = V ++ [v1, v2]) := by
 refine aj Tryz.func118 rfl fun hok oH => ?_;clear hok;refine aa (ab ?_);simp -implicitDefEqProofs [go_sem, ai];refine am (α := Nat) (fun v => ([(1, .ptr H.length 0), (2, .ptr (H.length + 1) 0), (3, .ptr (H.length + 2) 0)], H ++ [some (gI h), some [aI, aI, aI], some [.sl .sh 1 (h.sizes.map ic), aI, .sl (.own V.length v) 2 (h.evs.map bl)]], V ++ [v])) (fun _ => True) ?_ ?_
 · refine az [] [8] (.s 0 .pl <| .s 1 .pl <| .s 3 .pl <| .s 4 .pl <| .c 2 <| .f 5 .pl (.s 6 .pl <| .s 7 .pl <| .s 8 .st <| .n) 7 .pl (.s 5 .pl <| .s 6 .pl <| .s 8 .st <| .n)) ?_
   simp -implicitDefEqProofs [go_sem];refine ⟨_, fun H V => cu H V .sh h.sizes (by omega), ?_⟩;simp -implicitDefEqProofs [go_sem];refine ⟨?_, ?_⟩
   · refine CC.mono (l5 _ _ .sh h.evs (by omega)) ?_
     rintro _ _ _ ⟨v1, rfl, rfl, rfl⟩;simp -implicitDefEqProofs [go_sem];exact ⟨v1, ae (by simp [go_sem]) rfl rfl⟩
   · refine CC.mono (l5 _ _ .sh h.evs (by omega)) ?_
     rintro _ _ _ ⟨v1, rfl, rfl, rfl⟩;simp -implicitDefEqProofs [go_sem];exact ⟨v1, ae (by simp [go_sem]) rfl rfl⟩
 rintro v1 -;dsimp only;refine am (α := Nat) (fun v => ([(1, .ptr H.length 0), (2, .ptr (H.length + 1) 0), (3, .ptr (H.length + 2) 0)], H ++ [some (gI h), some [aI, aI, aI], some [.sl .sh 1 (h.sizes.map ic), .sl (.own (V.length + 1) v) 3 (h.ws.map bq), .sl (.own V.length v1) 2 (h.evs.map bl)]], V ++ [v1, v])) (fun _ => True) ?_ ?_
 · refine aa (ab ?_)
   simp -implicitDefEqProofs [go_sem];refine af ?_;refine al (α := Nat × Nat) (fun x => ([(1, .ptr H.length 0), (2, .ptr (H.length + 1) 0), (3, .ptr (H.length + 2) 0), (14, .sl .sh 3 (h.ws.map bq)), (15, ci h.ws.length), (16, ci x.1)], H ++ [some (gI h), some [aI, aI, aI], some [.sl .sh 1 (h.sizes.map ic), .sl (.own (V.length + 1) x.2) 3 ((h.ws.take x.1).map bq), .sl (.own V.length v1) 2 (h.evs.map bl)]], V ++ [v1, x.2])) (fun x => x.1 <= h.ws.length) (fun x => h.ws.length - x.1) (0, 0) (zero_le _)
    (Sh.tokL (b := H.length + 2) (ds := [.sl .sh 1 (h.sizes.map ic), .sl (.own (V.length + 1) 0) 3 [], .sl (.own V.length v1) 2 (h.evs.map bl)]) (aC _ _ 2) (by simp [go_sem]) (by simp [CV.isObj]) (by simp [go_sem]) (by simp) (by simp)) ?_
   rintro ⟨i, v⟩ hi;dsimp only at hi ⊢;refine aa (ab ?_);simp -implicitDefEqProofs [go_sem];refine aa (ab ?_)
   by_cases hin : i < h.ws.length
   case neg =>
    obtain rfl : i = h.ws.length := by omega
    simp -implicitDefEqProofs [go_sem];exact ⟨v, ae (by simp [go_sem]) (by rw [take_of_length_le (by simp)]) rfl⟩
   have hwl := h4 _ (getElem_mem hin);have wi : IntKind.i64.wrap ((i : Int) + 1) = (i : Int) + 1 := aq (show i <= 1000000000 by omega);have htk : (h.ws.take (i + 1)).map bq = (h.ws.take i).map bq ++ [bq h.ws[i]] := by rw [take_succ_eq_append_getElem hin, map_append]; rfl
   have hmn : min i h.ws.length = i := by omega
   have htk2 := htk;rw [map_take, map_take] at htk2;simp -implicitDefEqProofs [go_sem, hin];refine aa (af (aa (ab ?_)));simp -implicitDefEqProofs [go_sem, hin];generalize h.ws[i] = w at *;refine aa (ab ?_);simp -implicitDefEqProofs [go_sem];refine ah (eX _ _ .sh w.data (by omega)) ?_;simp -implicitDefEqProofs [go_sem];refine ab ?_;simp -implicitDefEqProofs [go_sem, hmn];refine ⟨by omega, ab ?_⟩;simp -implicitDefEqProofs [go_sem, wi];refine ⟨i + 1, by omega, by omega, v + 1, ?_⟩;rw [htk2];refine Sh.trim (L := [some (gI h), some [aI, aI, aI], some [.sl .sh 1 (h.sizes.map ic), .sl (.own (V.length + 1) (v + 1)) 3 ((h.ws.map bq).take i ++ [bq w]), .sl (.own V.length v1) 2 (h.evs.map bl)]]) ?_ ?_ oH ?_ (by simp) ?_ ?_
   · simp [go_sem]
   · simp [go_sem, cQ]
   · rw [aW, aW, aW]
     refine ⟨by simp [go_sem], by simp [go_sem], ?_, trivial⟩;simp [go_sem, okL, aK, aR, dq];rw [<- map_take, <- htk, cQ];trivial
   · simp
   · simp
 rintro v2 -;dsimp only;refine aa (ab ?_);simp -implicitDefEqProofs [go_sem];refine ab ?_;simp -implicitDefEqProofs [go_sem];refine ao.cut H.length (V.length + 2) ⟨v1, v2, rfl, rfl, rfl⟩ (le_refl _) (by omega) (by simp) (take_of_length_le (by simp)) (.refl _) (by simp [go_sem, okL, aK, aR, cQ, dq]) fun b cs hb => aO (le_refl _) (by omega) (oH b cs hb)
def xB (h : ie) (w : Wr) : ie := ⟨h.sizes, h.ws ++ [w], h.evs ++ [(0, (h.ws.length : Int))]⟩
theorem CI (H : Hp) (V : List Nat) (h : ie) (m : Nat) (hh : jC h m) (w : Wr) (hf : aS h.sizes w = 0) (hd : w.data.length <= 1000000) : CC Tryz.prog 61 [.agg (gI h), .agg (bq w)] H V (Pu (.tup [.agg (gI (xB h w)), ci h.ws.length, er 0]) H V) := by
 refine aj Tryz.func61 rfl fun hok oH => ?_;clear hok;have hwl := hh.wl;have hml := hh.ml;have hsl := hh.sl;have him := hh.im;have hel : h.evs.length = m := by rw [hh.ev, cJ]
 have hfi : gc (bo h.sizes) w = 0 := by rw [gc, if_neg (by rw [cI hh.sz]; simp [hh.sz]), cI hh.sz, hf]
 refine aa (ab ?_);simp -implicitDefEqProofs [go_sem, ai];refine aa (aa (ab ?_));simp -implicitDefEqProofs [go_sem];refine ah (mJ _ _ h m hh) ?_;simp -implicitDefEqProofs [go_sem];refine aa (ab ?_);simp -implicitDefEqProofs [go_sem];refine ab ?_;simp -implicitDefEqProofs [go_sem];have hw4 : ¬ 4096 <= h.ws.length := by omega
 have hw4' : ¬ 4096 <= (h.ws.length : Int) := by omega
 refine aa (aa (ab ?_));simp -implicitDefEqProofs [go_sem, hw4, hw4'];refine ab ?_;simp -implicitDefEqProofs [go_sem];refine aa (ab ?_);simp -implicitDefEqProofs [go_sem];refine ah (md _ _ .sh h.sizes (by omega)) ?_;rw [hh.sz, if_neg (by simp)];simp -implicitDefEqProofs [go_sem];refine aa (aa (ab ?_));simp -implicitDefEqProofs [go_sem];refine ah (pj _ _ .sh (bo h.sizes) w him.1 him.2 (by omega)) ?_;rw [hfi];simp -implicitDefEqProofs [go_sem];refine aa (ab ?_);simp -implicitDefEqProofs [go_sem];refine ab ?_;simp -implicitDefEqProofs [go_sem];refine aa (ab ?_);simp -implicitDefEqProofs [go_sem];refine aa (ab ?_);simp -implicitDefEqProofs [go_sem];refine CC.mono (vB _ _ h (by omega) (by omega) (by omega) hh.dl) ?_;rintro _ _ _ ⟨v1, v2, rfl, rfl, rfl⟩;simp -implicitDefEqProofs [go_sem];refine aa (ab ?_);simp -implicitDefEqProofs [go_sem];refine ah (eX _ _ .sh w.data (by omega)) ?_;simp -implicitDefEqProofs [go_sem];refine aa (ab ?_);simp -implicitDefEqProofs [go_sem];refine ⟨by omega, ?_⟩;refine aa (ab ?_);simp -implicitDefEqProofs [go_sem];refine ⟨by omega, ab ?_⟩;simp -implicitDefEqProofs [go_sem];refine ao.pu (r0 := .tup [.agg (gI (xB h w)), ci h.ws.length, er 0]) (.tup (.cons (.agg ?_) (.cons (.refl _) (.cons (.refl _) .nil)))) (by simp [go_sem, okL_hiC]) oH (by simp) (by simp);rw [gI, xB, map_append, map_append];exact .cons (.refl _) (.cons (.sh _ _ _) (.cons (.sh _ _ _) .nil))
theorem x5 (H : Hp) (V : List Nat) (b : Nat) (l : List Bool) (hb : H[b]? = some (some (l.map eL))) (h0 : 0 < l.length) (hx : l.length <= 1000000) : CC Tryz.prog 151 [.bsl b 0 l.length 1] H V (fun r H' V' => r = .bsl H.length 0 l.length 1 /\ H' = H ++ [some (l.map eL)] /\ V = V') := by
 refine aj Tryz.func151 rfl fun hok oH => ?_;clear hok;refine aa (ab ?_);simp [go_sem, ai];refine aa (aa (ac.opx (pre := [_]) (post := []) rfl (by intro c e; cases e) ?_));simp [go_sem];refine ⟨_, _, _, RH (by kernel_rfl) rfl h0 rfl, ?_⟩;refine ab ?_;simp [go_sem];refine aa (ac.opx (pre := [_, _]) (post := [_]) rfl (by intro c e; cases e) ?_);simp [go_sem];have hch : aY 1 l.length (l.map eL) = l.map DR := by
  have := qT (l.map eL);rw [length_map] at this;rw [this, KN]
 have hne : l.map DR ≠ [] := by simpa using length_pos_iff.1 h0
 refine ⟨_, _, _, M7 (sz := 1) (ys := l.map DR) yK yK rfl ⟨rfl, _, hb, by simp, by rw [drop_zero, hch]⟩ hne (by rw [length_map]; omega), ?_⟩;simp [go_sem];refine ab ?_;simp [go_sem];rw [show (List.map DR l).flatten = l.map eL from zF l];refine ao.cut (H.length + 1) V.length ⟨rfl, rfl, rfl⟩ (Nat.le_succ _) (le_refl _) (take_of_length_le (by simp)) (take_of_length_le (le_refl _)) (.bsa _ _ _) (by simp [go_sem]) ?_;intro b cs hb;rw [getElem?_append] at hb
 split at hb
 · exact aO (Nat.le_succ _) (le_refl _) (oH b cs hb)
 · exact cK (i := H.length + 1) (j := V.length) (L := [some (l.map eL)]) (by simp [go_sem, J9]) _ _ hb
theorem wc (H : Hp) (V : List Nat)  : CC Tryz.prog 151 [.sl .sh 1 []] H V (Pu (.sl .sh 1 []) H V) := by
 refine aj Tryz.func151 rfl fun hok oH => ?_;clear hok;refine aa (ab ?_);simp [go_sem, ai];refine aa (aa (ab ?_));simp [go_sem];refine ⟨?_, ?_⟩
 · refine ab ?_
   simp [go_sem];refine ab ?_;simp [go_sem];exact ao.pu (.sh _ _ _) (by simp [go_sem]) oH (by simp) (by simp)
 · refine ab ?_
   simp [go_sem];exact ao.pu (r0 := .sl .sh 1 []) (.nil 1 (by decide)) (by simp [go_sem]) oH (by simp) (by simp)
abbrev O5 (c n : Nat) (g : d8) : List CV := [.bsl c 0 n 1, .sl .sh 1 (g.h.sizes.map ic), .sl .sh 3 (g.h.ws.map bq), .sl .sh 2 (g.h.evs.map bl), .sl .sh 1 (g.wait.map ic), .sl .sh 1 (g.held.map ic), cb g.frozen]
theorem GJ (n : Nat) : vA (List.replicate n true) 0 n false = false := by
 unfold vA;simp
theorem xP (H : Hp) (V : List Nat) (b c m : Nat) (g : d8) (hb : H[b]? = some (some (O5 c ((m + 1) / 2) g))) (hc : H[c]? = some (some ((bL m).map eL))) (hw : g.wait = nI (gV m)) (hd : g.held = []) (hm : m <= 1000) : CC Tryz.prog 115 [.ptr b 0] H V (Pu (cb true) H V) := by
 refine aj Tryz.func115 rfl fun hok oH => ?_;clear hok;have hbl := (List.getElem?_eq_some_iff.1 hb).1;have hcl := (List.getElem?_eq_some_iff.1 hc).1;have hb2 : ∀ L, (H ++ L)[b]? = some (some (O5 c ((m + 1) / 2) g)) := fun L => by rw [getElem?_append_left hbl]; exact hb
 have hfl := fq m;have hwl : g.wait.length <= 1 := by
  rw [hw, nG, gV]; split <;> simp
 refine aa (ab ?_);simp [go_sem, ai];refine aa (aa (ab ?_));simp [go_sem, ak hb];refine ah (M4 _ _ .sh g.wait hwl) ?_;simp [go_sem];refine ab ?_;simp [go_sem];refine aa (ab ?_);simp [go_sem, ak hb];have hcat : wj [g.wait, g.held] = g.wait := by rw [hd, wj]; simp
 have hcl1 : [g.wait, g.held].length <= 1000000000 := by simp
 rcases Nat.eq_zero_or_pos ((m + 1) / 2) with hz | hp
 · have hw0 : g.wait = [] := by
    rw [hw, gV, if_neg (by omega)]; rfl
   rw [hz];refine CC.ge1 Ge.bsl0 ?_;refine ah (wc _ _) ?_;simp [go_sem];refine am (α := Nat) (fun v => ([(3, .sl .sh 1 [])], H, V ++ [v])) (fun _ => True) ?_ ?_
   · refine aa (az [] [] (.s 0 .pl <| .s 1 .pl <| .s 2 .pl <| .s 3 .pl <| .s 4 .pl <| .s 5 .pl <| .s 6 .pl <| .s 7 .pl <| .s 8 .pl <| .s 9 .pl <| .s 10 .pl <| .s 13 .pl <| .s 11 .pl <| .s 12 .pl <| .n) ?_)
     simp [go_sem, ak hb];refine CC.mono (oB _ _ .ti [g.wait, g.held] hcl1 (by rw [hcat]; omega)) ?_;rintro _ _ _ ⟨v1, rfl, rfl, rfl⟩;rw [hcat, hw0];simp [go_sem];refine af ?_;refine al (α := Unit) (fun _ => ([(3, .sl .sh 1 []), (30, .sl .sh 1 []), (31, ci 0), (32, ci 0)], H, V ++ [v1])) (fun _ => True) (fun _ => 0) () trivial (ae (by simp [go_sem]) rfl rfl) ?_;rintro _ -;dsimp only;refine aa (ab ?_);simp [go_sem];refine aa (ab ?_);simp [go_sem];exact ⟨v1, ae (by simp [go_sem]) rfl rfl⟩
   rintro v1 -;dsimp only;refine aa (ab ?_);simp [go_sem];refine ah (rH _ _ .sh [] (by simp)) ?_;rw [show CO [] = false from rfl];simp [go_sem];refine ab ?_;simp [go_sem];exact aA rfl oH (by simp) (by simp)
 have hcb := x5 H V c (bL m) hc (by omega) (by omega);obtain ⟨n, hn⟩ : ∃ n, (m + 1) / 2 = n := ⟨_, rfl⟩
 rw [hfl] at hcb;rw [hn] at hfl hp hcb hb2 hb ⊢;refine CC.mono hcb ?_;rintro _ _ _ ⟨rfl, rfl, rfl⟩;simp [go_sem];obtain ⟨fS, hfS⟩ : ∃ fS : Nat -> List Bool, fS = fun i => if i < g.wait.length then bL m else List.replicate n true := ⟨_, rfl⟩
 have hf0 : bL m = fS 0 := by
  rw [hfS];dsimp only
  split
  · rfl
  · rename_i hh
    rw [hw, nG, gV] at hh;have : m % 2 = 0 := by
     split at hh
     · simp at hh
     · omega
    rw [show m = 2 * n by omega, sB]
 have hfl2 : ∀ i, (fS i).length = n := fun i => by
  rw [hfS]; dsimp only; split
  · exact hfl
  · simp
 have hend : fS g.wait.length = List.replicate n true := by rw [hfS]; dsimp only; rw [if_neg (Nat.lt_irrefl _)]
 refine am (α := Nat) (fun v => ([(3, .bsl H.length 0 n 1)], H ++ [some (List.replicate n (eL true))], V ++ [v])) (fun _ => True) ?_ ?_
 · refine aa (az [] [] (.s 0 .pl <| .s 1 .pl <| .s 2 .pl <| .s 3 .pl <| .s 4 .pl <| .s 5 .pl <| .s 6 .pl <| .s 7 .pl <| .s 8 .pl <| .s 9 .pl <| .s 10 .pl <| .s 13 .pl <| .s 11 .pl <| .s 12 .pl <| .n) ?_)
   simp [go_sem, ak (hb2 _)];refine CC.mono (oB _ _ .ti [g.wait, g.held] hcl1 (by rw [hcat]; omega)) ?_;rintro _ _ _ ⟨v1, rfl, rfl, rfl⟩;rw [hcat];simp [go_sem];refine af ?_;refine al (α := Nat) (fun i => ([(3, .bsl H.length 0 n 1), (30, .sl .sh 1 (g.wait.map ic)), (31, ci g.wait.length), (32, ci i)], H ++ [some ((fS i).map eL)], V ++ [v1])) (fun i => i <= g.wait.length) (fun i => g.wait.length - i) 0 (zero_le _) (ae (by simp [go_sem]) (by rw [<- hf0]) rfl) ?_;intro i hi;dsimp only;refine aa (ab ?_);simp [go_sem];refine aa (ab ?_)
   by_cases h0 : i < g.wait.length
   case neg =>
    obtain rfl : i = g.wait.length := by omega
    simp [go_sem];exact ⟨v1, ae (by simp [go_sem]) (by rw [hend, List.map_replicate]) rfl⟩
   obtain rfl : i = 0 := by omega
   have hw1 : gV m = [m / 2] := by
    rw [hw, nG, gV] at h0;rw [gV]
    split
    · rfl
    · rename_i hh; rw [if_neg hh] at h0; simp at h0
   have hodd : m % 2 = 1 := by
    rw [gV] at hw1
    split at hw1
    · assumption
    · simp at hw1
   have hgw : ∀ (p : 0 < g.wait.length), g.wait[0] = ((n - 1 : Nat) : Int) := fun p => by
    have : g.wait = [((m / 2 : Nat) : Int)] := by rw [hw, hw1]; rfl
    simp only [this, List.getElem_cons_zero];omega
   have hlen1 : g.wait.length = 1 := by omega
   obtain ⟨k, rfl⟩ : ∃ k, n = k + 1 := ⟨n - 1, by omega⟩
   have hflg : bL m = List.replicate k true ++ [false] := by rw [show m = 2 * k + 1 by omega, qE]
   have hff0 : fS 0 = List.replicate k true ++ [false] := by rw [<- hf0, hflg]
   have hset : (fS 0).set k true = fS 1 := by
    rw [hff0, hfS];dsimp only;rw [if_neg (by omega), replicate_succ'];simp
   have hgk : ∀ (p : k < (fS 0).length), (fS 0)[k] = false := fun p => by simp [hff0]
   have hkl : k < (fS 0).length := by rw [hfl2]; omega
   have hst := mX (fS 0) k hkl;rw [hset] at hst;have w1 : ¬ ((k : Int) + 1) <= (k : Int) := by omega
   simp [go_sem, h0];refine aa (af (aa (ab ?_)));simp [go_sem, h0, hgw];refine aa (aa (ab ?_));simp [go_sem, hgk, hkl, w1];refine ⟨by omega, ab ?_⟩;simp [go_sem];refine ab ?_;simp [go_sem];refine ⟨by omega, by omega, ?_⟩;rw [show (CV.v (Value.bool true)) = eL true from rfl, hst];refine ab ?_;simp [go_sem];refine ⟨1, by omega, by omega, ae ?_ rfl rfl⟩;simp [go_sem];rw [show IntKind.i64.wrap (1 : Int) = 1 from rfl];exact .refl _
 rintro v1 -;dsimp only;refine aa (ab ?_);simp [go_sem];refine ah (iM _ _ H.length 0 n (List.replicate n true) false (by rw [List.map_replicate]; exact fL _ _) (by simp) (by simp; omega)) ?_;rw [GJ];simp [go_sem];refine ab ?_;simp [go_sem];exact aA rfl oH (by simp) (by simp)
def ll (n i : Nat) : List Bool := (List.range n).map fun k => decide (2 * k + 1 < i)
theorem GW (n i : Nat) : (ll n i).length = n := by rw [ll, length_map, length_range]
theorem P7 (m : Nat) : ll ((m + 1) / 2) m = bL m := rfl
theorem P8 (n : Nat) : (ll n 0).map eL = List.replicate n (cb false) := by
 refine ext_getElem (by simp [ll]) fun k h1 h2 => ?_;simp [ll]
theorem CR {n i : Nat} (h : i % 2 = 0) : ll n (i + 1) = ll n i := by
 refine map_congr_left fun k _ => ?_;have : (2 * k + 1 < i + 1) = (2 * k + 1 < i) := by rw [eq_iff_iff]; omega
 simp only [this]
theorem GV {n i : Nat} (h : i % 2 = 1) (hn : i / 2 < n) : ll n (i + 1) = (ll n i).set (i / 2) true := by
 refine ext_getElem (by simp [ll]) fun k h1 h2 => ?_;rw [getElem_set];simp only [ll, getElem_map, List.getElem_range]
 split
 · rename_i e; exact decide_eq_true (by omega)
 · have : (2 * k + 1 < i + 1) = (2 * k + 1 < i) := by rw [eq_iff_iff]; omega
   simp only [this]
structure gF (g : d8) (m : Nat) : Prop where
 h : jC g.h m
 w : g.wait = nI (gV m)
 d : g.held = []
 f : g.frozen = false
@[go_sem, simp] theorem aha (x : d8) (h : 0 < (dY x).length) : (dY x)[0] = .sl .sh 1 (x.h.sizes.map ic) := rfl
@[go_sem, simp] theorem ag9 (x : d8) (h : 1 < (dY x).length) : (dY x)[1] = .sl .sh 3 (x.h.ws.map bq) := rfl
@[go_sem, simp] theorem ag8 (x : d8) (h : 2 < (dY x).length) : (dY x)[2] = .sl .sh 2 (x.h.evs.map bl) := rfl
@[go_sem] theorem afF (g : d8) : aI :: dY g = [aI, .sl .sh 1 (g.h.sizes.map ic), .sl .sh 3 (g.h.ws.map bq), .sl .sh 2 (g.h.evs.map bl), .sl .sh 1 (g.wait.map ic), .sl .sh 1 (g.held.map ic), cb g.frozen] := rfl
def pp (l : List Wr) : List CV := (l.map bq).flatten
theorem yv : ∀ l : List Wr, (pp l).length = 3 * l.length
 | [] => rfl
 | x :: l => by
  have := yv l;rw [pp] at this ⊢;rw [map_cons, flatten_cons, length_append, this, length_cons];show 3 + _ = _; omega
theorem zd (i j : Nat) : ∀ l : List Wr, okL i j (pp l)
 | [] => trivial
 | x :: l => by
  rw [pp, map_cons, flatten_cons];rw [co];intro c hc;rcases mem_append.1 hc with h | h
  · exact co.1 (show okL i j (bq x) by rw [tv]; trivial) c h
  · exact co.1 (zd i j l) c h
theorem yw : ∀ (l : List Wr) (i : Nat) (h : i < l.length), (pp l)[i * 3 + 2]? = some (.sl .sh 8 (l[i].data.map aE))
 | x :: l, 0, h => by rw [pp, map_cons, flatten_cons]; rfl
 | x :: l, i + 1, h => by
  have := yw l i (by simpa using h);rw [pp] at this ⊢;rw [map_cons, flatten_cons, getElem?_append_right (by show 3 <= _; omega)];show ((l.map bq).flatten)[(i + 1) * 3 + 2 - 3]? = _;rw [show (i + 1) * 3 + 2 - 3 = i * 3 + 2 by omega, this]; rfl
theorem vZ (H : Hp) (V : List Nat) (tk : Tk) (l : List Wr) (h0 : l ≠ []) (hx : l.length <= 1000000000) : CC Tryz.prog 117 [.sl tk 3 (l.map bq)] H V (fun r H' V' => r = .bsl H.length 0 l.length 3 /\ H' = H ++ [some (pp l)] /\ V = V') := by
 refine aj Tryz.func117 rfl fun hok oH => ?_;clear hok;have hne : l.map bq ≠ [] := by simpa using h0
 refine aa (ab ?_);simp [go_sem, ai];refine aa (aa (ab ?_));simp [go_sem, h0];refine ab ?_;simp [go_sem, h0];refine aa (ac.opx (pre := [_, _]) (post := [_]) rfl (by intro c e; cases e) ?_);simp [go_sem];refine ⟨_, _, _, mc (sz := 3) (tk := tk) (ys := l.map bq) EN EN rfl rfl hne (by rw [length_map]; omega), ?_⟩;simp [go_sem];refine ab ?_;simp [go_sem];rw [show (List.map bq l).flatten = pp l from rfl];refine ao.cut (H.length + 1) V.length ⟨rfl, rfl, rfl⟩ (Nat.le_succ _) (le_refl _) (take_of_length_le (by simp)) (take_of_length_le (le_refl _)) (.bsa _ _ _) (by simp [go_sem]) ?_;intro b cs hb;rw [getElem?_append] at hb
 split at hb
 · exact aO (Nat.le_succ _) (le_refl _) (oH b cs hb)
 · exact cK (i := H.length + 1) (j := V.length) (L := [some (pp l)]) (by simp [go_sem, zd]) _ _ hb
theorem wa (H : Hp) (V : List Nat)  : CC Tryz.prog 117 [.sl .sh 3 []] H V (Pu (.sl .sh 3 []) H V) := by
 refine aj Tryz.func117 rfl fun hok oH => ?_;clear hok;refine aa (ab ?_);simp [go_sem, ai];refine aa (ab ?_);simp [go_sem];refine ⟨ab ?_, ?_⟩
 · simp [go_sem]
   exact ao.pu (.sh _ _ _) (by simp [go_sem]) oH (by simp) (by simp)
 · exact ao.pu (r0 := .sl .sh 3 []) (.nil 3 (by decide)) (by simp [go_sem]) oH (by simp) (by simp)
theorem BQ (l : List Wr) : ∀ x ∈ pp l, x.isObj = false := by
 intro x hx;obtain ⟨c, hc, hx⟩ := mem_flatten.1 hx;obtain ⟨w, hw, rfl⟩ := mem_map.1 hc;rcases (show x = _ \/ x = _ \/ x = _ by simpa [bq] using hx) with rfl | rfl | rfl <;> rfl
theorem qR : ∀ l : List Wr, aY 3 l.length (pp l) = l.map bq
 | [] => rfl
 | w :: l => by
  have := qR l;rw [pp] at this ⊢;rw [length_cons, aY, map_cons, flatten_cons];rw [show (bq w ++ (l.map bq).flatten).take 3 = bq w from rfl, show (bq w ++ (l.map bq).flatten).drop 3 = (l.map bq).flatten from rfl, this]
abbrev XU : CV := .v (.pointer none)
def DL (f : Nat) (a : CV) (c : Nat -> Nat -> List Nat -> CV) (L : Hp) (q : Nat) : Prop := ∀ (H : Hp) (V : List Nat), CC Tryz.prog f [a] H V (fun r H' V' => ∃ W, W.length = q /\ r = c H.length V.length W /\ H' = H ++ L /\ V' = V ++ W)
def af9 (g : d8) (m : Nat) (cw ce : Nat -> Nat -> List Nat -> CV) (LW LE : Hp) (qw qe : Nat) (H : Hp) (V : List Nat) : CV -> Hp -> List Nat -> Prop := fun r H' V' => r = .tup [.ptr (H.length + 1) 0, er 0] /\ ∃ W1 W2 L, W1.length = qw /\ W2.length = qe /\ V' = V ++ (W1 ++ W2) ∧
 H' = H ++ some (dY g) :: some [.bsl (H.length + 2) 0 ((m + 1) / 2) 1, .sl .sh 1 (g.h.sizes.map ic), .sl .sh 3 (g.h.ws.map bq), ce (H.length + 3 + LW.length) (V.length + W1.length) W2, cw (H.length + 3) V.length W1, .sl .sh 1 [], cb false] :: some ((bL m).map eL) :: (LW ++ (LE ++ L))
theorem mL (H : Hp) (V : List Nat) (g : d8) (m : Nat) (hg : gF g m) (cw ce : Nat -> Nat -> List Nat -> CV) (LW LE : Hp) (qw qe : Nat) (hcw : DL 33 (.sl .sh 1 (g.wait.map ic)) cw LW qw) (hce : DL 116 (.sl .sh 2 (g.h.evs.map bl)) ce LE qe) (h1 : ∀ a b W, (cw a b W).one = true) (h2 : ∀ a b W, (ce a b W).one = true) : CC Tryz.prog 60 [.agg (dY g)] H V (af9 g m cw ce LW LE qw qe H V) := by
 refine aj Tryz.func60 rfl fun hok oH => ?_
 clear hok
 have hh := hg.h
 have hml := hh.ml
 have hwl := hh.wl
 have hel : g.h.evs.length = m := by rw [hh.ev, cJ]
 refine aa (ab ?_)
 simp -implicitDefEqProofs [go_sem, ai]
 refine aa (aa (ab ?_))
 simp -implicitDefEqProofs [go_sem]
 refine CC.mono (CK _ _ g.h m hh) ?_
 rintro _ _ _ ⟨rfl, rfl, rfl⟩
 simp -implicitDefEqProofs [go_sem]
 refine aa (ab ?_)
 simp -implicitDefEqProofs [go_sem]
 refine ab ?_
 simp -implicitDefEqProofs [go_sem]
 refine aa (ab ?_)
 simp -implicitDefEqProofs [go_sem]
 refine aa (ab ?_)
 simp -implicitDefEqProofs [go_sem]
 have hn : g.h.ws.length = (m + 1) / 2 := hwl
 obtain ⟨n, hnn⟩ : ∃ n, (m + 1) / 2 = n := ⟨_, rfl⟩
 rw [hnn] at hn
 rw [hn]
 refine ⟨by omega, ?_⟩
 rw [<- P8]
 refine am (α := Unit) (fun _ => ([(1, .ptr H.length 0), (2, XU), (3, ci 0), (5, .ptr (H.length + 1) 0)], H ++ [some (dY g), some (O5 (H.length + 2) n g), some ((bL m).map eL)], V)) (fun _ => True) ?_ ?_
 · refine aa (ab ?_)
   simp -implicitDefEqProofs [go_sem]
   refine af ?_
   refine al (α := Nat) (fun i => ([(1, .ptr H.length 0), (2, XU), (3, ci 0), (5, .ptr (H.length + 1) 0), (30, .sl .sh 2 (g.h.evs.map bl)), (31, ci m), (32, ci i)], H ++ [some (dY g), some (O5 (H.length + 2) n g), some ((ll n i).map eL)], V)) (fun i => i <= m) (fun i => m - i) 0 (zero_le _) (ae (by simp [go_sem, hel]) rfl rfl) ?_
   intro i hi
   dsimp only
   refine aa (ab ?_)
   simp -implicitDefEqProofs [go_sem]
   refine aa (ab ?_)
   by_cases h0 : i < m
   case neg =>
    obtain rfl : i = m := by omega
    simp -implicitDefEqProofs [go_sem]
    exact ae (by simp [go_sem]) (by rw [<- hnn, P7]) rfl
   have hie : i < g.h.evs.length := by omega
   obtain ⟨x, hx⟩ : ∃ x : Int × Int, x = (((i % 2 : Nat) : Int), ((i / 2 : Nat) : Int)) := ⟨_, rfl⟩
   have hev : ∀ (p : i < g.h.evs.length), g.h.evs[i] = x := fun p => by
    rw [hx]
    have := qJ m i (by rw [cJ]; omega)
    rw [<- this]
    congr 1
    exact hh.ev
   have wi : IntKind.i64.wrap ((i : Int) + 1) = (i : Int) + 1 := aq (show i <= 1000000000 by omega)
   simp -implicitDefEqProofs [go_sem, h0]
   refine aa (af (aa (ab ?_)))
   simp -implicitDefEqProofs [go_sem, hie, hev]
   refine aa (ab ?_)
   have hfl := GW n i
   rcases Nat.mod_two_eq_zero_or_one i with h2 | h2
   · have hx1 : x.1 = 0 := by rw [hx]; dsimp only; omega
     simp -implicitDefEqProofs [go_sem, hx1]
     refine ac.condF rfl ?_
     refine ab ?_
     simp -implicitDefEqProofs [go_sem]
     refine ab ?_
     simp -implicitDefEqProofs [go_sem, wi]
     refine ⟨i + 1, by omega, by omega, ?_⟩
     rw [CR h2]
     refine Sh.trim (L := [some (dY g), some (O5 (H.length + 2) n g), some ((ll n i).map eL)]) (by simp [go_sem]) (by simp [go_sem, dq]) oH (by simp [go_sem, okL, aK, okL_grC, aR, cQ, dq]) (by simp) (by simp) (by simp)
   · have hx1 : x.1 = 1 := by rw [hx]; dsimp only; omega
     have hx2 : x.2 = ((i / 2 : Nat) : Int) := by rw [hx]
     obtain ⟨q, hq⟩ : ∃ q, i / 2 = q := ⟨_, rfl⟩
     rw [hq] at hx2
     have hqn : q < n := by omega
     have hst := mX (ll n i) q (by omega)
     rw [<- hq, <- GV h2 (by omega), hq] at hst
     simp -implicitDefEqProofs [go_sem, hx1]
     refine ac.condT rfl ?_
     refine az [] [8] (.s 0 .pl <| .s 1 .pl <| .s 2 .pl <| .s 3 .pl <| .s 4 .pl <| .s 5 .pl <| .s 6 .pl <| .s 7 .pl <| .s 8 .st <| .n) ?_
     simp -implicitDefEqProofs [go_sem, hx2]
     refine ⟨by omega, by omega, ?_⟩
     rw [show (CV.v (Value.bool true)) = eL true from rfl, hst]
     refine ab ?_
     simp -implicitDefEqProofs [go_sem, wi]
     refine ⟨i + 1, by omega, by omega, ?_⟩
     refine Sh.trim (L := [some (dY g), some (O5 (H.length + 2) n g), some ((ll n (i + 1)).map eL)]) (by simp [go_sem]) (by simp [go_sem, dq]) oH (by simp [go_sem, okL, aK, okL_grC, aR, cQ, dq]) (by simp) (by simp) (by simp)
 rintro _ -
 dsimp only
 have hdv := xP (H ++ [some (dY g), some (O5 (H.length + 2) n g), some ((bL m).map eL)]) V (H.length + 1) (H.length + 2) m g (by rw [hnn]; exact aC _ _ 1) (aC _ _ 2) hg.w hg.d hml
 refine aa (af (aa (ab ?_)))
 simp -implicitDefEqProofs [go_sem]
 refine CC.mono hdv ?_
 rintro _ _ _ ⟨rfl, rfl, rfl⟩
 simp -implicitDefEqProofs [go_sem]
 refine ab ?_
 simp -implicitDefEqProofs [go_sem, hg.d]
 have kH : ∀ L L' : Hp, Kp [H.length] (H ++ some (dY g) :: L) (H ++ some (dY g) :: L') := fun L L' => Kp.keep fun y hy => by
  obtain rfl : y = H.length := by simpa using hy
  rw [fL, fL]; rfl
 refine aa (az [H.length] [11, 15] (.s 0 .pl <| .s 1 .pl <| .s 2 .pl <| .s 3 .pl <| .s 5 .pl <| .s 6 .ld <| .s 4 .pl <| .s 7 .pl <| .s 8 .pl <| .s 9 .pl <| .s 10 .pl <| .s 11 .st <| .s 12 .pl <| .s 13 .pl <| .s 14 .pl <| .s 15 .st <| .n) ?_)
 simp -implicitDefEqProofs [go_sem]
 refine CC.mono (hcw _ _) ?_
 rintro _ _ _ ⟨W1, hW1, rfl, rfl, rfl⟩
 simp -implicitDefEqProofs [go_sem]
 have hc1 : ∀ a b W, (cw a b W).cells = [cw a b W] := fun a b W => CV.one_cells (h1 a b W)
 have hc2 : ∀ a b W, (ce a b W).cells = [ce a b W] := fun a b W => CV.one_cells (h2 a b W)
 have ha1 : ∀ a b W, aJ [cw a b W] = true := fun a b W => by rw [aJ, all_cons, h1]; rfl
 have ha2 : ∀ a b W, aJ [ce a b W] = true := fun a b W => by rw [aJ, all_cons, h2]; rfl
 refine CC.mono (cu _ _ .sh g.held (by rw [hg.d]; simp)) ?_
 rintro _ _ _ ⟨rfl, rfl, rfl⟩
 simp -implicitDefEqProofs [go_sem, hc1, ha1]
 refine ⟨kH _ _, ?_⟩
 refine aa (ab ?_)
 simp -implicitDefEqProofs [go_sem]
 rcases Nat.eq_zero_or_pos n with hn0 | hn0
 · have hws : g.h.ws = [] := eq_nil_of_length_eq_zero (by omega)
   have hws' : g.h.ws.map bq = [] := by rw [hws]; rfl
   refine aa (az [] [20, 23, 26] (.s 0 .pl <| .s 1 .pl <| .s 2 .pl <| .s 3 .pl <| .s 4 .pl <| .s 5 .pl <| .s 6 .pl <| .s 8 .pl <| .s 9 .pl <| .s 10 .pl <| .s 11 .pl <| .s 13 .pl <| .s 14 .pl <| .s 15 .pl <| .s 16 .pl <| .s 7 .pl <| .s 12 .pl <| .s 17 .pl <| .s 18 .pl <| .s 19 .pl <| .s 20 .st <| .s 21 .pl <| .s 22 .pl <| .s 23 .st <| .s 24 .pl <| .s 25 .pl <| .s 26 .st <| .n) ?_)
   simp -implicitDefEqProofs [go_sem, hws']
   refine CC.mono (cu _ _ .sh g.h.sizes (by have := hh.sl; omega)) ?_
   rintro _ _ _ ⟨rfl, rfl, rfl⟩
   simp -implicitDefEqProofs [go_sem]
   refine CC.mono (hce _ _) ?_
   rintro _ _ _ ⟨W2, hW2, rfl, rfl, rfl⟩
   simp -implicitDefEqProofs [go_sem]
   refine CC.mono (wa _ _) ?_
   rintro _ _ _ ⟨rfl, rfl, rfl⟩
   simp -implicitDefEqProofs [go_sem, hc2, ha2]
   have e3 : H.length + (LW.length + 1 + 1 + 1) = H.length + 3 + LW.length := by omega
   rw [e3]
   obtain ⟨K, hK⟩ : ∃ K, K = H ++ some (dY g) :: some [.bsl (H.length + 2) 0 n 1, .sl .sh 1 (g.h.sizes.map ic), .sl .sh 3 [], ce (H.length + 3 + LW.length) (V.length + W1.length) W2, cw (H.length + 3) V.length W1, .sl .sh 1 (g.held.map ic), cb g.frozen] :: some ((bL m).map eL) :: (LW ++ LE) := ⟨_, rfl⟩
   have kb : K[H.length + 1]? = some (some [.bsl (H.length + 2) 0 n 1, .sl .sh 1 (g.h.sizes.map ic), .sl .sh 3 [], ce (H.length + 3 + LW.length) (V.length + W1.length) W2, cw (H.length + 3) V.length W1, .sl .sh 1 (g.held.map ic), cb g.frozen]) := by rw [hK]; exact aC _ _ 1
   rw [<- hK]
   refine am (α := Unit) (fun _ => ([(3, ci 0), (5, .ptr (H.length + 1) 0)], K, V ++ (W1 ++ W2))) (fun _ => True) ?_ ?_
   · refine aa (ab ?_)
     simp -implicitDefEqProofs [go_sem, ak kb]
     refine af ?_
     refine al (α := Unit) (fun _ => ([(3, ci 0), (5, .ptr (H.length + 1) 0), (108, ci 0), (109, ci 0)], K, V ++ (W1 ++ W2))) (fun _ => True) (fun _ => 0) () trivial (ae (by simp [go_sem]) rfl rfl) ?_
     rintro _ -
     dsimp only
     refine aa (ab ?_)
     simp -implicitDefEqProofs [go_sem]
     refine aa (ab ?_)
     simp -implicitDefEqProofs [go_sem]
     exact ae (by simp [go_sem]) rfl rfl
   rintro _ -
   dsimp only
   refine aa (ab ?_)
   simp -implicitDefEqProofs [go_sem]
   refine ab ?_
   simp -implicitDefEqProofs [go_sem]
   refine ao.self ⟨rfl, W1, W2, [], hW1, hW2, rfl, ?_⟩
   rw [hK, hg.d, hg.f, hnn, hws', append_nil]; rfl
 have hne : g.h.ws ≠ [] := fun e => by rw [e] at hn; simp at hn; omega
 refine aa (az [] [20, 23, 26] (.s 0 .pl <| .s 1 .pl <| .s 2 .pl <| .s 3 .pl <| .s 4 .pl <| .s 5 .pl <| .s 6 .pl <| .s 8 .pl <| .s 9 .pl <| .s 10 .pl <| .s 11 .pl <| .s 13 .pl <| .s 14 .pl <| .s 15 .pl <| .s 16 .pl <| .s 7 .pl <| .s 12 .pl <| .s 17 .pl <| .s 18 .pl <| .s 19 .pl <| .s 20 .st <| .s 21 .pl <| .s 22 .pl <| .s 23 .st <| .s 24 .pl <| .s 25 .pl <| .s 26 .st <| .n) ?_)
 simp -implicitDefEqProofs [go_sem]
 refine CC.mono (cu _ _ .sh g.h.sizes (by have := hh.sl; omega)) ?_
 rintro _ _ _ ⟨rfl, rfl, rfl⟩
 simp -implicitDefEqProofs [go_sem]
 refine CC.mono (hce _ _) ?_
 rintro _ _ _ ⟨W2, hW2, rfl, rfl, rfl⟩
 simp -implicitDefEqProofs [go_sem]
 refine CC.mono (vZ _ _ .sh g.h.ws hne (by omega)) ?_
 rintro _ _ _ ⟨rfl, rfl, rfl⟩
 simp -implicitDefEqProofs [go_sem, hc2, ha2]
 have e3 : H.length + (LW.length + 1 + 1 + 1) = H.length + 3 + LW.length := by omega
 rw [e3]
 obtain ⟨bw, hbw⟩ : ∃ bw, bw = H.length + (LW.length + LE.length + 1 + 1 + 1) := ⟨_, rfl⟩
 rw [<- hbw, hn]
 obtain ⟨EC, hEC⟩ : ∃ EC, EC = ce (H.length + 3 + LW.length) (V.length + W1.length) W2 := ⟨_, rfl⟩
 obtain ⟨WC, hWC⟩ : ∃ WC, WC = cw (H.length + 3) V.length W1 := ⟨_, rfl⟩
 have e1 : EC.isObj = false := by have := h2 (H.length + 3 + LW.length) (V.length + W1.length) W2; rw [<- hEC] at this; cases EC <;> first | rfl | (simp [CV.one] at this)
 have e2 : WC.isObj = false := by have := h1 (H.length + 3) V.length W1; rw [<- hWC] at this; cases WC <;> first | rfl | (simp [CV.one] at this)
 rw [<- hEC, <- hWC]
 obtain ⟨K, hK⟩ : ∃ K, K = H ++ some (dY g) :: some [.bsl (H.length + 2) 0 n 1, .sl .sh 1 (g.h.sizes.map ic), .bsl bw 0 n 3, EC, WC, .sl .sh 1 (g.held.map ic), cb g.frozen] :: some ((bL m).map eL) :: (LW ++ (LE ++ [some (pp g.h.ws)])) := ⟨_, rfl⟩
 have kb : K[H.length + 1]? = some (some [.bsl (H.length + 2) 0 n 1, .sl .sh 1 (g.h.sizes.map ic), .bsl bw 0 n 3, EC, WC, .sl .sh 1 (g.held.map ic), cb g.frozen]) := by rw [hK]; exact aC _ _ 1
 have kw : K[bw]? = some (some (pp g.h.ws)) := by
  rw [hK, hbw, aC, getElem?_cons_succ, getElem?_cons_succ, getElem?_cons_succ, <- append_assoc, getElem?_append_right (by simp)]
  simp
 have eK : K.set bw none = H ++ some (dY g) :: some [.bsl (H.length + 2) 0 n 1, .sl .sh 1 (g.h.sizes.map ic), .bsl bw 0 n 3, EC, WC, .sl .sh 1 (g.held.map ic), cb g.frozen] :: some ((bL m).map eL) :: (LW ++ (LE ++ [none])) := by
  rw [hK, set_append_right _ _ (by omega), show bw - H.length = LW.length + LE.length + 1 + 1 + 1 by omega, List.set_cons_succ, List.set_cons_succ, List.set_cons_succ, <- append_assoc LW, set_append_right _ _ (by simp)]
  simp
 rw [<- hK]
 obtain ⟨K2, hK2⟩ : ∃ K2, K2 = H ++ some (dY g) :: some [.bsl (H.length + 2) 0 n 1, .sl .sh 1 (g.h.sizes.map ic), .sl .sh 3 (g.h.ws.map bq), EC, WC, .sl .sh 1 (g.held.map ic), cb g.frozen] :: some ((bL m).map eL) :: (LW ++ (LE ++ [none])) := ⟨_, rfl⟩
 refine am (α := Unit) (fun _ => ([(3, ci 0), (5, .ptr (H.length + 1) 0)], K2, V ++ (W1 ++ W2))) (fun _ => True) ?_ ?_
 · refine aa (ab ?_)
   simp -implicitDefEqProofs [go_sem, ak kb]
   refine af ?_
   refine al (α := Nat) (fun i => ([(3, ci 0), (5, .ptr (H.length + 1) 0), (8, .ptr (H.length + 1) 1), (108, ci n), (109, ci i)], K, V ++ (W1 ++ W2))) (fun i => i <= n) (fun i => n - i) 0 (zero_le _) (ae (by simp [go_sem]) rfl rfl) ?_
   intro i hi
   dsimp only
   refine aa (ab ?_)
   simp -implicitDefEqProofs [go_sem]
   refine aa (ab ?_)
   by_cases h0 : i < n
   case neg =>
    simp -implicitDefEqProofs [go_sem, h0]
    refine Sh.freezeH (a := H.length + 1) (b := bw) (cs := pp g.h.ws) (es := [.bsl (H.length + 2) 0 n 1, .sl .sh 1 (g.h.sizes.map ic), .sl .sh 3 (g.h.ws.map bq), EC, WC, .sl .sh 1 (g.held.map ic), cb g.frozen]) (by omega) kw (BQ _) kb ?_ ?_ (ae (by simp [go_sem]) ?_ rfl)
    · have := Fy.bsl (b := bw) (cs := pp g.h.ws) 0 n 3 (by rw [yv]; omega)
      rw [drop_zero, <- hn, qR, hn] at this
      exact .cons (.refl _) (.cons (.refl _) (.cons this (.cons (.refl _) (.cons (.refl _) (.cons (.refl _) (.cons (.refl _) .nil))))))
    · intro x hx
      simp only [mem_cons, not_mem_nil, or_false] at hx
      rcases hx with rfl | rfl | rfl | rfl | rfl | rfl | rfl <;> first | rfl | assumption
    · rw [eK, hK2, set_append_right _ _ (by omega), show H.length + 1 - H.length = 1 by omega]; rfl
   have wi : IntKind.i64.wrap ((i : Int) + 1) = (i : Int) + 1 := aq (show i <= 1000000000 by omega)
   simp -implicitDefEqProofs [go_sem, h0]
   refine aa (af (aa (ab ?_)))
   simp -implicitDefEqProofs [go_sem]
   refine az [] [16] (.s 0 .pl <| .s 1 .pl <| .s 2 .pl <| .s 3 .pl <| .s 4 .pl <| .s 5 .pl <| .s 6 .pl <| .s 7 .pl <| .s 8 .pl <| .s 9 .pl <| .s 10 .pl <| .s 11 .pl <| .s 12 .pl <| .s 13 .pl <| .s 14 .pl <| .s 15 .pl <| .s 16 .st <| .n) ?_
   have hiw : i < g.h.ws.length := by omega
   have hgt := yw g.h.ws i hiw
   obtain ⟨hgl, hge⟩ := List.getElem?_eq_some_iff.1 hgt
   have hge2 : ∀ (p : i * 3 + 2 < (pp g.h.ws).length), (pp g.h.ws)[i * 3 + 2] = .sl .sh 8 (g.h.ws[i].data.map aE) := fun _ => hge
   have hdl := hh.dl _ (getElem_mem hiw)
   have hself : (pp g.h.ws).take (i * 3 + 2) ++ CV.sl .sh 8 (g.h.ws[i].data.map aE) :: (pp g.h.ws).drop (i * 3 + 2 + 1) = pp g.h.ws := by
    rw [<- hge, <- drop_eq_getElem_cons hgl, take_append_drop]
   have hKs : K.set bw (some (pp g.h.ws)) = K := by
    obtain ⟨q1, q2⟩ := List.getElem?_eq_some_iff.1 kw
    rw [<- q2, set_getElem_self]
   simp -implicitDefEqProofs [go_sem, ak kb, ak kw, hge2, hgl]
   refine ⟨by omega, ?_⟩
   refine CC.mono (eX _ _ .sh g.h.ws[i].data (by omega)) ?_
   rintro _ _ _ ⟨rfl, rfl, rfl⟩
   simp -implicitDefEqProofs [go_sem, ak kw]
   refine ⟨by omega, by omega, ?_⟩
   rw [hself, hKs]
   refine ab ?_
   simp -implicitDefEqProofs [go_sem, wi]
   exact ⟨i + 1, by omega, by omega, ae (by simp [go_sem, wi]) rfl rfl⟩
 rintro _ -
 dsimp only
 refine aa (ab ?_)
 simp -implicitDefEqProofs [go_sem]
 refine ab ?_
 simp -implicitDefEqProofs [go_sem]
 refine ao.self ⟨rfl, W1, W2, [none], hW1, hW2, rfl, ?_⟩
 rw [hK2, hg.d, hg.f, hnn, hEC, hWC]; rfl
section
open Go.Proofs Go.Shelf Go.Sort
def QF : Go.Shelf.Ren := ⟨fun | 23 => 63 | n => n, fun | 22 => 22 | 0 => 0 | 3 => 3 | 4 => 4 | n => n, fun | n => n⟩
theorem QG : Lays2.n23 Tryz.prog QF := {
 mixed := by kernel_rfl
 f23 := Tryz.func63.trans (congrArg some (by kernel_rfl))
 t0 := Tryz.underlying0
 a0 := Tryz.isAgg0
 z0 := Tryz.sizeOf0
 v0 := Tryz.zeroValue0
 t3 := Tryz.underlying3
 a3 := Tryz.isAgg3
 z3 := Tryz.sizeOf3
 v3 := Tryz.zeroValue3
 t4 := Tryz.underlying4
 a4 := Tryz.isAgg4
 z4 := Tryz.sizeOf4
 v4 := Tryz.zeroValue4
 t22 := Tryz.underlying22
 a22 := Tryz.isAgg22
 z22 := Tryz.sizeOf22
 v22 := Tryz.zeroValue22
 i3 := by kernel_rfl }
section
variable {P : Program} {ρ : Go.Shelf.Ren}
set_option maxRecDepth 1000000 in
theorem HK (L : Lays2.n23 P ρ) (k cap : Nat) (x : Int) (w : World) (hH : Holds (Value.int .i64) w k 0 #[x]) (hc : 1 <= cap) :
 Calls P (ρ.f 23) #[.slice (some ⟨k, 0, none⟩) 1 cap, .int .i64 0, .int .i64 1] w fun e w' => e = .returned (.slice (some ⟨k, 0, none⟩) 0 cap) /\ w' = putRow (Value.int .i64) (Sort.ahead w 1) k 0 #[0] := by
 have mixed := L.mixed; have t0 := L.t0; have a0 := L.a0; have z0 := L.z0; have v0 := L.v0; have t3 := L.t3; have a3 := L.a3; have z3 := L.z3; have v3 := L.v3; have t4 := L.t4; have a4 := L.a4; have z4 := L.z4; have v4 := L.v4; have t22 := L.t22; have a22 := L.a22; have z22 := L.z22; have v22 := L.v22;obtain ⟨i0, hi0, hz0, hz1, hz2⟩ := info_parts L.i3;obtain ⟨A, hA⟩ : ∃ A : Addr, (if cap = 1 then some (⟨k, 0, none⟩ : Addr) else some ⟨k, 1, none⟩) = some A := by
  by_cases h : cap = 1
  · exact ⟨_, if_pos h⟩
  · exact ⟨_, if_neg h⟩
 have h0 := hH 0 (by simp);have hcl : ∀ ty, (Builtin.clear_ #[ρ.t 22] ty #[.slice (some ⟨k, 0, none⟩) 1 cap]).run P (w.drew.setCells k 0 []) = .ok (.tuple #[]) ((w.drew.setCells k 0 []).setCells k 0 [Value.int .i64 0]) := fun ty =>
  Lib.run_clear_slice _ _ _ ty _ t22 v3 rfl rfl k 0 1 cap (by omega) (fun t ht => by
   obtain rfl : t = 0 := by omega
   show (w.cell? _).isSome = true; rw [h0.1]; rfl) (fun t ht => by
   obtain rfl : t = 0 := by omega
   exact h0.2)
 have hend : (w.drew.setCells k 0 []).setCells k 0 [Value.int .i64 0] = putRow (Value.int .i64) (Sort.ahead w 1) k 0 #[0] := by
  have e := Go.Lib.putRow_setCells (Value.int .i64) (Sort.ahead w 1) k 0 [(0 : Int)] #[x] 0 (by simp);rw [putRow_self (Value.int .i64) (Sort.ahead w 1) k 0 #[x] (holds_ahead (Value.int .i64) w 1 k 0 #[x] hH)] at e;exact e
 go_enter L.f23, Body2.n23_ntmps ρ
 go_wp2_with fail
 go_region_law_o (refine step_append_room rfl (.tmp 22) (.tmp 25) (ρ.t 22) rfl (ρ.t 3) i0 1 t22 hi0 hz1 k 0 0 cap (by simp [Act.eval, Act.put]) A 0 (cap - 1) [] (by simp [Act.eval, Act.put]) rfl (fun t u hu => (by cases hu)) (fun u hu => (by cases hu)) (by omega) (fun t ht => (by cases ht)) ?_)
 clear hH h0 hA
 go_wp2
 go_ret
 exact ⟨rfl, hend.symm ▸ rfl⟩
end
theorem xQ (H : Hp) (V : List Nat) (b : Nat) (x : Int) (hb : H[b]? = some (some [ci x])) : CC Tryz.prog 63 [.bsl b 0 1 1, ci 0, ci 1] H V (fun r H' V' => r = .bsl b 0 0 1 /\ H' = H.set b (some [ci 0]) /\ V = V') := by
 refine ⟨⟨Tryz.f63, Tryz.func63, rfl, by kernel_rfl⟩, fun m w us hi hu => ?_⟩;rw [av] at hu;obtain ⟨u, r, rfl, h1, h2⟩ := hu;rw [av] at h2;obtain ⟨u2, r2, rfl, h2, h3⟩ := h2;rw [av] at h3;obtain ⟨u3, r3, rfl, h3, h4⟩ := h3;rw [av] at h4; subst h4;rw [ag] at h2 h3; subst h2 h3;rw [ag] at h1;obtain ⟨base, cap, k, rfl, g1, g2, hk, hbase, hrow⟩ := h1;obtain rfl : base = some ⟨k, 0, none⟩ := hbase.resolve_left (by decide);obtain ⟨c, e, q1, q2, q3, q4⟩ := hi.alive hb hk hrow;have hH : Holds (Value.int .i64) w k 0 #[x] := by
  intro j hj;obtain rfl : j = 0 := by simpa using hj
  obtain ⟨v, a1, a2, _⟩ := cH q4 0 (ci x) rfl;rw [ag] at a2; subst a2;refine ⟨by rw [a1]; rfl, ?_⟩;simp [World.frozen?, q1]
 refine (HK QG k cap x w hH g1).mono ?_;rintro _ _ ⟨rfl, rfl⟩;obtain ⟨s1, s2⟩ := oe (xs := [x]) (ys := [0]) hi hb hk q1 (by simp) 1 #[];have eg : grow (putRow (Value.int .i64) (Sort.ahead w 1) k 0 [(0 : Int)].toArray) #[] = putRow (Value.int .i64) (Sort.ahead w 1) k 0 #[0] := by
  simp [grow]; rfl
 rw [eg] at s1 s2;refine ⟨_, m, .bsl b 0 0 1, _, _, rfl, ⟨rfl, rfl, rfl⟩, s1, ?_, s2⟩;rw [ag];exact ⟨_, _, k, rfl, zero_le _, g2, hk, .inl rfl, hrow.mono s2⟩
end
def QH (l : List Int) : Nat -> Nat -> List Nat -> CV := fun _ b W => .sl (.own b (W.getD 0 0)) 1 (l.map ic)
def RA (l : List (Int × Int)) : Nat -> Nat -> List Nat -> CV := fun _ b W => .sl (.own b (W.getD 0 0)) 2 (l.map bl)
def cwB : Nat -> Nat -> List Nat -> CV := fun a _ _ => .bsl a 0 1 1
def ceB (m : Nat) : Nat -> Nat -> List Nat -> CV := fun a _ _ => .bsl a 0 m 2
theorem xR (l : List Int) (hl : l.length <= 1000000) : DL 33 (.sl .sh 1 (l.map ic)) (QH l) [] 1 := fun H V => by
 refine CC.mono (lL H V .sh l (by omega)) ?_;rintro _ _ _ ⟨v, rfl, rfl, rfl⟩;exact ⟨[v], rfl, rfl, by simp, rfl⟩
theorem x6 (l : List (Int × Int)) (hl : l.length <= 1000000) : DL 116 (.sl .sh 2 (l.map bl)) (RA l) [] 1 := fun H V => by
 refine CC.mono (l5 H V .sh l (by omega)) ?_;rintro _ _ _ ⟨v, rfl, rfl, rfl⟩;exact ⟨[v], rfl, rfl, by simp, rfl⟩
def kG (l : List (Int × Int)) : List CV := (l.map bl).flatten
theorem mQ : ∀ l : List (Int × Int), (kG l).length = 2 * l.length
 | [] => rfl
 | x :: l => by
  have := mQ l;rw [kG] at this ⊢;rw [map_cons, flatten_cons, length_append, this, length_cons];show 2 + _ = _; omega
theorem ze (i j : Nat) : ∀ l : List (Int × Int), okL i j (kG l)
 | [] => trivial
 | x :: l => by
  rw [kG, map_cons, flatten_cons];rw [co];intro c hc;rcases mem_append.1 hc with h | h
  · exact co.1 (show okL i j (bl x) by rw [u9]; trivial) c h
  · exact co.1 (ze i j l) c h
theorem wb (H : Hp) (V : List Nat) (tk : Tk) (l : List (Int × Int)) (h0 : l ≠ []) (hx : l.length <= 1000000000) : CC Tryz.prog 116 [.sl tk 2 (l.map bl)] H V (fun r H' V' => r = .bsl H.length 0 l.length 2 /\ H' = H ++ [some (kG l)] /\ V = V') := by
 refine aj Tryz.func116 rfl fun hok oH => ?_;clear hok;have hne : l.map bl ≠ [] := by simpa using h0
 refine aa (ab ?_);simp [go_sem, ai];refine aa (aa (ab ?_));simp [go_sem, h0];refine ab ?_;simp [go_sem, h0];refine aa (ac.opx (pre := [_, _]) (post := [_]) rfl (by intro c e; cases e) ?_);simp [go_sem];refine ⟨_, _, _, mc (sz := 2) (tk := tk) (ys := l.map bl) wT wT rfl rfl hne (by rw [length_map]; omega), ?_⟩;simp [go_sem];refine ab ?_;simp [go_sem];rw [show (List.map bl l).flatten = kG l from rfl];refine ao.cut (H.length + 1) V.length ⟨rfl, rfl, rfl⟩ (Nat.le_succ _) (le_refl _) (take_of_length_le (by simp)) (take_of_length_le (le_refl _)) (.bsa _ _ _) (by simp [go_sem]) ?_;intro b cs hb;rw [getElem?_append] at hb
 split at hb
 · exact aO (Nat.le_succ _) (le_refl _) (oH b cs hb)
 · exact cK (i := H.length + 1) (j := V.length) (L := [some (kG l)]) (by simp [go_sem, ze]) _ _ hb
theorem xZ (H : Hp) (V : List Nat) (tk : Tk) (x : Int) : CC Tryz.prog 33 [.sl tk 1 [ic x]] H V (fun r H' V' => r = .bsl H.length 0 1 1 /\ H' = H ++ [some [ci x]] /\ V = V') := by
 refine aj Tryz.func33 rfl fun hok oH => ?_;clear hok;refine aa (ab ?_);simp [go_sem, ai];refine aa (aa (ab ?_));simp [go_sem];refine ab ?_;simp [go_sem];refine aa (ac.opx (pre := [_, _]) (post := [_]) rfl (by intro c e; cases e) ?_);simp [go_sem];refine ⟨_, _, _, mc (sz := 1) (tk := tk) (ys := [ic x]) jG jG rfl rfl (by simp) (by simp), ?_⟩;simp [go_sem];refine ab ?_;simp [go_sem];refine ao.cut (H.length + 1) V.length ⟨rfl, rfl, rfl⟩ (Nat.le_succ _) (le_refl _) (take_of_length_le (by simp)) (take_of_length_le (le_refl _)) (.bsa _ _ _) (by simp [go_sem]) ?_;intro b cs hb;rw [getElem?_append] at hb
 split at hb
 · exact aO (Nat.le_succ _) (le_refl _) (oH b cs hb)
 · exact cK (i := H.length + 1) (j := V.length) (L := [some [ci x]]) (by simp [go_sem, okL, aK]) _ _ hb
theorem QI (x : Int) : DL 33 (.sl .sh 1 ([x].map ic)) cwB [some [ci x]] 0 := fun H V => by
 refine CC.mono (xZ H V .sh x) ?_
 rintro _ _ _ ⟨rfl, rfl, rfl⟩
 exact ⟨[], rfl, rfl, rfl, by simp⟩
theorem RB (l : List (Int × Int)) (h0 : l ≠ []) (hl : l.length <= 1000000) : DL 116 (.sl .sh 2 (l.map bl)) (ceB l.length) [some (kG l)] 0 := fun H V => by
 refine CC.mono (wb H V .sh l h0 (by omega)) ?_
 rintro _ _ _ ⟨rfl, rfl, rfl⟩
 exact ⟨[], rfl, rfl, rfl, by simp⟩
theorem vf {W : List Nat} (h : W.length = 1) : ∃ v, W = [v] := by
 match W, h with
 | [v], _ => exact ⟨v, rfl⟩
def nQ (g : d8) (w : Wr) : d8 := ⟨xB g.h w, [(g.h.ws.length : Int)], [], false⟩
theorem CP (H : Hp) (V : List Nat) (g : d8) (m : Nat) (hg : gF g m) (hm : m % 2 = 0) (w : Wr) (hf : aS g.h.sizes w = 0) (hd : w.data.length <= 1000000) : CC Tryz.prog 24 [.agg (dY g), .agg (bq w)] H V (Pu (.tup [.agg (dY (nQ g w)), ci g.h.ws.length, er 0]) H V) := by
 refine aj Tryz.func24 rfl fun hok oH => ?_;clear hok;have hh := hg.h;have hml := hh.ml;have hw0 : g.wait = [] := by rw [hg.w, gV, if_neg (by omega)]; rfl
 have hel : g.h.evs.length = m := by rw [hh.ev, cJ]
 refine aa (ab ?_);simp -implicitDefEqProofs [go_sem, ai];refine aa (ab ?_);simp -implicitDefEqProofs [go_sem];refine CC.mono (mL _ _ g m hg (QH g.wait) (RA g.h.evs) [] [] 1 1 (xR _ (by rw [hw0]; simp)) (x6 _ (by omega)) (fun _ _ _ => rfl) (fun _ _ _ => rfl)) ?_;rintro _ _ _ ⟨rfl, W1, W2, L, q1, q2, rfl, rfl⟩;obtain ⟨v1, rfl⟩ := vf q1;obtain ⟨v2, rfl⟩ := vf q2;rw [hw0];simp -implicitDefEqProofs [go_sem, QH, RA];simp only [Nat.add_assoc, Nat.reduceAdd];refine aa (aa (ab ?_));simp -implicitDefEqProofs [go_sem];refine ab ?_;simp -implicitDefEqProofs [go_sem];have his : ∀ (H : Hp) (V : List Nat) (k : Nat), CC Tryz.prog 61 [.agg [.sl .sh 1 (g.h.sizes.map ic), .sl .sh 3 (g.h.ws.map bq), .sl (.own k v2) 2 (g.h.evs.map bl)], .agg (bq w)] H V (Pu (.tup [.agg (gI (xB g.h w)), ci g.h.ws.length, er 0]) H V) := fun H V k =>
  CC.le (.cons (.agg (.cons (.refl _) (.cons (.refl _) (.cons (.sh _ _ _) .nil)))) (.cons (.refl _) .nil)) (CI H V g.h m hh w hf hd)
 refine aa (az [] [12] (.s 0 .pl <| .s 1 .pl <| .s 2 .pl <| .s 3 .pl <| .s 4 .pl <| .s 5 .pl <| .c 6 <| .s 7 .pl <| .s 8 .pl <| .s 9 .pl <| .s 10 .pl <| .s 11 .pl <| .s 12 .st <| .s 13 .pl <| .s 14 .pl <| .n) ?_);simp -implicitDefEqProofs [go_sem];refine ⟨_, fun H V => his H V _, ?_⟩;simp -implicitDefEqProofs [go_sem];refine aa (aa (ab ?_));simp -implicitDefEqProofs [go_sem];refine ab ?_;simp -implicitDefEqProofs [go_sem];have e9 : ∀ (a b c d e f : Option (List CV)) (x : List CV), (H ++ a :: b :: c :: d :: e :: f :: (L ++ [some x]))[H.length + (L.length + 1 + 1 + 1 + 1 + 1 + 1)]? = some (some x) := fun a b c d e f x => by
  rw [aC, getElem?_cons_succ, getElem?_cons_succ, getElem?_cons_succ, getElem?_cons_succ, getElem?_cons_succ, getElem?_cons_succ, getElem?_append_right (le_refl _), Nat.sub_self]; rfl
 obtain ⟨K, hK⟩ : ∃ K, K = H ++ some (dY g) :: some (bq w) :: some [aI, aI, aI, aI, aI, cb false] :: some (dY g) :: some [.bsl (H.length + 5) 0 ((m + 1) / 2) 1, .sl .sh 1 (g.h.sizes.map ic), .sl .sh 3 (g.h.ws.map bq), .sl (.own (V.length + 1) v2) 2 (g.h.evs.map bl), .sl (.own V.length v1) 1 [], .sl .sh 1 [], cb false] :: some ((bL m).map eL) :: (L ++ [some (gI (xB g.h w))]) := ⟨_, rfl⟩
 have kx : K[H.length + (L.length + 1 + 1 + 1 + 1 + 1 + 1)]? = some (some (gI (xB g.h w))) := by rw [hK]; exact e9 _ _ _ _ _ _ _
 have ks : K[H.length + 4]? = some (some [.bsl (H.length + 5) 0 ((m + 1) / 2) 1, .sl .sh 1 (g.h.sizes.map ic), .sl .sh 3 (g.h.ws.map bq), .sl (.own (V.length + 1) v2) 2 (g.h.evs.map bl), .sl (.own V.length v1) 1 [], .sl .sh 1 [], cb false]) := by rw [hK]; exact aC _ _ 4
 have kr : K[H.length + 2]? = some (some [aI, aI, aI, aI, aI, cb false]) := by rw [hK]; exact aC _ _ 2
 have kt : K.take H.length = H := by rw [hK]; simp
 have kl := (List.getElem?_eq_some_iff.1 ks).1;rw [<- hK];clear hK e9;have hS : ∀ (Q : List CV) (C : List CV -> Prop), dN (K.set (H.length + 4) (some Q)) (H.length + 4) C = C Q := fun Q C => ak (getElem?_set_self kl) C;have hR : ∀ (Q : List CV) (C : List CV -> Prop), dN (K.set (H.length + 4) (some Q)) (H.length + 2) C = C [aI, aI, aI, aI, aI, cb false] := fun Q C => ak (by rw [getElem?_set_ne (by omega)]; exact kr) C;have hT : ∀ (Q Q' : List CV) (C : List CV -> Prop), dN ((K.set (H.length + 4) (some Q)).set (H.length + 2) (some Q')) (H.length + 2) C = C Q' := fun Q Q' C => ak (getElem?_set_self (by simp; omega)) C;have hvv : (V ++ [v1, v2])[V.length]? = some v1 := fL _ _;refine aa (ab ?_);simp -implicitDefEqProofs [go_sem, ak kx, ak ks];refine aa (ab ?_);simp -implicitDefEqProofs [go_sem, hS, hvv];refine ab ?_;simp -implicitDefEqProofs [go_sem, hS, hR, hT];refine ⟨rfl, ?_⟩;refine ao.pu (r0 := .tup [.agg (dY (nQ g w)), ci g.h.ws.length, er 0]) (.tup (.cons (.agg ?_) (.cons (.refl _) (.cons (.refl _) .nil)))) (by simp [go_sem, okL_grC]) oH ?_ (by simp)
 · exact .cons (.refl _) (.cons (.refl _) (.cons (.refl _) (.cons (.sh _ _ _) (.cons (.refl _) (.cons (.refl _) .nil)))))
 · rw [take_set_of_le (by omega), take_set_of_le (by omega)]; exact kt
theorem xu (H : Hp) (V : List Nat) (b : Nat) (x : Int) (hb : H[b]? = some (some [ci x])) : CC Tryz.prog 62 [.bsl b 0 1 1, ci x] H V (Pu (ci 0) H V) := by
 refine aj Tryz.func62 rfl fun hok oH => ?_;clear hok;refine aa (ab ?_);simp [go_sem, ai];refine am (α := Unit) (fun _ => ([], H, V)) (fun _ => False) ?_ (fun _ h => h.elim);refine aa (ab ?_);simp [go_sem];refine af ?_;refine al (α := Unit) (fun _ => ([(0, .bsl b 0 1 1), (1, ci x), (7, ci 1), (8, ci 0)], H, V)) (fun _ => True) (fun _ => 0) () trivial (ae (by simp [go_sem]) rfl rfl) ?_;rintro _ -;dsimp only;refine aa (ab ?_);simp [go_sem];refine aa (ab ?_);simp [go_sem];refine aa (af (aa (ab ?_)));simp [go_sem];refine aa (ab ?_);simp [go_sem, ak hb];refine ab ?_;simp [go_sem];exact ao.pu (.refl _) (by simp [go_sem]) oH (by simp) (by simp)
def GK (g : d8) (n : Nat) : d8 := ⟨⟨g.h.sizes, g.h.ws, g.h.evs ++ [(1, (n : Int))]⟩, [], [], false⟩
theorem vC (H : Hp) (V : List Nat) (g : d8) (n : Nat) (hg : gF g (2 * n + 1)) : CC Tryz.prog 25 [.agg (dY g), ci n] H V (Pu (.tup [.agg (dY (GK g n)), .sl .sh 1 [ic n], er 0]) H V) := by
 refine aj Tryz.func25 rfl fun hok oH => ?_
 clear hok
 have hh := hg.h
 have hml := hh.ml
 have hw0 : g.wait = [(n : Int)] := by
  rw [hg.w, gV, if_pos (by omega), show (2 * n + 1) / 2 = n by omega]; rfl
 have hel : g.h.evs.length = 2 * n + 1 := by rw [hh.ev, cJ]
 refine aa (ab ?_)
 simp -implicitDefEqProofs [go_sem, ai]
 refine aa (ab ?_)
 simp -implicitDefEqProofs [go_sem]
 refine CC.mono (mL _ _ g (2 * n + 1) hg cwB (RA g.h.evs) [some [ci n]] [] 0 1 (by rw [hw0]; exact QI n) (x6 _ (by omega)) (fun _ _ _ => rfl) (fun _ _ _ => rfl)) ?_
 rintro _ _ _ ⟨rfl, W1, W2, L, q1, q2, rfl, rfl⟩
 obtain rfl := eq_nil_of_length_eq_zero q1
 obtain ⟨v2, rfl⟩ := vf q2
 rw [show (2 * n + 1 + 1) / 2 = n + 1 by omega]
 simp -implicitDefEqProofs [go_sem, cwB, RA]
 simp only [Nat.add_assoc, Nat.reduceAdd]
 refine aa (aa (ab ?_))
 simp -implicitDefEqProofs [go_sem]
 refine ab ?_
 simp -implicitDefEqProofs [go_sem]
 refine aa (ab ?_)
 simp -implicitDefEqProofs [go_sem]
 refine CC.mono (xu _ _ (H.length + 5) n (aC _ _ 5)) ?_
 rintro _ _ _ ⟨rfl, rfl, rfl⟩
 simp -implicitDefEqProofs [go_sem]
 refine aa (aa (ab ?_))
 simp -implicitDefEqProofs [go_sem]
 refine ab ?_
 simp -implicitDefEqProofs [go_sem]
 refine aa (ab ?_)
 simp -implicitDefEqProofs [go_sem]
 rw [show IntKind.i64.wrap (1 : Int) = 1 from rfl]
 refine CC.mono (xQ _ _ (H.length + 5) n (aC _ _ 5)) ?_
 rintro _ _ _ ⟨rfl, rfl, rfl⟩
 simp -implicitDefEqProofs [go_sem]
 refine aa (aa (ab ?_))
 simp -implicitDefEqProofs [go_sem]
 refine ab ?_
 simp -implicitDefEqProofs [go_sem]
 refine aa (ab ?_)
 simp -implicitDefEqProofs [go_sem]
 have hfl : (bL (2 * n + 1)).length = n + 1 := by rw [fq]; omega
 refine CC.mono (zX _ _ (H.length + 3) (H.length + 4) V.length v2 (bL (2 * n + 1)) (.sl .sh 1 (g.h.sizes.map ic)) (.sl .sh 3 (g.h.ws.map bq)) (.bsl (H.length + 5) 0 0 1) (.sl .sh 1 []) (cb false) g.h.evs (by rw [hfl]; exact aC _ _ 3) (aC _ _ 4) (by omega) (fL _ _) n (by omega) (by omega)) ?_
 rintro _ _ _ ⟨rfl, rfl⟩
 rw [hfl]
 simp -implicitDefEqProofs [go_sem, tb]
 refine ab ?_
 simp -implicitDefEqProofs [go_sem]
 refine ao.frozG (b := H.length + 5) (cs := [ci 0]) (r1 := .tup [.agg [.sl .sh 1 (g.h.sizes.map ic), .sl .sh 3 (g.h.ws.map bq), .sl .sh 2 (g.h.evs.map bl ++ [bl (1, (n : Int))]), .bsl (H.length + 5) 0 0 1, .sl .sh 1 [], cb false], .sl .sh 1 [ic n], er 0]) (r2 := .tup [.agg (dY (GK g n)), .sl .sh 1 [ic n], er 0]) ⟨rfl, rfl, rfl⟩ ?_ (aC _ _ 5) ?_ (by omega) (by simp [go_sem, okL_grC, ic, okL, aK]) oH (by simp) (by simp)
 · exact .tup (.cons (.agg (.cons (.refl _) (.cons (.refl _) (.cons (.sh _ _ _) (.cons (.refl _) (.cons (.refl _) (.cons (.refl _) .nil))))))) (.cons (.sh _ _ _) (.cons (.refl _) .nil)))
 · have := Fz.bsl (b := H.length + 5) (cs := [ci 0]) 0 0 1 (by simp)
   have e : g.h.evs.map bl ++ [bl (1, (n : Int))] = (g.h.evs ++ [(1, (n : Int))]).map bl := by rw [map_append]; rfl
   rw [e]
   exact .tup (.cons (.agg (.cons (.refl _) (.cons (.refl _) (.cons (.refl _) (.cons this (.cons (.refl _) (.cons (.refl _) .nil))))))) (.cons (.refl _) (.cons (.refl _) .nil)))
def IH (l : List (Int × Int)) (p : Int) : Prop := ∀ x ∈ l, ¬ p <= x.2
theorem CB (H : Hp) (V : List Nat) (tk : Tk) (l : List (Int × Int)) (bp : Nat) (p : Int) (hb : H[bp]? = some (some [ci p])) (hl : l.length <= 1000000) (ha : IH l p) : CC Tryz.prog 142 [.sl tk 2 (l.map bl), .fn 104 [.ptr bp 0]] H V (Pu (ci (-1)) H V) := by
 refine aj Tryz.func142 rfl fun hok oH => ?_;clear hok;refine aa (ab ?_);simp [go_sem, ai];refine am (α := Unit) (fun _ => ([], H, V)) (fun _ => True) ?_ ?_
 · refine aa (ab ?_)
   simp [go_sem];refine af ?_;refine al (α := Nat) (fun i => ([(0, .sl .sh 2 (l.map bl)), (1, .fn 104 [.ptr bp 0]), (7, ci l.length), (8, ci i)], H, V)) (fun i => i <= l.length) (fun i => l.length - i) 0 (zero_le _) (ae (by simp [go_sem]) rfl rfl) ?_;intro i hi;dsimp only;refine aa (ab ?_);simp [go_sem];refine aa (ab ?_)
   by_cases h0 : i < l.length
   case neg =>
    simp [go_sem, h0];exact ae (by simp [go_sem]) rfl rfl
   have hn := ha _ (getElem_mem h0);have wi : IntKind.i64.wrap ((i : Int) + 1) = (i : Int) + 1 := aq (show i <= 1000000000 by omega);simp [go_sem, h0];refine aa (af (aa (ab ?_)));simp [go_sem];refine aa (ab ?_);simp [go_sem, h0];refine ah (tO _ _ l[i] bp p hb) ?_;rw [decide_eq_false hn];simp [go_sem];refine ab ?_;simp [go_sem];refine ab ?_;simp [go_sem, wi];exact ⟨i + 1, by omega, by omega, ae (by simp [go_sem, wi]) rfl rfl⟩
 rintro _ -;dsimp only;refine ab ?_;simp [go_sem];exact ao.pu (.refl _) (by simp [go_sem]) oH (by simp) (by simp)
theorem HH (H : Hp) (V : List Nat) (tk : Tk) (l : List (Int × Int)) (bp : Nat) (p : Int) (hb : H[bp]? = some (some [ci p])) (hl : l.length <= 1000000) (ha : IH l p) : CC Tryz.prog 103 [.sl tk 2 (l.map bl), .fn 104 [.ptr bp 0]] H V (fun r H' V' => r = .sl tk 2 (l.map bl) /\ H' = H /\ V' = V) := by
 refine aj Tryz.func103 rfl fun hok oH => ?_;clear hok;refine aa (ab ?_);simp [go_sem, ai];refine aa (ab ?_);simp [go_sem];refine ah (CB _ _ tk l bp p hb hl ha) ?_;simp [go_sem];refine aa (aa (ab ?_));simp [go_sem];refine ab ?_;simp [go_sem];exact ao.self ⟨rfl, rfl, rfl⟩
theorem ph (a b : List (Int × Int)) : kG (a ++ b) = kG a ++ kG b := by rw [kG, map_append, flatten_append]; rfl
theorem zK : ∀ (l : List (Int × Int)) (i : Nat) (h : i < l.length), ((kG l).drop (i * 2)).take 2 = bl l[i]
 | x :: l, 0, h => by rw [kG, map_cons, flatten_cons]; rfl
 | x :: l, i + 1, h => by
  have := zK l i (by simpa using h);rw [kG] at this ⊢;rw [map_cons, flatten_cons, List.getElem_cons_succ, <- this, show (i + 1) * 2 = 2 + i * 2 by omega, <- drop_drop];rfl
theorem CE (H : Hp) (V : List Nat) (be k : Nat) (l : List (Int × Int)) (x : Int × Int) (hbe : H[be]? = some (some (kG (l ++ [x])))) (hk : l.length = k) (bp : Nat) (p : Int) (hb : H[bp]? = some (some [ci p])) (hl : l.length <= 1000000) (ha : IH l p) (hx : p <= x.2) : CC Tryz.prog 142 [.bsl be 0 (k + 1) 2, .fn 104 [.ptr bp 0]] H V (Pu (ci k) H V) := by
 refine aj Tryz.func142 rfl fun hok oH => ?_;clear hok;refine aa (ab ?_);simp [go_sem, ai];refine am (α := Unit) (fun _ => ([], H, V)) (fun _ => False) ?_ (fun _ h => h.elim);refine aa (ab ?_);simp [go_sem];refine af ?_;refine al (α := Nat) (fun i => ([(0, .bsl be 0 (k + 1) 2), (1, .fn 104 [.ptr bp 0]), (7, ci ((k + 1 : Nat) : Int)), (8, ci i)], H, V)) (fun i => i <= k) (fun i => k - i) 0 (zero_le _) (ae (by simp [go_sem]) rfl rfl) ?_;intro i hi;dsimp only;have h1 : (i : Int) < (k : Int) + 1 := by omega
 have hgl : i * 2 + 2 <= (kG (l ++ [x])).length := by rw [mQ]; simp; omega
 have hge := zK (l ++ [x]) i (by simp; omega);have wi : IntKind.i64.wrap ((i : Int) + 1) = (i : Int) + 1 := aq (show i <= 1000000000 by omega);refine aa (ab ?_);simp [go_sem];refine aa (ab ?_);simp [go_sem, h1];refine aa (af (aa (ab ?_)));simp [go_sem];refine aa (ab ?_);simp [go_sem, ak hbe, hgl];refine ⟨by omega, ?_⟩;rw [hge]
 by_cases hik : i < k
 · have hgi : (l ++ [x])[i]'(by simp; omega) = l[i]'(by omega) := List.getElem_append_left (by omega)
   have hn := ha _ (getElem_mem (show i < l.length by omega));rw [hgi];refine ah (tO _ _ (l[i]'(by omega)) bp p hb) ?_;rw [decide_eq_false hn];simp [go_sem];refine ab ?_;simp [go_sem];refine ab ?_;simp [go_sem, wi];exact ⟨i + 1, by omega, by omega, ae (by simp [go_sem, wi]) rfl rfl⟩
 · obtain rfl : i = k := by omega
   have hgi : (l ++ [x])[i]'(by simp; omega) = x := by rw [List.getElem_append_right (by omega)]; simp
   rw [hgi];refine ah (tO _ _ x bp p hb) ?_;rw [decide_eq_true hx];simp [go_sem];refine ab ?_;simp [go_sem];exact ao.pu (.refl _) (by simp [go_sem]) oH (by simp) (by simp)
theorem aeK : ck Tryz.prog 203 = some [.int .i64 0, .int .i64 0] := by kernel_rfl
theorem HJ (H : Hp) (V : List Nat) (be k : Nat) (l : List (Int × Int)) (x : Int × Int) (hbe : H[be]? = some (some (kG (l ++ [x])))) (hk : l.length = k) (bp : Nat) (p : Int) (hb : H[bp]? = some (some [ci p])) (hl : l.length <= 1000000) (ha : IH l p) (hx : p <= x.2) : CC Tryz.prog 103 [.bsl be 0 (k + 1) 2, .fn 104 [.ptr bp 0]] H V (fun r H' V' => r = .bsl be 0 k 2 /\ H' = H.set be (some (kG (l ++ [(0, 0)]))) /\ V' = V) := by
 refine aj Tryz.func103 rfl fun hok oH => ?_;clear hok;have hel : (kG (l ++ [x])).length = k * 2 + 2 := by rw [mQ]; simp; omega
 have hll : (kG l).length = k * 2 := by rw [mQ]; omega
 have hcl : (kG (l ++ [x])).take (k * 2) ++ [CV.v (.int .i64 0), CV.v (.int .i64 0)] ++ (kG (l ++ [x])).drop (k * 2 + 2) = kG (l ++ [(0, 0)]) := by
  rw [drop_of_length_le (by omega), append_nil, ph, ph, take_append_of_le_length (by omega), take_of_length_le (by omega)]; rfl
 have wk : IntKind.i64.wrap ((k : Int) + 1) = (k : Int) + 1 := aq (show k <= 1000000000 by omega);refine aa (ab ?_);simp [go_sem, ai];refine aa (ab ?_);simp [go_sem];refine ah (CE _ _ be k l x hbe hk bp p hb hl ha hx) ?_;simp [go_sem];refine aa (aa (ab ?_));have k1 : ¬ (k : Int) = -1 := by omega
 simp [go_sem, k1];refine ab ?_;simp [go_sem];refine am (α := Unit) (fun _ => ([(0, .bsl be 0 (k + 1) 2), (5, ci k)], H, V)) (fun _ => True) ?_ ?_
 · refine aa (ab ?_)
   simp [go_sem, wk];refine af ?_;refine al (α := Unit) (fun _ => ([(0, .bsl be 0 (k + 1) 2), (5, ci k), (6, ci ((k : Int) + 1))], H, V)) (fun _ => True) (fun _ => 0) () trivial (ae (by simp [go_sem]) rfl rfl) ?_;rintro _ -;dsimp only;refine aa (aa (ab ?_));simp [go_sem];refine ab ?_;simp [go_sem];exact ae (by simp [go_sem]) rfl rfl
 rintro _ -;dsimp only;refine aa (ac.opx (pre := [_, _, _]) (post := []) rfl (by intro c e; cases e) ?_);simp [go_sem];refine ⟨_, _, _, afM wT aeK rfl hbe (by omega), ?_⟩;rw [show List.map CV.v [Value.int .i64 0, Value.int .i64 0] = [CV.v (.int .i64 0), CV.v (.int .i64 0)] from rfl, hcl];refine ab ?_;simp [go_sem];exact ao.self ⟨rfl, rfl, rfl⟩
def oO (g : d8) (p : Nat) : d8 := ⟨⟨g.h.sizes, g.h.ws.take p, iL (2 * p)⟩, [], [], false⟩
theorem up (n : Nat) (l : List Bool) : yz (List.replicate n true ++ l) n = [] := by
 rw [yz, List.filter_eq_nil_iff];intro i hi;have := mem_range.1 hi;simp [getD_eq_getElem?_getD, getElem?_append_left, this]
theorem D5 (n : Nat) : yz (bL (2 * n)) n = [] := by
 have := up n []
 rwa [append_nil, <- sB] at this
theorem yy (n : Nat) : yz (bL (2 * n + 1)) n = [] := by rw [qE]; exact up n _
theorem JA (n : Nat) : yz (bL (2 * n + 1)) (n + 1) = [n] := by
 have h := yy n;rw [yz] at h ⊢;rw [range_succ, List.filter_append, h, qE];simp [getD_eq_getElem?_getD]
theorem zJ {m p : Nat} (h : m <= 2 * p) : IH (iL m) p := fun x hx => by
 obtain ⟨i, hi, rfl⟩ := getElem_of_mem hx;rw [qJ];rw [cJ] at hi;dsimp only;omega
theorem vz {m p : Nat} (h : m <= 2 * p + 1) : vA (bL m) p ((m + 1) / 2 - p) true = false := by
 rw [Bool.eq_false_iff];intro hh;unfold vA at hh;have hm := contains_iff_mem.1 hh;obtain ⟨i, hi, he⟩ := getElem_of_mem hm;simp only [length_take, length_drop, fq] at hi;rw [List.getElem_take, getElem_drop, qF] at he;have := of_decide_eq_true he;omega
theorem GO (H : Hp) (V : List Nat) (g : d8) (m p : Nat) (hg : gF g m) (hp : m <= 2 * p) (hp2 : p <= (m + 1) / 2) (he : G7 (iL m) (yz (bL m) p) = iL (2 * p)) : CC Tryz.prog 55 [.agg (dY g), .sl .sh 1 ((bT p).map ic)] H V (Pu (.tup [.agg (dY (oO g p)), .sl .sh 1 ((s5 (bL m) p).map ic), er 0]) H V) := by
 refine aj Tryz.func55 rfl fun hok oH => ?_
 clear hok
 have hh := hg.h
 have hml := hh.ml
 have hel : g.h.evs.length = m := by rw [hh.ev, cJ]
 have hwl := hh.wl
 have hfp := fp p
 have hw1 : g.wait.length <= 1 := by rw [hg.w, nG, gV]; split <;> simp
 obtain ⟨n, hn⟩ : ∃ n, (m + 1) / 2 = n := ⟨_, rfl⟩
 refine aa (ab ?_)
 simp -implicitDefEqProofs [go_sem, ai]
 refine aa (ab ?_)
 simp -implicitDefEqProofs [go_sem]
 refine CC.mono (mL _ _ g m hg (QH g.wait) (RA g.h.evs) [] [] 1 1 (xR _ (by omega)) (x6 _ (by omega)) (fun _ _ _ => rfl) (fun _ _ _ => rfl)) ?_
 rintro _ _ _ ⟨rfl, W1, W2, L, q1, q2, rfl, rfl⟩
 obtain ⟨v1, rfl⟩ := vf q1
 obtain ⟨v2, rfl⟩ := vf q2
 rw [hn]
 simp -implicitDefEqProofs [go_sem, QH, RA]
 simp only [Nat.add_assoc, Nat.reduceAdd]
 refine aa (aa (ab ?_))
 simp -implicitDefEqProofs [go_sem]
 refine ab ?_
 simp -implicitDefEqProofs [go_sem]
 refine aa (ab ?_)
 simp -implicitDefEqProofs [go_sem, hfp]
 obtain ⟨bp, hbp⟩ : ∃ bp, bp = H.length + (L.length + 1 + 1 + 1 + 1 + 1) := ⟨_, rfl⟩
 obtain ⟨K, hK⟩ : ∃ K, K = H ++ some (dY g) :: some [aI, aI, aI, aI, aI, cb false] :: some (dY g) :: some [.bsl (H.length + 4) 0 n 1, .sl .sh 1 (g.h.sizes.map ic), .sl .sh 3 (g.h.ws.map bq), .sl (.own (V.length + 1) v2) 2 (g.h.evs.map bl), .sl (.own V.length v1) 1 (g.wait.map ic), .sl .sh 1 [], cb false] :: some ((bL m).map eL) :: (L ++ [some [ci p]]) := ⟨_, rfl⟩
 have kp : K[bp]? = some (some [ci p]) := by
  rw [hK, hbp, aC, getElem?_cons_succ, getElem?_cons_succ, getElem?_cons_succ, getElem?_cons_succ, getElem?_cons_succ, getElem?_append_right (le_refl _), Nat.sub_self]; rfl
 have ks : K[H.length + 3]? = some (some [.bsl (H.length + 4) 0 n 1, .sl .sh 1 (g.h.sizes.map ic), .sl .sh 3 (g.h.ws.map bq), .sl (.own (V.length + 1) v2) 2 (g.h.evs.map bl), .sl (.own V.length v1) 1 (g.wait.map ic), .sl .sh 1 [], cb false]) := by rw [hK]; exact aC _ _ 3
 have kf : K[H.length + 4]? = some (some ((bL m).map eL)) := by rw [hK]; exact aC _ _ 4
 have kr : K[H.length + 1]? = some (some [aI, aI, aI, aI, aI, cb false]) := by rw [hK]; exact aC _ _ 1
 have kt : K.take H.length = H := by rw [hK]; simp
 have kl := (List.getElem?_eq_some_iff.1 kf).1
 rw [<- hK, <- hbp]
 clear hK
 have hS : ∀ (Q : List CV) (C : List CV -> Prop), dN (K.set (H.length + 3) (some Q)) (H.length + 3) C = C Q := fun Q C => ak (getElem?_set_self (by omega)) C
 have hP' : ∀ (Q : List CV), (K.set (H.length + 3) (some Q))[bp]? = some (some [ci p]) := fun Q => by rw [getElem?_set_ne (by omega)]; exact kp
 have hF' : ∀ (Q : List CV), (K.set (H.length + 3) (some Q))[H.length + 4]? = some (some ((bL m).map eL)) := fun Q => by rw [getElem?_set_ne (by omega)]; exact kf
 have hfl : (bL m).length = n := by rw [fq, hn]
 have p1 : ¬ (n : Int) < (p : Int) := by omega
 have p2 : ¬ n < p := by omega
 have hcon : ∀ (H : Hp) (V : List Nat) (c : Nat), H[c]? = some (some ((bL m).map eL)) -> CC Tryz.prog 102 [.bsl c p (n - p) 1, eL true] H V (Pu (.v (.bool false)) H V) := fun H V c hc => by
  have := iM H V c p (n - p) (bL m) true hc (by omega) (by omega)
  have e := vz (m := m) (p := p) (by omega)
  rw [hn] at e
  rwa [e] at this
 have hun : ∀ (H : Hp) (V : List Nat) (c : Nat), H[c]? = some (some ((bL m).map eL)) -> CC Tryz.prog 105 [.agg [.bsl c 0 n 1], ci p] H V (Fr 1 ((s5 (bL m) p).map ic) H V) := fun H V c hc => by
  rw [<- hfl]
  exact uo H V c (bL m) hc p (by omega) (by omega)
 refine aa (aa (az [] [] (.s 0 .pl <| .s 1 .pl <| .s 2 .pl <| .s 3 .pl <| .s 4 .pl <| .s 5 .pl <| .s 6 .pl <| .s 7 .pl <| .s 8 .pl <| .s 9 .pl <| .s 10 .pl <| .s 11 .pl <| .s 12 .pl <| .s 13 .pl <| .s 14 .pl <| .s 15 .pl <| .s 16 .pl <| .s 17 .pl <| .n) ?_))
 simp -implicitDefEqProofs [go_sem, ak kp, ak ks, p1, p2]
 refine ⟨by omega, ?_⟩
 refine CC.mono (hcon _ _ _ kf) ?_
 rintro _ _ _ ⟨rfl, rfl, rfl⟩
 simp -implicitDefEqProofs [go_sem]
 refine ab ?_
 simp -implicitDefEqProofs [go_sem]
 refine am (α := Unit) (fun _ => ([(4, .ptr (H.length + 1) 0), (7, .ptr (H.length + 3) 0), (9, .ptr bp 0), (5, aI), (6, ci 0)], K, V ++ [v1, v2])) (fun _ => True) ?_ ?_
 · refine aa (ab ?_)
   simp -implicitDefEqProofs [go_sem, hfp]
   refine af ?_
   refine al (α := Nat) (fun i => ([(4, .ptr (H.length + 1) 0), (7, .ptr (H.length + 3) 0), (9, .ptr bp 0), (5, aI), (6, ci 0), (44, .sl .sh 1 ((bT p).map ic)), (45, ci p), (46, ci i)], K, V ++ [v1, v2])) (fun i => i <= p) (fun i => p - i) 0 (zero_le _) (ae (by simp [go_sem]) rfl rfl) ?_
   intro i hi
   dsimp only
   refine aa (ab ?_)
   simp -implicitDefEqProofs [go_sem]
   refine aa (ab ?_)
   by_cases h0 : i < p
   case neg =>
    simp -implicitDefEqProofs [go_sem, h0]
    exact ae (by simp [go_sem]) rfl rfl
   have hif : i < (bT p).length := by omega
   have hgi : ∀ (q : i < (bT p).length), (bT p)[i] = (i : Int) := fun q => by simp [bT]
   have wi : IntKind.i64.wrap ((i : Int) + 1) = (i : Int) + 1 := aq (show i <= 1000000000 by omega)
   simp -implicitDefEqProofs [go_sem, h0]
   refine aa (af (aa (ab ?_)))
   simp -implicitDefEqProofs [go_sem, hif, hgi]
   refine aa (ab ?_)
   simp -implicitDefEqProofs [go_sem]
   refine ab ?_
   simp -implicitDefEqProofs [go_sem]
   refine ab ?_
   simp -implicitDefEqProofs [go_sem, wi]
   exact ⟨i + 1, by omega, by omega, ae (by simp [go_sem, wi]) rfl rfl⟩
 rintro _ -
 dsimp only
 refine aa (ab ?_)
 simp -implicitDefEqProofs [go_sem]
 refine aa (az [] [9] (.s 0 .pl <| .s 1 .pl <| .s 2 .pl <| .s 3 .pl <| .s 4 .pl <| .s 5 .pl <| .s 6 .pl <| .s 7 .pl <| .s 8 .pl <| .s 9 .st <| .n) ?_)
 have hpw : p <= g.h.ws.length := by omega
 simp -implicitDefEqProofs [go_sem, ak kp, ak ks, hpw]
 refine aa (ab ?_)
 simp -implicitDefEqProofs [go_sem, hS]
 refine CC.mono (HH _ _ (.own (V.length + 1) v2) g.h.evs bp p (hP' _) (by omega) (by rw [hh.ev]; exact zJ hp)) ?_
 rintro _ _ _ ⟨rfl, rfl, rfl⟩
 simp -implicitDefEqProofs [go_sem, hS]
 refine aa (ab ?_)
 simp -implicitDefEqProofs [go_sem, hS]
 refine aa (az [] [] (.s 0 .pl <| .s 1 .pl <| .s 2 .pl <| .s 3 .pl <| .s 4 .pl <| .s 5 .pl <| .s 6 .pl <| .n) ?_)
 simp -implicitDefEqProofs [go_sem, hS, ak (hP' _)]
 refine CC.mono (hun _ _ _ (hF' _)) ?_
 rintro _ _ _ ⟨v3, rfl, rfl, rfl⟩
 simp -implicitDefEqProofs [go_sem]
 refine aa (ab ?_)
 simp -implicitDefEqProofs [go_sem]
 have hul := yA (bL m) p
 have hul2 : (yz (bL m) p).length = (s5 (bL m) p).length := by rw [s5, length_map]
 have huw : ∀ w ∈ yz (bL m) p, w < (bL m).length := fun w hw => by
  have := mem_range.1 (List.mem_filter.1 hw).1
  omega
 have hbs : ∀ (Q : List CV), (K.set (H.length + 3) (some Q))[H.length + 3]? = some (some Q) := fun Q => getElem?_set_self (by omega)
 have hvk : (V ++ [v1, v2, v3])[V.length + 1]? = some v2 := by
  rw [getElem?_append_right (by omega), Nat.add_sub_cancel_left]; rfl
 refine CC.mono (MB _ _ (H.length + 3) (H.length + 4) (V.length + 1) v2 (bL m) (.sl .sh 1 (g.h.sizes.map ic)) (.sl .sh 3 (List.take p (g.h.ws.map bq))) aI aI (cb false) g.h.evs (by rw [hfl]; exact hbs _) (hF' _) (by omega) hvk (.own (V.length + 2) v3) (yz (bL m) p) huw (by omega)) ?_
 rintro _ _ _ ⟨rfl, rfl⟩
 rw [hfl, GD, tb, hh.ev, he, set_set]
 have hA : ∀ (Q F : List CV) (C : List CV -> Prop), dN ((K.set (H.length + 3) (some Q)).set (H.length + 4) (some F)) (H.length + 3) C = C Q := fun Q F C => ak (by rw [getElem?_set_ne (by omega)]; exact hbs Q) C
 have hB : ∀ (Q F : List CV) (C : List CV -> Prop), dN ((K.set (H.length + 3) (some Q)).set (H.length + 4) (some F)) (H.length + 1) C = C [aI, aI, aI, aI, aI, cb false] := fun Q F C => ak (by rw [getElem?_set_ne (by omega), getElem?_set_ne (by omega)]; exact kr) C
 have hD : ∀ (Q F R : List CV) (C : List CV -> Prop), dN (((K.set (H.length + 3) (some Q)).set (H.length + 4) (some F)).set (H.length + 1) (some R)) (H.length + 1) C = C R := fun Q F R C => ak (getElem?_set_self (by simp; omega)) C
 simp -implicitDefEqProofs [go_sem]
 refine ab ?_
 simp -implicitDefEqProofs [go_sem, hA, hB]
 rw [hD]
 refine ⟨by simp, ?_⟩
 refine ao.pu (r0 := .tup [.agg (dY (oO g p)), .sl .sh 1 ((s5 (bL m) p).map ic), er 0]) (.tup (.cons (.agg ?_) (.cons (.sh _ _ _) (.cons (.refl _) .nil)))) (by simp [go_sem, okL_grC, aR]) oH ?_ (by simp)
 · rw [<- map_take]
   exact .cons (.refl _) (.cons (.refl _) (.cons (.sh _ _ _) (.cons (.nil 1 (by decide)) (.cons (.nil 1 (by decide)) (.cons (.refl _) .nil)))))
 · rw [take_set_of_le (by omega), take_set_of_le (by omega), take_set_of_le (by omega)]; exact kt
theorem qS : ∀ (l : List (Int × Int)) (r : List CV), aY 2 l.length (kG l ++ r) = l.map bl
 | [], _ => rfl
 | x :: l, r => by
  have := qS l r;rw [kG] at this ⊢;rw [length_cons, aY, map_cons, flatten_cons, append_assoc];rw [show (bl x ++ ((l.map bl).flatten ++ r)).take 2 = bl x from rfl, show (bl x ++ ((l.map bl).flatten ++ r)).drop 2 = (l.map bl).flatten ++ r from rfl, this]
theorem HF (H : Hp) (V : List Nat) (tk : Tk) (f : CV) : CC Tryz.prog 106 [.sl tk 1 [], f] H V (fun _ H' V' => H' = H /\ V' = V) := by
 refine aj Tryz.func106 rfl fun hok oH => ?_;clear hok;refine aa (ab ?_);simp [go_sem, ai];refine af ?_;refine al (α := Unit) (fun _ => ([(7, ci 0), (8, ci 0)], H, V)) (fun _ => True) (fun _ => 0) () trivial (ae (by simp [go_sem]) rfl rfl) ?_;rintro _ -;dsimp only;refine aa (ab ?_);simp [go_sem];refine aa (ab ?_);simp [go_sem];exact ao.self ⟨rfl, rfl⟩
theorem GP (H : Hp) (V : List Nat) (g : d8) (m p : Nat) (hg : gF g m) (hm : m = 2 * p + 1) : CC Tryz.prog 55 [.agg (dY g), .sl .sh 1 ((bT p).map ic)] H V (Pu (.tup [.agg (dY (oO g p)), .sl .sh 1 ((s5 (bL m) p).map ic), er 0]) H V) := by
 refine aj Tryz.func55 rfl fun hok oH => ?_
 clear hok
 have hh := hg.h
 have hml := hh.ml
 have hel : g.h.evs.length = m := by rw [hh.ev, cJ]
 have hwl := hh.wl
 have hfp := fp p
 have hw1 : g.wait.length <= 1 := by rw [hg.w, nG, gV]; split <;> simp
 obtain ⟨n, hn⟩ : ∃ n, (m + 1) / 2 = n := ⟨_, rfl⟩
 have hne : g.h.evs ≠ [] := fun e => by rw [e] at hel; simp at hel; omega
 have hu0 : s5 (bL m) p = [] := by rw [s5, hm, yy]; rfl
 refine aa (ab ?_)
 simp -implicitDefEqProofs [go_sem, ai]
 refine aa (ab ?_)
 simp -implicitDefEqProofs [go_sem]
 refine CC.mono (mL _ _ g m hg (QH g.wait) (ceB g.h.evs.length) [] [some (kG g.h.evs)] 1 0 (xR _ (by omega)) (RB _ hne (by omega)) (fun _ _ _ => rfl) (fun _ _ _ => rfl)) ?_
 rintro _ _ _ ⟨rfl, W1, W2, L, q1, q2, rfl, rfl⟩
 obtain ⟨v1, rfl⟩ := vf q1
 obtain rfl := eq_nil_of_length_eq_zero q2
 rw [hn]
 simp -implicitDefEqProofs [go_sem, QH, ceB]
 simp only [Nat.add_assoc, Nat.reduceAdd]
 refine aa (aa (ab ?_))
 simp -implicitDefEqProofs [go_sem]
 refine ab ?_
 simp -implicitDefEqProofs [go_sem]
 refine aa (ab ?_)
 simp -implicitDefEqProofs [go_sem, hfp]
 obtain ⟨bp, hbp⟩ : ∃ bp, bp = H.length + (L.length + 1 + 1 + 1 + 1 + 1 + 1) := ⟨_, rfl⟩
 obtain ⟨K, hK⟩ : ∃ K, K = H ++ some (dY g) :: some [aI, aI, aI, aI, aI, cb false] :: some (dY g) :: some [.bsl (H.length + 4) 0 n 1, .sl .sh 1 (g.h.sizes.map ic), .sl .sh 3 (g.h.ws.map bq), .bsl (H.length + 5) 0 g.h.evs.length 2, .sl (.own V.length v1) 1 (g.wait.map ic), .sl .sh 1 [], cb false] :: some ((bL m).map eL) :: some (kG g.h.evs) :: (L ++ [some [ci p]]) := ⟨_, rfl⟩
 have kp : K[bp]? = some (some [ci p]) := by
  rw [hK, hbp, aC, getElem?_cons_succ, getElem?_cons_succ, getElem?_cons_succ, getElem?_cons_succ, getElem?_cons_succ, getElem?_cons_succ, getElem?_append_right (le_refl _), Nat.sub_self]; rfl
 have ks : K[H.length + 3]? = some (some [.bsl (H.length + 4) 0 n 1, .sl .sh 1 (g.h.sizes.map ic), .sl .sh 3 (g.h.ws.map bq), .bsl (H.length + 5) 0 g.h.evs.length 2, .sl (.own V.length v1) 1 (g.wait.map ic), .sl .sh 1 [], cb false]) := by rw [hK]; exact aC _ _ 3
 have kf : K[H.length + 4]? = some (some ((bL m).map eL)) := by rw [hK]; exact aC _ _ 4
 have kr : K[H.length + 1]? = some (some [aI, aI, aI, aI, aI, cb false]) := by rw [hK]; exact aC _ _ 1
 have kt : K.take H.length = H := by rw [hK]; simp
 have ke : K[H.length + 5]? = some (some (kG g.h.evs)) := by rw [hK]; exact aC _ _ 5
 have kl := (List.getElem?_eq_some_iff.1 kf).1
 rw [<- hK, <- hbp]
 clear hK
 have hS : ∀ (Q : List CV) (C : List CV -> Prop), dN (K.set (H.length + 3) (some Q)) (H.length + 3) C = C Q := fun Q C => ak (getElem?_set_self (by omega)) C
 have hP' : ∀ (Q : List CV), (K.set (H.length + 3) (some Q))[bp]? = some (some [ci p]) := fun Q => by rw [getElem?_set_ne (by omega)]; exact kp
 have hF' : ∀ (Q : List CV), (K.set (H.length + 3) (some Q))[H.length + 4]? = some (some ((bL m).map eL)) := fun Q => by rw [getElem?_set_ne (by omega)]; exact kf
 have hfl : (bL m).length = n := by rw [fq, hn]
 have p1 : ¬ (n : Int) < (p : Int) := by omega
 have p2 : ¬ n < p := by omega
 have hcon : ∀ (H : Hp) (V : List Nat) (c : Nat), H[c]? = some (some ((bL m).map eL)) -> CC Tryz.prog 102 [.bsl c p (n - p) 1, eL true] H V (Pu (.v (.bool false)) H V) := fun H V c hc => by
  have := iM H V c p (n - p) (bL m) true hc (by omega) (by omega)
  have e := vz (m := m) (p := p) (by omega)
  rw [hn] at e
  rwa [e] at this
 have hun : ∀ (H : Hp) (V : List Nat) (c : Nat), H[c]? = some (some ((bL m).map eL)) -> CC Tryz.prog 105 [.agg [.bsl c 0 n 1], ci p] H V (Fr 1 ((s5 (bL m) p).map ic) H V) := fun H V c hc => by
  rw [<- hfl]
  exact uo H V c (bL m) hc p (by omega) (by omega)
 refine aa (aa (az [] [] (.s 0 .pl <| .s 1 .pl <| .s 2 .pl <| .s 3 .pl <| .s 4 .pl <| .s 5 .pl <| .s 6 .pl <| .s 7 .pl <| .s 8 .pl <| .s 9 .pl <| .s 10 .pl <| .s 11 .pl <| .s 12 .pl <| .s 13 .pl <| .s 14 .pl <| .s 15 .pl <| .s 16 .pl <| .s 17 .pl <| .n) ?_))
 simp -implicitDefEqProofs [go_sem, ak kp, ak ks, p1, p2]
 refine ⟨by omega, ?_⟩
 refine CC.mono (hcon _ _ _ kf) ?_
 rintro _ _ _ ⟨rfl, rfl, rfl⟩
 simp -implicitDefEqProofs [go_sem]
 refine ab ?_
 simp -implicitDefEqProofs [go_sem]
 refine am (α := Unit) (fun _ => ([(4, .ptr (H.length + 1) 0), (7, .ptr (H.length + 3) 0), (9, .ptr bp 0), (5, aI), (6, ci 0)], K, V ++ [v1])) (fun _ => True) ?_ ?_
 · refine aa (ab ?_)
   simp -implicitDefEqProofs [go_sem, hfp]
   refine af ?_
   refine al (α := Nat) (fun i => ([(4, .ptr (H.length + 1) 0), (7, .ptr (H.length + 3) 0), (9, .ptr bp 0), (5, aI), (6, ci 0), (44, .sl .sh 1 ((bT p).map ic)), (45, ci p), (46, ci i)], K, V ++ [v1])) (fun i => i <= p) (fun i => p - i) 0 (zero_le _) (ae (by simp [go_sem]) rfl rfl) ?_
   intro i hi
   dsimp only
   refine aa (ab ?_)
   simp -implicitDefEqProofs [go_sem]
   refine aa (ab ?_)
   by_cases h0 : i < p
   case neg =>
    simp -implicitDefEqProofs [go_sem, h0]
    exact ae (by simp [go_sem]) rfl rfl
   have hif : i < (bT p).length := by omega
   have hgi : ∀ (q : i < (bT p).length), (bT p)[i] = (i : Int) := fun q => by simp [bT]
   have wi : IntKind.i64.wrap ((i : Int) + 1) = (i : Int) + 1 := aq (show i <= 1000000000 by omega)
   simp -implicitDefEqProofs [go_sem, h0]
   refine aa (af (aa (ab ?_)))
   simp -implicitDefEqProofs [go_sem, hif, hgi]
   refine aa (ab ?_)
   simp -implicitDefEqProofs [go_sem]
   refine ab ?_
   simp -implicitDefEqProofs [go_sem]
   refine ab ?_
   simp -implicitDefEqProofs [go_sem, wi]
   exact ⟨i + 1, by omega, by omega, ae (by simp [go_sem, wi]) rfl rfl⟩
 rintro _ -
 dsimp only
 refine aa (ab ?_)
 simp -implicitDefEqProofs [go_sem]
 refine aa (az [] [9] (.s 0 .pl <| .s 1 .pl <| .s 2 .pl <| .s 3 .pl <| .s 4 .pl <| .s 5 .pl <| .s 6 .pl <| .s 7 .pl <| .s 8 .pl <| .s 9 .st <| .n) ?_)
 have hpw : p <= g.h.ws.length := by omega
 simp -implicitDefEqProofs [go_sem, ak kp, ak ks, hpw]
 refine aa (ab ?_)
 simp -implicitDefEqProofs [go_sem, hS]
 have hev : g.h.evs = iL (2 * p) ++ [((0 : Int), (p : Int))] := by
  rw [hh.ev, hm, lc, show 2 * p % 2 = 0 by omega, show 2 * p / 2 = p by omega]; rfl
 have hel2 : g.h.evs.length = 2 * p + 1 := by omega
 have ke' : ∀ (Q : List CV), (K.set (H.length + 3) (some Q))[H.length + 5]? = some (some (kG (iL (2 * p) ++ [((0 : Int), (p : Int))]))) := fun Q => by rw [getElem?_set_ne (by omega), ke, hev]
 rw [hel2]
 refine CC.mono (HJ _ _ (H.length + 5) (2 * p) (iL (2 * p)) (0, p) (ke' _) (cJ _) bp p (hP' _) (by rw [cJ]; omega) (zJ (le_refl _)) (Int.le_refl _)) ?_
 rintro _ _ _ ⟨rfl, rfl, rfl⟩
 have hke5 := (List.getElem?_eq_some_iff.1 ke).1
 obtain ⟨K2, hK2⟩ : ∃ K2, K2 = (K.set (H.length + 3) (some [.bsl (H.length + 4) 0 n 1, .sl .sh 1 (g.h.sizes.map ic), .sl .sh 3 (List.take p (g.h.ws.map bq)), .bsl (H.length + 5) 0 (2 * p + 1) 2, .sl (.own V.length v1) 1 (g.wait.map ic), .sl .sh 1 [], cb false])).set (H.length + 5) (some (kG (iL (2 * p) ++ [(0, 0)]))) := ⟨_, rfl⟩
 have ks2 : K2[H.length + 3]? = some (some [.bsl (H.length + 4) 0 n 1, .sl .sh 1 (g.h.sizes.map ic), .sl .sh 3 (List.take p (g.h.ws.map bq)), .bsl (H.length + 5) 0 (2 * p + 1) 2, .sl (.own V.length v1) 1 (g.wait.map ic), .sl .sh 1 [], cb false]) := by
  rw [hK2, getElem?_set_ne (by omega), getElem?_set_self (by omega)]
 have kp2 : K2[bp]? = some (some [ci p]) := by rw [hK2, getElem?_set_ne (by omega)]; exact hP' _
 have kf2 : K2[H.length + 4]? = some (some ((bL m).map eL)) := by rw [hK2, getElem?_set_ne (by omega)]; exact hF' _
 have kr2 : K2[H.length + 1]? = some (some [aI, aI, aI, aI, aI, cb false]) := by rw [hK2, getElem?_set_ne (by omega), getElem?_set_ne (by omega)]; exact kr
 have ke2 : K2[H.length + 5]? = some (some (kG (iL (2 * p) ++ [(0, 0)]))) := by rw [hK2, getElem?_set_self (by simp; omega)]
 have kt2 : K2.take H.length = H := by rw [hK2, take_set_of_le (by omega), take_set_of_le (by omega)]; exact kt
 rw [<- hK2]
 clear hK2 hS hP' hF' ke'
 have kl2 := (List.getElem?_eq_some_iff.1 kf2).1
 have hS : ∀ (Q : List CV) (C : List CV -> Prop), dN (K2.set (H.length + 3) (some Q)) (H.length + 3) C = C Q := fun Q C => ak (getElem?_set_self (by omega)) C
 have hP' : ∀ (Q : List CV), (K2.set (H.length + 3) (some Q))[bp]? = some (some [ci p]) := fun Q => by rw [getElem?_set_ne (by omega)]; exact kp2
 have hF' : ∀ (Q : List CV), (K2.set (H.length + 3) (some Q))[H.length + 4]? = some (some ((bL m).map eL)) := fun Q => by rw [getElem?_set_ne (by omega)]; exact kf2
 have hB : ∀ (Q : List CV) (C : List CV -> Prop), dN (K2.set (H.length + 3) (some Q)) (H.length + 1) C = C [aI, aI, aI, aI, aI, cb false] := fun Q C => ak (by rw [getElem?_set_ne (by omega)]; exact kr2) C
 have hD : ∀ (Q R : List CV) (C : List CV -> Prop), dN ((K2.set (H.length + 3) (some Q)).set (H.length + 1) (some R)) (H.length + 1) C = C R := fun Q R C => ak (getElem?_set_self (by simp; omega)) C
 simp -implicitDefEqProofs [go_sem, ak ks2]
 refine aa (ab ?_)
 simp -implicitDefEqProofs [go_sem, hS]
 refine aa (az [] [] (.s 0 .pl <| .s 1 .pl <| .s 2 .pl <| .s 3 .pl <| .s 4 .pl <| .s 5 .pl <| .s 6 .pl <| .n) ?_)
 simp -implicitDefEqProofs [go_sem, hS, ak (hP' _)]
 refine CC.mono (hun _ _ _ (hF' _)) ?_
 rintro _ _ _ ⟨v3, rfl, rfl, rfl⟩
 rw [hu0]
 simp -implicitDefEqProofs [go_sem]
 refine aa (ab ?_)
 simp -implicitDefEqProofs [go_sem]
 refine CC.mono (HF _ _ _ _) ?_
 rintro _ _ _ ⟨rfl, rfl⟩
 simp -implicitDefEqProofs [go_sem]
 refine ab ?_
 simp -implicitDefEqProofs [go_sem, hS, hB, hD]
 refine ao.frozG (b := H.length + 5) (cs := kG (iL (2 * p) ++ [(0, 0)])) (r1 := .tup [.agg [.sl .sh 1 (g.h.sizes.map ic), .sl .sh 3 (List.take p (g.h.ws.map bq)), .bsl (H.length + 5) 0 (2 * p) 2, .sl .sh 1 [], .sl .sh 1 [], cb false], .sl .sh 1 [], er 0]) (r2 := .tup [.agg (dY (oO g p)), .sl .sh 1 [], er 0]) ⟨rfl, rfl, rfl⟩ ?_ ?_ ?_ (by omega) (by simp [go_sem, okL_grC]) oH ?_ (by simp)
 · exact .tup (.cons (.agg (.cons (.refl _) (.cons (.refl _) (.cons (.refl _) (.cons (.nil 1 (by decide)) (.cons (.nil 1 (by decide)) (.cons (.refl _) .nil))))))) (.cons (.sh _ _ _) (.cons (.refl _) .nil)))
 · rw [getElem?_set_ne (by omega), getElem?_set_ne (by omega)]; exact ke2
 · have := Fz.bsl (b := H.length + 5) (cs := kG (iL (2 * p) ++ [(0, 0)])) 0 (2 * p) 2 (by rw [mQ]; simp [cJ]; omega)
   have e := qS (iL (2 * p)) (kG [(0, 0)])
   rw [cJ] at e
   rw [drop_zero, ph, e] at this
   rw [<- map_take, ph]
   exact .tup (.cons (.agg (.cons (.refl _) (.cons (.refl _) (.cons this (.cons (.refl _) (.cons (.refl _) (.cons (.refl _) .nil))))))) (.cons (.refl _) (.cons (.refl _) .nil)))
 · rw [take_set_of_le (by omega), take_set_of_le (by omega)]; exact kt2
theorem zw (H : Hp) (V : List Nat) (g : d8) (m p : Nat) (hg : gF g m) (hp : m <= 2 * p + 1) (hp2 : p <= (m + 1) / 2) : CC Tryz.prog 55 [.agg (dY g), .sl .sh 1 ((bT p).map ic)] H V (Pu (.tup [.agg (dY (oO g p)), .sl .sh 1 ((s5 (bL m) p).map ic), er 0]) H V) := by
 by_cases h : m = 2 * p + 1
 · exact GP H V g m p hg h
 · refine GO H V g m p hg (by omega) hp2 ?_
   by_cases h2 : m = 2 * p
   · subst h2
     rw [D5, G7]; simp
   · obtain ⟨n, rfl⟩ : ∃ n, p = n + 1 := ⟨p - 1, by omega⟩
     obtain rfl : m = 2 * n + 1 := by omega
     rw [JA, G7, show 2 * (n + 1) = 2 * n + 1 + 1 by omega, lc (2 * n + 1)];rw [show (2 * n + 1) % 2 = 1 by omega, show (2 * n + 1) / 2 = n by omega]; rfl
def cS (l : List Int) (s : List au) (v : cF) (g : d8) : List CV := .sl .sh 1 (l.map ic) :: (cj ⟨s, []⟩ ++ (bK v ++ dY g))
@[go_sem, simp] theorem XS (l : List Int) (s : List au) (v : cF) (g : d8) : (cS l s v g).length = 20 := rfl
@[go_sem, simp] theorem XT (l : List Int) (s : List au) (v : cF) (g : d8) : aJ (cS l s v g) = true := rfl
@[go_sem, simp] theorem acl (l : List Int) (s : List au) (v : cF) (g : d8) : (cS l s v g).tail.take 2 = cj ⟨s, []⟩ := rfl
@[go_sem, simp] theorem ach (l : List Int) (s : List au) (v : cF) (g : d8) : ((cS l s v g).drop 3).take 11 = bK v := rfl
@[go_sem, simp] theorem acj (l : List Int) (s : List au) (v : cF) (g : d8) : ((cS l s v g).drop 14).take 6 = dY g := rfl
@[go_sem, simp] theorem aci (l : List Int) (s : List au) (v : cF) (g : d8) : ((cS l s v g).drop 14).take 3 = gI g.h := rfl
@[go_sem, simp] theorem ae7 (l : List Int) (s : List au) (v : cF) (g : d8) (h : 0 < (cS l s v g).length) : (cS l s v g)[0] = .sl .sh 1 (l.map ic) := rfl
@[go_sem, simp] theorem aco (l : List Int) (s : List au) (v : cF) (g : d8) (h : 13 < (cS l s v g).length) : (cS l s v g)[13] = F9 v.img := rfl
@[go_sem, simp] theorem acn (l : List Int) (s : List au) (v : cF) (g : d8) (h : 15 < (cS l s v g).length) : (cS l s v g)[15] = .sl .sh 3 (g.h.ws.map bq) := rfl
@[go_sem, simp] theorem acm (l : List Int) (s : List au) (v : cF) (g : d8) (h : 16 < (cS l s v g).length) : (cS l s v g)[16] = .sl .sh 2 (g.h.evs.map bl) := rfl
@[go_sem, simp] theorem XQ (l : List Int) (s s' : List au) (v : cF) (g : d8) : (cS l s v g).take 1 ++ (cj ⟨s', []⟩ ++ (cS l s v g).drop 3) = cS l s' v g := rfl
@[go_sem, simp] theorem XO (l : List Int) (s : List au) (v v' : cF) (g : d8) : (cS l s v g).take 3 ++ (bK v' ++ (cS l s v g).drop 14) = cS l s v' g := rfl
@[go_sem, simp] theorem XP (l : List Int) (s : List au) (v : cF) (g g' : d8) : (cS l s v g).take 14 ++ (dY g' ++ (cS l s v g).drop 20) = cS l s v g' := rfl
@[go_sem] theorem okL_nodC (i j : Nat) (l : List Int) (s : List au) (v : cF) (g : d8) : okL i j (cS l s v g) = True := by simp [cS, cj, bK, dY, go_sem, okL, aK, aR, dq, cQ, cR, f9, gH, aF, oE]
theorem sW (H : Hp) (V : List Nat) (n : Nat) (hn : n <= 1000000000) : CC Tryz.prog 27 [ci n] H V (Pu (.sl .sh 1 ((bT n).map ic)) H V) := by
 refine aj Tryz.func27 rfl fun hok oH => ?_;clear hok;refine aa (ab ?_);simp [go_sem, ai];refine aa (ab ?_);simp [go_sem];refine am (α := Unit) (fun _ => ([(3, .sl (.own V.length n) 1 ((bT n).map ic))], H, V ++ [n])) (fun _ => True) ?_ ?_
 · refine aa (ab ?_)
   simp [go_sem];refine af ?_;refine al (α := Nat) (fun i => ([(0, ci n), (3, .sl (.own V.length i) 1 ((bT i).map ic)), (4, ci i)], H, V ++ [i])) (fun i => i <= n) (fun i => n - i) 0 (zero_le _) (Sh.tokT (by simp [go_sem, bT]) rfl rfl) ?_;intro i hi;dsimp only;refine aa (aa (ab ?_))
   by_cases h : i < n
   case neg =>
    obtain rfl : i = n := by omega
    simp [go_sem];refine ab ?_;simp [go_sem];exact ae (by simp [go_sem]) rfl rfl
   have hfl := fp i;simp [go_sem, h];refine ab ?_;simp [go_sem];refine aa (af (ab ?_));simp [go_sem, hfl];refine ⟨by omega, ?_⟩;refine ab ?_;simp [go_sem];refine ⟨i + 1, by omega, by omega, ae ?_ rfl (by simp)⟩;rw [sy];simp [go_sem, aq (show i <= 1000000000 by omega)];exact .refl _
 rintro _ -;dsimp only;refine aa (ab ?_);simp [go_sem];refine ab ?_;simp [go_sem];exact ao.pu (.sh _ _ _) (by simp [go_sem, aR]) oH (by simp) (by simp)
theorem gF.rcv {g : d8} {m p : Nat} (h : gF g m) (hp2 : p <= (m + 1) / 2) (hm : 2 * p <= 1000) : gF (oO g p) (2 * p) := by
 have hh := h.h;refine ⟨⟨hh.sz, fun w hw => hh.fs w (mem_of_mem_take hw), fun w hw => hh.dl w (mem_of_mem_take hw), ?_, rfl, hm⟩, ?_, rfl, rfl⟩
 · show (g.h.ws.take p).length = _
   rw [length_take, hh.wl]; omega
 · show ([] : List Int) = _
   rw [gV, if_neg (by omega)]; rfl
theorem gF.iss {g : d8} {n : Nat} (h : gF g (2 * n)) (hm : 2 * n + 1 <= 1000) {w : Wr} (hf : aS g.h.sizes w = 0) (hd : w.data.length <= 1000000) : gF (nQ g w) (2 * n + 1) := by
 have hh := h.h;have hl : g.h.ws.length = n := by rw [hh.wl]; omega
 refine ⟨⟨hh.sz, fun x hx => ?_, fun x hx => ?_, ?_, ?_, hm⟩, ?_, rfl, rfl⟩
 · rcases mem_append.1 hx with hx | hx
   · exact hh.fs x hx
   · obtain rfl : x = w := by simpa using hx
     exact hf
 · rcases mem_append.1 hx with hx | hx
   · exact hh.dl x hx
   · obtain rfl : x = w := by simpa using hx
     exact hd
 · show (g.h.ws ++ [w]).length = _
   rw [length_append, hl]; show n + 1 = _; omega
 · show g.h.evs ++ [(0, (g.h.ws.length : Int))] = _
   rw [hh.ev, hl, lc, show 2 * n % 2 = 0 by omega, show 2 * n / 2 = n by omega]; rfl
 · show [(g.h.ws.length : Int)] = _
   rw [hl, gV, if_pos (by omega), show (2 * n + 1) / 2 = n by omega]; rfl
theorem P5 {g : d8} {n : Nat} (h : gF g (2 * n + 1)) : GK g n = oO g (n + 1) := by
 have hh := h.h;have hl : g.h.ws.length = n + 1 := by rw [hh.wl]; omega
 rw [GK, oO, take_of_length_le (by omega), hh.ev, show 2 * (n + 1) = 2 * n + 1 + 1 by omega, lc (2 * n + 1), show (2 * n + 1) % 2 = 1 by omega, show (2 * n + 1) / 2 = n by omega]; rfl
structure gy (l : List Int) (T : Nat) (s : List au) (v : cF) (g : d8) (n : Nat) : Prop where
 vi : VI l 90 T s v (fM (bo l) g.h.ws) []
 go : gF g (2 * n)
 gs : g.h.sizes = l
 nx : ax v.jr = (n : Int) + 1
theorem gy.wl {l : List Int} {T : Nat} {s : List au} {v : cF} {g : d8} {n : Nat} (h : gy l T s v g n) : g.h.ws.length = n := by rw [h.go.h.wl]; omega
theorem gy.nt {l : List Int} {T : Nat} {s : List au} {v : cF} {g : d8} {n : Nat} (h : gy l T s v g n) : n + 1 <= T := by
 have := h.vi.nx;have := h.nx;omega
theorem VI.nxp {l : List Int} {J T : Nat} {s : List au} {v : cF} {im : bX} {k : List au} (h : VI l J T s v im k) : ax v.jr = v.jr.first + v.pend.length := by
 rw [ax, h.x.pl]
theorem X1 {s : List au} (hs : s.length <= 4096) {ops : List bO} {d' : Dk} {e : Nat} (h : gz ⟨s, []⟩ ops ((0 : Nat) : Int) d' e) : e = 0 /\ d' = ⟨s, []⟩ := by
 refine zt hs ?_;rw [gz, if_neg (by simp [dg hs]), if_neg (by omega)] at h;rw [gz, if_neg (by simp [dg hs]), if_neg (by simp)];exact h
theorem W8 {w : Wr} (hl : w.data.length <= 16) : (bi [w]).length <= 4096 := by
 have h1 := dA ([w].length : Int);have h2 := dA w.volume;have h3 := dA w.start;have h4 := dA (w.data.length : Int);have h5 := kI w.data;rw [bi, length_append, flatMap_cons, flatMap_nil, append_nil, iz, length_append, length_append];omega
theorem gy.wr {l : List Int} {T : Nat} {s : List au} {v : cF} {g : d8} {n : Nat} (h : gy l T s v g n) (hT : T <= 400) {w : Wr} (hl : w.data.length <= 16) :
 (dK v w).2.2.2 ≠ 0 \/ ∃ ops v', dK v w = (v', ax v.jr, ops, 0) /\ aS l w = 0 /\ ax v'.jr = (n : Int) + 2 /\ rg l 90 (T + 1) s v (fM (bo l) g.h.ws) ops v' (fM (bo l) (g.h.ws ++ [w])) := by
 have hv := h.vi
 by_cases hf : aS l w = 0
 case neg =>
  left
  rw [dK, if_neg (by simp [pF hv.ok]), if_pos (by rw [hv.sz]; exact hf), hv.sz];exact hf
 rcases hv.wr (by omega) hf (W8 hl) with e | ⟨ws, v', e, e1, e2, a1, a2, a3, a4⟩
 · left; rw [e]; decide
 right
 refine ⟨_, v', e, hf, ?_, ?_⟩
 · have hx := a4.nxp
   rw [e1, e2, length_append, length_singleton] at hx;have := hv.nxp;have := h.nx;omega
 · rw [qZ]
   exact .wr hv.x.l4 a1 a2 a3 a4
theorem gy.fl {l : List Int} {T : Nat} {s : List au} {v : cF} {g : d8} {n : Nat} (h : gy l T s v g n) (hT : T <= 400) :
 ∃ v' ops, fF ⟨s, []⟩ v = (v', ops, 0) /\ v'.pend = [] /\ ax v'.jr = (n : Int) + 1 /\ rg l 90 (T + 1) s v (fM (bo l) g.h.ws) ops v' (fM (bo l) g.h.ws) := by
 obtain ⟨v', ops, e, e1, e2, e3⟩ := h.vi.flN (by omega);exact ⟨v', ops, e, e1, by rw [e3]; exact h.nx, e2⟩
def RW (l : List Int) (T m : Nat) (s : List au) (g : d8) (ops : List bO) (x : ku) (R : cF -> Nat -> Prop) : Prop :=
 ∀ d' e, gz ⟨s, []⟩ ops ((x.after.toNat % (ops.length + 1) : Nat) : Int) d' e -> e = 0 /\ ∃ s' vv k p, d' = ⟨s', []⟩ /\ VI l 90 T s' vv (fM (bo l) (g.h.ws.take p)) k /\ ax vv.jr = (p : Int) + 1 /\ m <= 2 * p + 1 /\ p <= (m + 1) / 2 /\ R vv p
theorem om (H : Hp) (V : List Nat) (b : Nat) (l : List Int) (T m : Nat) (s : List au) (v : cF) (g : d8) (ops : List bO) (x : ku) (R : cF -> Nat -> Prop) (hb : H[b]? = some (some (cS l s v g))) (hg : gF g m) (hgs : g.h.sizes = l) (hs : s.length <= 4096) (hol : ops.length <= 94) (hot : tot ops <= 400000) (hx : x.ch.length <= 60) (hm : m <= 900) (hT : T <= 500) (hI : RW l T m s g ops x R) : CC Tryz.prog 22 [.ptr b 0, gp ops, .agg (iP x)] H V (fun r H' V' => r = cb true /\ V' = V /\ ∃ s' vv p, H' = H.set b (some (cS l s' vv (oO g p))) /\ gy l T s' vv (oO g p) p /\ R vv p) := by
 refine aj Tryz.func22 rfl fun hok oH => ?_;clear hok;have hh := hg.h;have hbl := (List.getElem?_eq_some_iff.1 hb).1;have hb2 : ∀ L, (H ++ L)[b]? = some (some (cS l s v g)) := fun L => by rw [getElem?_append_left hbl]; exact hb
 have ha := x.after.toNat_lt;have w6 : IntKind.i64.wrap (x.after.toNat : Int) = (x.after.toNat : Int) := IntWalk.i64_in _ ⟨by omega, by omega⟩;have w7 : IntKind.i64.wrap ((ops.length : Int) + 1) = (ops.length : Int) + 1 := aq (show ops.length <= 1000000000 by omega);have htm : ((x.after.toNat : Int)).tmod ((ops.length : Int) + 1) = ((x.after.toNat % (ops.length + 1) : Nat) : Int) := by
  rw [Int.tmod_eq_emod_of_nonneg (by omega), Int.natCast_emod]; rfl
 refine aa (ab ?_);simp -implicitDefEqProofs [go_sem, ai];refine am (α := List au × cF × List au × Nat) (fun a => ([(0, .ptr b 0), (7, .ptr (H.length + 1) 0), (9, er 0)], H ++ [some (iP x), some (cj ⟨a.1, []⟩)], V)) (fun a => VI l 90 T a.1 a.2.1 (fM (bo l) (g.h.ws.take a.2.2.2)) a.2.2.1 /\ ax a.2.1.jr = (a.2.2.2 : Int) + 1 /\ m <= 2 * a.2.2.2 + 1 /\ a.2.2.2 <= (m + 1) / 2 /\ R a.2.1 a.2.2.2) ?_ ?_
 · refine az [] [20] (.s 0 .pl <| .s 1 .pl <| .s 2 .pl <| .s 3 .pl <| .s 4 .pl <| .s 5 .pl <| .s 6 .pl <| .s 7 .pl <| .s 8 .pl <| .s 9 .pl <| .s 10 .pl <| .s 11 .pl <| .s 12 .pl <| .s 13 .pl <| .f 14 .pl (.s 15 .pl <| .s 16 .pl <| .s 17 .pl <| .s 18 .pl <| .s 19 .pl <| .s 20 .st <| .s 21 .pl <| .s 22 .pl <| .n) 19 .pl (.s 14 .pl <| .s 15 .pl <| .s 16 .pl <| .s 17 .pl <| .s 18 .pl <| .s 20 .st <| .s 21 .pl <| .s 22 .pl <| .n)) ?_
   simp -implicitDefEqProofs [go_sem, ak (hb2 _), w6, w7];rw [htm];have fin : ∀ d2 e2, gz ⟨s, []⟩ ops ((x.after.toNat % (ops.length + 1) : Nat) : Int) d2 e2 -> _ := hI;refine ⟨by omega, ?_, ?_⟩
   · refine CC.mono (lr _ _ ⟨s, []⟩ ops _ .sh x.ch (by show s.length <= _; omega) (by show [].length + _ <= _; simp; omega) (by omega) (by omega) EM) ?_
     rintro _ _ V9 ⟨d2, l2, e2, ⟨hi2, hl2⟩, rfl, rfl, eV⟩;obtain rfl := eV.symm;obtain ⟨rfl, s', vv, k, p, rfl, f1, f2, f3, f4, f5⟩ := fin d2 e2 hi2;simp -implicitDefEqProofs [go_sem];exact ⟨s', ⟨vv, k, p, f1, f2, f3, f4, f5⟩, ae (by simp [go_sem]) rfl rfl⟩
   · refine CC.mono (lr _ _ ⟨s, []⟩ ops _ .sh x.ch (by show s.length <= _; omega) (by show [].length + _ <= _; simp; omega) (by omega) (by omega) EM) ?_
     rintro _ _ V9 ⟨d2, l2, e2, ⟨hi2, hl2⟩, rfl, rfl, eV⟩;obtain rfl := eV.symm;obtain ⟨rfl, s', vv, k, p, rfl, f1, f2, f3, f4, f5⟩ := fin d2 e2 hi2;simp -implicitDefEqProofs [go_sem];exact ⟨s', ⟨vv, k, p, f1, f2, f3, f4, f5⟩, ae (by simp [go_sem]) rfl rfl⟩
 rintro ⟨s', vv, k, p⟩ ⟨f1, f2, f3, f4, f5⟩;dsimp only at f1 f2 f3 f4 f5 ⊢;have fl := f1.x.l4;have hlE := f1.x.hE;have hlz := (dj hlE).2.1;obtain ⟨ws, o1, o2, o3, o4, o5, o6⟩ := f1.open;have hct := MQ o2;have hcl := MS ws;have hmul : (ws.length + 1) * s'.length <= 91 * 4096 := Nat.mul_le_mul (by omega) (by omega);refine aa (aa (ab ?_));simp -implicitDefEqProofs [go_sem];refine ab ?_;simp -implicitDefEqProofs [go_sem];refine aa (az [] [11] (.s 0 .pl <| .s 1 .pl <| .s 2 .pl <| .s 3 .pl <| .s 4 .pl <| .c 5 <| .s 6 .pl <| .s 7 .pl <| .s 8 .pl <| .s 9 .pl <| .s 10 .pl <| .s 11 .st <| .s 12 .pl <| .s 13 .pl <| .n) ?_);simp -implicitDefEqProofs [go_sem, ak (hb2 _)];refine ⟨_, fun H V => pC H V ⟨s', []⟩ l 90 ⟨by show s'.length <= _; omega, by simp⟩ (by omega), ?_⟩;rw [show f6 ⟨s', []⟩ l 90 = (vv, oS ws, 0) from o1];simp -implicitDefEqProofs [go_sem, zG];refine aa (ab ?_);simp -implicitDefEqProofs [go_sem];refine ah (kX _ _ ⟨s', []⟩ (oS ws) (by show s'.length <= _; omega) (by show [].length + _ <= _; simp; omega) (by omega)) ?_;rw [MR (by omega) o2];simp -implicitDefEqProofs [go_sem, pQ];refine aa (aa (ab ?_));simp -implicitDefEqProofs [go_sem];refine ab ?_;simp -implicitDefEqProofs [go_sem];have hck := f1.rj.jd.chk;have hpl := f1.x.pl;have hjl := f1.S.jl;have w8 : IntKind.i64.wrap ((p : Int) + 1 - 1) = (p : Int) := by rw [IntWalk.i64_in _ ⟨by omega, by omega⟩]; omega
 have w8' : IntKind.i64.wrap (p : Int) = (p : Int) := IntWalk.i64_in _ ⟨by omega, by omega⟩;refine aa (ab ?_);simp -implicitDefEqProofs [go_sem];refine ah (rh _ _ vv.jr (by omega)) ?_;rw [xn hck, f2];simp -implicitDefEqProofs [go_sem, w8, w8'];have hel : g.h.evs.length = m := by rw [hh.ev, cJ]
 have hwl := hh.wl;refine aa (az [] [] (.s 0 .pl <| .s 1 .pl <| .s 2 .pl <| .s 3 .pl <| .s 4 .pl <| .s 5 .pl <| .s 6 .pl <| .s 7 .pl <| .s 8 .pl <| .s 9 .pl <| .s 10 .pl <| .s 11 .pl <| .s 12 .pl <| .s 13 .pl <| .n) ?_);simp -implicitDefEqProofs [go_sem, ak (hb2 _), hel];refine ah (LJ _ _ g.h m hh) ?_;simp -implicitDefEqProofs [go_sem];have hfl := fp (m / 2);obtain ⟨q, hq⟩ : ∃ q, m / 2 = q := ⟨_, rfl⟩
 rw [hq] at hfl ⊢;have c1 : ¬ (p : Int) < 0 := by omega
 have c2 : ¬ (g.h.ws.length : Int) < (p : Int) := by omega
 have c2' : ¬ g.h.ws.length < p := by omega
 refine am (α := Unit) (fun _ => ([(0, .ptr b 0), (7, .ptr (H.length + 1) 0), (10, .ptr (H.length + 2) 0), (14, ci p)], H ++ [some (iP x), some (cj ⟨a8 s' ws, []⟩), some (bK vv)], V)) (fun _ => True) ?_ ?_
 · refine aa (ab ?_)
   rcases Nat.eq_zero_or_pos q with hq0 | hq0
   · subst hq0
     simp -implicitDefEqProofs [go_sem, ak (hb2 _), hfl, c1, c2, c2'];refine ab ?_;simp -implicitDefEqProofs [go_sem];exact ae (by simp [go_sem]) rfl rfl
   · have c3 : (0 : Int) < (q : Int) := by omega
     have w9 : IntKind.i64.wrap ((q : Int) - 1) = ((q - 1 : Nat) : Int) := by rw [IntWalk.i64_in _ ⟨by omega, by omega⟩]; omega
     have hif : q - 1 < (bT q).length := by omega
     have hgi : ∀ (r : q - 1 < (bT q).length), (bT q)[q - 1] = ((q - 1 : Nat) : Int) := fun r => by simp [bT]
     have c4 : ¬ (p : Int) <= ((q - 1 : Nat) : Int) := by omega
     have c4' : ¬ p <= q - 1 := by omega
     simp -implicitDefEqProofs [go_sem, ak (hb2 _), hfl, c1, c2, c2', c3, w9, hif, hgi, c4, c4', hq0];refine ⟨by omega, ?_⟩;refine ab ?_;simp -implicitDefEqProofs [go_sem];exact ae (by simp [go_sem]) rfl rfl
 rintro _ -;dsimp only;have hgc := zw;refine aa (az [] [12] (.s 0 .pl <| .s 1 .pl <| .s 2 .pl <| .s 3 .pl <| .s 4 .pl <| .c 5 <| .c 6 <| .s 7 .pl <| .s 8 .pl <| .s 9 .pl <| .s 10 .pl <| .s 11 .pl <| .s 12 .st <| .s 13 .pl <| .s 14 .pl <| .n) ?_);simp -implicitDefEqProofs [go_sem, ak (hb2 _)];refine ⟨_, fun H V => sW H V p (by omega), ?_⟩;simp -implicitDefEqProofs [go_sem];refine ⟨_, fun H V => zw H V g m p hg f3 f4, ?_⟩;simp -implicitDefEqProofs [go_sem];refine aa (aa (ab ?_));simp -implicitDefEqProofs [go_sem];refine ab ?_;simp -implicitDefEqProofs [go_sem];have hkp : ∀ (Q : Option (List CV)) (L : Hp), Kp [H.length + 2, H.length + 3] (H ++ L) ((H ++ L).set b Q) = True := fun Q L => eq_true (Kp.keep fun y hy => by
  rw [getElem?_set_ne];rcases mem_cons.1 hy with rfl | hy
  · omega
  · obtain rfl : y = H.length + 3 := by simpa using hy
    omega)
 have hkp2 : ∀ (Q Q' : Option (List CV)) (L : Hp), Kp [H.length + 2, H.length + 3] ((H ++ L).set b Q) ((H ++ L).set b Q') = True := fun Q Q' L => eq_true (wz (by simp; omega));have hbs : ∀ (L : Hp) (Q : List CV) (C : List CV -> Prop), dN ((H ++ L).set b (some Q)) b C = C Q := fun L Q C => ak (getElem?_set_self (by rw [length_append]; omega)) C;have hbo : ∀ (L : Hp) (k : Nat) (Q : Option (List CV)) (C : List CV -> Prop), dN ((H ++ L).set b Q) (H.length + k) C = dN L k C := fun L k Q C => by
  rw [gv, gv, getElem?_set_ne (by omega), aC]
 refine aa (az [H.length + 2, H.length + 3] [8, 11, 14] (.s 0 .pl <| .s 1 .pl <| .s 2 .pl <| .s 3 .pl <| .s 4 .ld <| .s 5 .ld <| .s 6 .pl <| .s 7 .pl <| .s 8 .st <| .s 9 .pl <| .s 10 .pl <| .s 11 .st <| .s 12 .pl <| .s 13 .pl <| .s 14 .st <| .n) ?_);simp -implicitDefEqProofs [go_sem, ak (hb2 _), hkp, hkp2, hbs];refine ab ?_;simp -implicitDefEqProofs [go_sem];rw [set_append_left _ _ hbl];refine ao.cut (r' := cb true) (H'' := H.set b (some (cS l (a8 s' ws) vv (oO g p)))) (V'' := V) H.length V.length ⟨rfl, rfl, a8 s' ws, vv, p, rfl, ⟨o5, hg.rcv f4 (by omega), hgs, f2⟩, f5⟩ (le_refl _) (le_refl _) (by rw [take_append_of_le_length (by simp)]; exact take_of_length_le (by simp)) (by simp) (.refl _) (by simp [go_sem]) (fun b' cs hcs => ?_);exact vp (by rw [okL_nodC]; trivial) oH b' cs hcs
theorem gy.mono {l : List Int} {T T' : Nat} {s : List au} {v : cF} {g : d8} {n : Nat} (h : gy l T s v g n) (ht : T <= T') : gy l T' s v g n := ⟨h.vi.mono ht, h.go, h.gs, h.nx⟩
def RR (v : cF) (g : d8) (x : ku) (g' : d8) : Prop :=
 (¬ x.kind = 1 -> x.crash = true -> x.after.toNat = 0 -> g'.h.ws = g.h.ws) /\ (¬ x.kind = 1 -> x.crash = false -> (dK v x.w).2.2.2 = 0 -> g'.h.ws = g.h.ws ++ [x.w])
theorem gy.rfl' {l : List Int} {T : Nat} {s : List au} {v v' : cF} {g : d8} {n : Nat} (h : gy l T s v g n) (hT : T <= 400) {ops : List bO} {x : ku} (hx : ax v'.jr = (n : Int) + 1) (hop : rg l 90 (T + 1) s v (fM (bo l) g.h.ws) ops v' (fM (bo l) g.h.ws)) : RW l (T + 1) (2 * n) s g ops x fun _ _ => True := fun d' e hI => by
 have hl := h.wl;have htk : g.h.ws.take n = g.h.ws := take_of_length_le (by omega);obtain ⟨e0, s', k, e1, hc⟩ := hop.itr (x.after.toNat % (ops.length + 1)) (Nat.le_of_lt_succ (Nat.mod_lt _ (by omega))) d' e hI;rcases hc with ⟨-, hc⟩ | hc
 · exact ⟨e0, s', v, k, n, e1, by rw [htk]; exact hc, h.nx, by omega, by omega, trivial⟩
 · exact ⟨e0, s', v', [], n, e1, by rw [htk]; exact hc, hx, by omega, by omega, trivial⟩
theorem gy.rwr {l : List Int} {T : Nat} {s : List au} {v v' : cF} {g : d8} {n : Nat} (h : gy l T s v g n) (hT : T <= 400) {ops : List bO} {x : ku} {w : Wr} (hx : ax v'.jr = (n : Int) + 2) (hop : rg l 90 (T + 1) s v (fM (bo l) g.h.ws) ops v' (fM (bo l) (g.h.ws ++ [w]))) : RW l (T + 1) (2 * n + 1) s (nQ g w) ops x fun _ p => x.after.toNat = 0 -> p = n := fun d' e hI => by
 have hl := h.wl;have e1 : (nQ g w).h.ws = g.h.ws ++ [w] := rfl;have t1 : (nQ g w).h.ws.take n = g.h.ws := by rw [e1, take_append_of_le_length (by omega), take_of_length_le (by omega)]
 have t2 : (nQ g w).h.ws.take (n + 1) = g.h.ws ++ [w] := by rw [e1, take_of_length_le (by simp; omega)]
 by_cases h0 : x.after.toNat = 0
 · rw [h0, Nat.zero_mod] at hI
   obtain ⟨e0, e2⟩ := X1 h.vi.x.l4 hI;exact ⟨e0, s, v, [], n, e2, by rw [t1]; exact h.vi.mono (Nat.le_succ _), h.nx, by omega, by omega, fun _ => rfl⟩
 · obtain ⟨e0, s', k, e2, hc⟩ := hop.itr (x.after.toNat % (ops.length + 1)) (Nat.le_of_lt_succ (Nat.mod_lt _ (by omega))) d' e hI
   rcases hc with ⟨-, hc⟩ | hc
   · exact ⟨e0, s', v, k, n, e2, by rw [t1]; exact hc, h.nx, by omega, by omega, fun q => absurd q h0⟩
   · exact ⟨e0, s', v', [], n + 1, e2, by rw [t2]; exact hc, by rw [hx]; omega, by omega, by omega, fun q => absurd q h0⟩
def aa3 (b : Nat) (l : List Int) (T : Nat) (v : cF) (g : d8) (x : ku) (H : Hp) (V : List Nat) : CV -> Hp -> List Nat -> Prop := fun r H' V' => r = cb true /\ V' = V /\ ∃ s' v' g' n', H' = H.set b (some (cS l s' v' g')) /\ gy l (T + 1) s' v' g' n' /\ RR v g x g'
theorem mC (H : Hp) (V : List Nat) (b : Nat) (l : List Int) (T n : Nat) (s : List au) (v : cF) (g : d8) (x : ku) (hb : H[b]? = some (some (cS l s v g))) (hn : gy l T s v g n) (hT : T <= 300) (hd : x.w.data.length <= 16) (hx : x.ch.length <= 60) : CC Tryz.prog 8 [.ptr b 0, .agg (iP x)] H V (aa3 b l T v g x H V) := by
 refine aj Tryz.func8 rfl fun hok oH => ?_;clear hok;have hbl := (List.getElem?_eq_some_iff.1 hb).1;have hb2 : ∀ L, (H ++ L)[b]? = some (some (cS l s v g)) := fun L => by rw [getElem?_append_left hbl]; exact hb
 have hv := hn.vi;have hvS := hv.S;have hl4 := hv.x.l4;have hnt := hn.nt;have hwl := hn.wl;have hdk : rL ⟨s, []⟩ := ⟨by show s.length <= _; omega, by simp⟩
 have hbs : ∀ (L : Hp) (Q : List CV) (C : List CV -> Prop), dN ((H ++ L).set b (some Q)) b C = C Q := fun L Q C => ak (getElem?_set_self (by rw [length_append]; omega)) C;have hself : H.set b (some (cS l s v g)) = H := by
  obtain ⟨q1, q2⟩ := List.getElem?_eq_some_iff.1 hb;rw [<- q2, set_getElem_self]
 have fin : ∀ (r : CV) (L : Hp) (s' : List au) (v' : cF) (g' : d8) (n' : Nat), Le r (cb true) -> gy l (T + 1) s' v' g' n' -> RR v g x g' -> ao H.length V.length (aa3 b l T v g x H V) r ((H ++ L).set b (some (cS l s' v' g'))) V := fun r L s' v' g' n' h0 h1 h2 => by
  rw [set_append_left _ _ hbl];refine ao.cut (r' := cb true) (H'' := H.set b (some (cS l s' v' g'))) (V'' := V) H.length V.length ⟨rfl, rfl, s', v', g', n', rfl, h1, h2⟩ (le_refl _) (le_refl _) (by rw [take_append_of_le_length (by simp)]; exact take_of_length_le (by simp)) (by simp) h0 (by simp [go_sem]) (fun b' cs hcs => ?_);exact vp (by rw [okL_nodC]; trivial) oH b' cs hcs
 refine aa (ab ?_);simp -implicitDefEqProofs [go_sem, ai]
 by_cases hk : x.kind = 1
 · obtain ⟨v', ops, e1, e2, e3, hop⟩ := hn.fl (by omega)
   refine aa (aa (ab ?_));simp -implicitDefEqProofs [go_sem, hk];refine ac.condT rfl ?_;refine aa (az [] [14] (.s 0 .pl <| .s 1 .pl <| .s 2 .pl <| .s 3 .pl <| .s 4 .pl <| .s 5 .pl <| .s 6 .pl <| .s 7 .pl <| .c 8 <| .s 9 .pl <| .s 10 .pl <| .s 11 .pl <| .s 12 .pl <| .s 13 .pl <| .s 14 .st <| .s 15 .pl <| .s 16 .pl <| .n) ?_);simp -implicitDefEqProofs [go_sem, ak (hb2 _)];refine ⟨_, fun H V => rO H V ⟨s, []⟩ v hdk hvS, ?_⟩;rw [e1];simp -implicitDefEqProofs [go_sem, zG];refine aa (aa (ab ?_));simp -implicitDefEqProofs [go_sem];refine ab ?_;simp -implicitDefEqProofs [go_sem];have hol := hop.len;have hot := hop.tot;have hmul : (90 + 4) * s.length <= 94 * 4096 := Nat.mul_le_mul (by omega) (by omega);have hstg : ∀ g', RR v g x g' := fun g' => ⟨fun h => absurd hk h, fun h => absurd hk h⟩
   refine aa (aa (ab ?_))
   by_cases hc : x.crash = true
   · simp -implicitDefEqProofs [go_sem, hc]
     refine ab ?_;simp -implicitDefEqProofs [go_sem];refine CC.mono (om _ _ b l (T + 1) (2 * n) s v g ops x (fun _ _ => True) (hb2 _) hn.go hn.gs hl4 (by omega) (by omega) hx (by omega) (by omega) (hn.rfl' (by omega) e3 hop)) ?_;rintro _ _ _ ⟨rfl, rfl, s', vv, p, rfl, q1, -⟩;simp -implicitDefEqProofs [go_sem];exact fin _ _ _ _ _ _ (.refl _) q1 (hstg _)
   · have hc' : x.crash = false := by simpa using hc
     simp -implicitDefEqProofs [go_sem, hc'];refine ab ?_;simp -implicitDefEqProofs [go_sem];obtain ⟨s1, r1, r2⟩ := hop.run;refine aa (ab ?_);simp -implicitDefEqProofs [go_sem, ak (hb2 _)];refine ah (kX _ _ ⟨s, []⟩ ops (by show s.length <= _; omega) (by show [].length + _ <= _; simp; omega) (by omega)) ?_;rw [r1];simp -implicitDefEqProofs [go_sem, pQ];have hkp : ∀ (Q : Option (List CV)) (L : Hp), Kp [H.length + 1] (H ++ L) ((H ++ L).set b Q) = True := fun Q L => eq_true (Kp.keep fun y hy => by
      obtain rfl : y = H.length + 1 := by simpa using hy
      rw [getElem?_set_ne (by omega)])
     have hkp2 : ∀ (Q Q' : Option (List CV)) (L : Hp), Kp [H.length + 1] ((H ++ L).set b Q) ((H ++ L).set b Q') = True := fun Q Q' L => eq_true (wz (by simp; omega));refine aa (az [H.length + 1] [6, 9] (.s 0 .pl <| .s 1 .pl <| .s 2 .pl <| .s 3 .ld <| .s 4 .pl <| .s 5 .pl <| .s 6 .st <| .s 7 .pl <| .s 8 .pl <| .s 9 .st <| .n) ?_);simp -implicitDefEqProofs [go_sem, ak (hb2 _), hkp, hkp2, hbs];refine ab ?_;simp -implicitDefEqProofs [go_sem];exact fin _ _ _ _ _ _ (.refl _) ⟨r2, hn.go, hn.gs, e3⟩ (hstg _)
 refine aa (aa (ab ?_));simp -implicitDefEqProofs [go_sem, hk];refine ac.condF rfl ?_;refine ab ?_;simp -implicitDefEqProofs [go_sem];have hwc := rN;refine aa (az [] [13] (.s 0 .pl <| .s 1 .pl <| .s 2 .pl <| .s 3 .pl <| .s 4 .pl <| .s 5 .pl <| .c 6 <| .s 7 .pl <| .s 8 .pl <| .s 9 .pl <| .s 10 .pl <| .s 11 .pl <| .s 12 .pl <| .s 13 .st <| .s 14 .pl <| .s 15 .pl <| .s 16 .pl <| .n) ?_);simp -implicitDefEqProofs [go_sem, ak (hb2 _)];refine ⟨_, fun H V => rN H V v x.w hvS (by omega), ?_⟩;rcases hn.wr (by omega) hd with e | ⟨ops, v', e, hf, e3, hop⟩
 · have hr := e
   generalize dK v x.w = wv at e;obtain ⟨a1, a2, a3, a4⟩ := wv;dsimp only at e;simp -implicitDefEqProofs [go_sem, R1];have e' : ¬ ((a4 : Nat) : Int) = 0 := by omega
   refine aa (aa (ab ?_));simp -implicitDefEqProofs [go_sem, e, e'];refine ab ?_;simp -implicitDefEqProofs [go_sem];have hf := fin (cb true) [some (iP x), some (bK a1)] s v g n (.refl _) (hn.mono (Nat.le_succ _)) ⟨fun _ _ _ => rfl, fun _ _ h => absurd h hr⟩;rw [set_append_left _ _ hbl, hself] at hf;exact hf
 have e4 : (dK v x.w).2.2.2 = 0 := by rw [e]
 rw [e];simp -implicitDefEqProofs [go_sem, R1];have hil : (nQ g x.w).h.ws.length = n + 1 := by show (g.h.ws ++ [x.w]).length = _; rw [length_append, hwl]; rfl
 refine aa (aa (ab ?_));simp -implicitDefEqProofs [go_sem];refine ab ?_;simp -implicitDefEqProofs [go_sem];refine aa (az [] [12] (.s 0 .pl <| .s 1 .pl <| .s 2 .pl <| .s 3 .pl <| .s 4 .pl <| .s 5 .pl <| .c 6 <| .s 7 .pl <| .s 8 .pl <| .s 9 .pl <| .s 10 .pl <| .s 11 .pl <| .s 12 .st <| .s 13 .pl <| .s 14 .pl <| .n) ?_);simp -implicitDefEqProofs [go_sem, ak (hb2 _)];refine ⟨_, fun H V => CP H V g (2 * n) hn.go (by omega) x.w (by rw [hn.gs]; exact hf) (by omega), ?_⟩;simp -implicitDefEqProofs [go_sem];rw [hwl];refine aa (aa (ab ?_));simp -implicitDefEqProofs [go_sem];refine ab ?_;simp -implicitDefEqProofs [go_sem];refine aa (ab ?_);simp -implicitDefEqProofs [go_sem, ak (hb2 _)];have hgo := hn.go.iss (by omega) (by rw [hn.gs]; exact hf) (show x.w.data.length <= 1000000 by omega);have hkk : (nQ g x.w).h.sizes = l := hn.gs;have hbN : ∀ (L : Hp) (Q : List CV), ((H ++ L).set b (some Q))[b]? = some (some Q) := fun L Q => getElem?_set_self (by rw [length_append]; omega);have hol := hop.len;have hot := hop.tot;have hmul : (90 + 4) * s.length <= 94 * 4096 := Nat.mul_le_mul (by omega) (by omega);have hbo : ∀ (L : Hp) (k : Nat) (Q : Option (List CV)) (C : List CV -> Prop), dN ((H ++ L).set b Q) (H.length + k) C = dN L k C := fun L k Q C => by
  rw [gv, gv, getElem?_set_ne (by omega), aC]
 have hb0 : ∀ (L : Hp) (Q : Option (List CV)) (C : List CV -> Prop), dN ((H ++ L).set b Q) H.length C = dN L 0 C := fun L Q C => hbo L 0 Q C;have hsa : ∀ (L M : Hp) (Q : Option (List CV)), (H ++ L).set b Q ++ M = (H ++ (L ++ M)).set b Q := fun L M Q => by
  rw [set_append_left _ _ hbl, set_append_left _ _ hbl, append_assoc]
 refine aa (aa (ab ?_))
 by_cases hc : x.crash = true
 · simp -implicitDefEqProofs [go_sem, hbo, hb0, hc]
   refine ab ?_;simp -implicitDefEqProofs [go_sem, hbo, hb0];refine CC.mono (om _ _ b l (T + 1) (2 * n + 1) s v (nQ g x.w) ops x (fun _ p => x.after.toNat = 0 -> p = n) (hbN _ _) hgo hkk hl4 (by omega) (by omega) hx (by omega) (by omega) (hn.rwr (by omega) e3 hop)) ?_;rintro _ _ _ ⟨rfl, rfl, s', vv, p, rfl, q1, q2⟩;simp -implicitDefEqProofs [go_sem];refine fin _ _ _ _ _ _ (.refl _) q1 ⟨fun _ _ h => ?_, fun _ h => absurd (hc.symm.trans h) (by simp)⟩;obtain rfl := q2 h;show (g.h.ws ++ [x.w]).take p = _;rw [take_append_of_le_length (by omega), take_of_length_le (by omega)]
 have hc' : x.crash = false := by simpa using hc
 simp -implicitDefEqProofs [go_sem, hbo, hb0, hc'];refine ab ?_;simp -implicitDefEqProofs [go_sem];obtain ⟨s1, r1, r2⟩ := hop.run;refine aa (ab ?_);simp -implicitDefEqProofs [go_sem, ak (hbN _ _)];refine ah (kX _ _ ⟨s, []⟩ ops (by show s.length <= _; omega) (by show [].length + _ <= _; simp; omega) (by omega)) ?_;rw [r1];simp -implicitDefEqProofs [go_sem, pQ];rw [hsa];refine aa (ab ?_);simp -implicitDefEqProofs [go_sem, hbo, hb0];refine ah (vC _ _ (nQ g x.w) n hgo) ?_;simp -implicitDefEqProofs [go_sem, hbo, hb0];have hsw : ∀ (L : Hp) (k : Nat) (Q Q' : Option (List CV)), ((H ++ L).set b Q).set (H.length + k) Q' = (H ++ L.set k Q').set b Q := fun L k Q Q' => by
  rw [List.set_comm _ _ (by omega), set_append_right _ _ (Nat.le_add_right _ _), Nat.add_sub_cancel_left]
 rw [hsw];have hkp : ∀ (Q Q' : Option (List CV)) (L : Hp), Kp [H.length + 1, H.length + 2] ((H ++ L).set b Q) ((H ++ L).set b Q') = True := fun Q Q' L => eq_true (Kp.keep fun y hy => by
  have hy' : b ≠ y := by
   rcases mem_cons.1 hy with rfl | hy
   · omega
   · obtain rfl : y = H.length + 2 := by simpa using hy
     omega
  rw [getElem?_set_ne hy', getElem?_set_ne hy'])
 refine aa (az [H.length + 1, H.length + 2] [8, 11, 14] (.s 0 .pl <| .s 1 .pl <| .s 2 .pl <| .s 3 .pl <| .s 4 .ld <| .s 5 .ld <| .s 6 .pl <| .s 7 .pl <| .s 8 .st <| .s 9 .pl <| .s 10 .pl <| .s 11 .st <| .s 12 .pl <| .s 13 .pl <| .s 14 .st <| .n) ?_);simp -implicitDefEqProofs [go_sem, hkp, hbs, hbo];refine aa (ab ?_);simp -implicitDefEqProofs [go_sem];refine ah (G9 _ _ .sh _ [(n : Int)] [(n : Int)] (by simp)) ?_;simp -implicitDefEqProofs [go_sem];refine ab ?_;simp -implicitDefEqProofs [go_sem];refine fin _ _ _ _ _ _ ?_ (?_ : gy l (T + 1) s1 v' (GK (nQ g x.w) n) (n + 1)) ⟨fun _ h => absurd (hc'.symm.trans h) (by simp), fun _ _ _ => rfl⟩
 · simp [go_sem]
 rw [P5 hgo];refine ⟨?_, hgo.rcv (by omega) (by omega), hn.gs, by rw [e3]; omega⟩;have : (oO (nQ g x.w) (n + 1)).h.ws = g.h.ws ++ [x.w] := by
  show (g.h.ws ++ [x.w]).take (n + 1) = _;exact take_of_length_le (by simp; omega)
 rw [this];exact r2
structure uc (l : List Int) : Prop where
 a : l.length <= 8
 b : ∀ n ∈ l, 1 <= n /\ n <= 16
 c : 0 < l.length
theorem uc.e {l : List Int} (h : uc l) : aN l = 0 := by
 have h1 := h.a;have h2 := h.c;rw [aN, if_neg (by omega), if_neg];intro hb;obtain ⟨n, hn, q⟩ := any_eq_true.1 hb;have := h.b n hn;simp [m6] at q;omega
theorem NG : ∀ l : List Int, (∀ n ∈ l, 1 <= n /\ n <= 16) -> 0 <= ay l /\ ay l <= 16 * l.length
 | [], _ => by decide
 | x :: l, h => by
  have h1 := h x (by simp);have h2 := NG l fun n hn => h n (by simp [hn]);rw [iU, length_cons]; omega
theorem uc.s {l : List Int} (h : uc l) : 0 <= ay l /\ ay l <= 128 := by
 have h1 := NG l h.b;have h2 := h.a;omega
theorem uc.v {l : List Int} (h : uc l) : cd l 90 = (90 + ay l, 0) := by
 have := h.s;rw [cd, if_neg (by simp [h.e]), if_neg (by omega)]
theorem uc.p {l : List Int} (h : uc l) : (dc l l.length : Int) = ay l := (dE (ew.of h.e)).symm
theorem uc.n {l : List Int} (h : uc l) : qm (90 + ay l) = (⟨me (90 + dc l l.length), []⟩, 0) := by
 have h1 := h.s;have h2 := h.p;rw [qm, if_neg (by omega), show (90 + ay l).toNat = 90 + dc l l.length by omega]; rfl
theorem uc.o {l : List Int} (h : uc l) : (gw l 90).2.1.length <= 10 /\ tot (gw l 90).2.1 <= 10 * 5000 := by
 have hs := h.s;have hva : bf 0 90 = true := (aM _ _).2 ⟨by omega, by omega, by omega, by omega⟩;have hl : (gw l 90).2.1.length = 8 /\ ∀ o ∈ (gw l 90).2.1, o.data.length <= 5000 := by
  unfold gw;rw [if_neg (by rw [h.v]; simp), lV hva];refine ⟨by simp [qD], fun o ho => ?_⟩;simp only [qD, mem_cons, not_mem_nil, or_false] at ho;rcases ho with rfl | rfl | rfl | rfl | rfl | rfl | rfl | rfl
  all_goals first
   | (simp [dG, cO]; done)
   | (simp [dG, cO, cD]; done)
   | (simp [dG, cO]; omega)
 have := wP hl.2;rw [hl.1] at this;omega
def li (l : List Int) : cF := ⟨l, oN 0 (90 : Nat), (90 : Nat), 0, [], bo l⟩
def kF (l : List Int) : d8 := ⟨⟨l, [], []⟩, [], [], false⟩
def gX (l : List Int) : List au := lQ (90 + dc l l.length) 0
theorem uc.g {l : List Int} (h : uc l) : gF (kF l) 0 := ⟨⟨h.e, by simp [kF], by simp [kF], rfl, rfl, by omega⟩, rfl, rfl, rfl⟩
theorem uc.ok {l : List Int} (h : uc l) : gy l 1 (gX l) (li l) (kF l) 0 := by
 have h1 := h.s;have h2 := h.p;obtain ⟨b1, b2, b3⟩ := VI.begin (l := l) (J := 90) h.e (by omega) (by omega);exact ⟨by show VI l 90 1 _ _ (fM (bo l) []) []; rw [zV]; exact b3, h.g, rfl, rfl⟩
theorem nF (H : Hp) (V : List Nat) (l : List Int) (h : uc l) : CC Tryz.prog 7 [.sl .sh 1 (l.map ic)] H V (fun r H' V' => r = .tup [.ptr (H.length + 3) 0, cb true] /\ V' = V /\ H' = H ++ [some (cj ⟨gX l, []⟩), some (bK (li l)), some (dY (kF l)), some (cS l (gX l) (li l) (kF l))]) := by
 refine aj Tryz.func7 rfl fun hok oH => ?_;clear hok;have hE := h.e;have hs := h.s;have hp := h.p;have ha := h.a;have ho := h.o;have hol := vn l;obtain ⟨b1, b2, b3⟩ := VI.begin (l := l) (J := 90) h.e (by omega) (by omega);have b1' : gw l 90 = (li l, (gw l 90).2.1, 0) := b1;have b2' : du ⟨me (90 + dc l l.length), []⟩ (gw l 90).2.1 = (⟨gX l, []⟩, (gw l 90).2.1.length, 0) := b2;have hz := gT (90 + dc l l.length);generalize (gw l 90).2.1 = ops at ho b1' b2';refine aa (ab ?_);simp [go_sem, ai];refine aa (ab ?_);simp [go_sem];refine ah (pz _ _ .sh l 90 (by omega)) ?_;rw [h.v];simp [go_sem];refine aa (aa (ab ?_));simp [go_sem];refine ab ?_;simp [go_sem];refine aa (ab ?_);simp [go_sem];refine ah (JQ _ _ (90 + ay l)) ?_;rw [h.n];simp [go_sem];refine aa (ab ?_);simp [go_sem];refine ah (wM _ _ l 90 (by omega)) ?_;rw [b1'];simp [go_sem, zG];refine aa (ab ?_);simp [go_sem];refine ah (kX _ _ ⟨me (90 + dc l l.length), []⟩ ops (by show (me _).length <= _; omega) (by show [].length + _ <= _; simp; omega) (by omega)) ?_;rw [b2'];simp [go_sem, pQ];refine aa (ab ?_);simp [go_sem];refine ah (LO _ _ l (by omega)) ?_;rw [if_neg (by simp [hE]), hE];simp [go_sem];have w0 : IntKind.i64.wrap 0 = 0 := rfl;refine aa (ab ?_);simp [go_sem, w0];refine ⟨rfl, ab ?_⟩;simp [go_sem];exact ao.self ⟨rfl, rfl, rfl⟩
theorem sc (H : Hp) (V : List Nat) (b : Nat) (l : List Int) (T n : Nat) (s : List au) (v : cF) (g : d8) (hb : H[b]? = some (some (cS l s v g))) (hn : gy l T s v g n) : CC Tryz.prog 9 [.ptr b 0] H V (Pu (cb true) H V) := by
 refine aj Tryz.func9 rfl fun hok oH => ?_;clear hok;have hb2 : ∀ L, (H ++ L)[b]? = some (some (cS l s v g)) := fun L => by rw [getElem?_append_left (List.getElem?_eq_some_iff.1 hb).1]; exact hb
 have hwl := hn.wl;have hh := hn.go.h;have hml := hh.ml;refine aa (ab ?_);simp -implicitDefEqProofs [go_sem, ai];refine aa (ab ?_);simp -implicitDefEqProofs [go_sem, ak hb];refine ah (sW _ _ g.h.ws.length (by omega)) ?_;simp -implicitDefEqProofs [go_sem];refine aa (ab ?_);simp -implicitDefEqProofs [go_sem, ak hb];refine ah (CJ _ _ g.h (2 * n) hh g.h.ws.length rfl) ?_;simp -implicitDefEqProofs [go_sem];have himg := hn.vi.img;have him := jj (x := v.img) hn.vi.ok.sz hn.vi.ok.im;rw [himg] at him;refine aa (ab ?_);simp -implicitDefEqProofs [go_sem, ak hb];rw [hn.gs, himg];refine ah (jk _ _ .sh .sh (fM (bo l) g.h.ws) (fM (bo l) g.h.ws) him.1 him.2) ?_;simp -implicitDefEqProofs [go_sem, ak hb];refine ah (xH _ _ g.h (2 * n) hh g.h.ws.length rfl) ?_;simp -implicitDefEqProofs [go_sem];refine ab ?_;simp -implicitDefEqProofs [go_sem];exact aA rfl oH (by simp) (by simp)
def xs7 : au := ⟨[7, 0, 0, 0, 0, 0, 0, 0], rfl⟩
def xs8 : au := ⟨[8, 0, 0, 0, 0, 0, 0, 0], rfl⟩
def UQ : ku := ⟨0, ⟨0, 1, [xs7]⟩, false, 0, []⟩
def cw8 : ku := ⟨0, ⟨0, 2, [xs8]⟩, true, 0, []⟩
theorem QJ : (dK (li [4]) UQ.w).2.2.2 = 0 := by kernel_rfl
theorem QK : fM (bo [4]) [UQ.w] = [[aP, xs7, aP, aP]] := by kernel_rfl
theorem WN : uc [4] := ⟨by decide, by simp, by decide⟩
theorem fP (H : Hp) (V : List Nat)  : CC Tryz.prog 6 [] H V (Pu (cb true) H V) := by
 refine aj Tryz.func6 rfl fun hok oH => ?_;clear hok;refine aa (ab ?_);simp -implicitDefEqProofs [go_sem, ai];refine aa (ab ?_);simp -implicitDefEqProofs [go_sem];refine CC.le (ys := [.sl .sh 1 (([4] : List Int).map ic)]) (.cons (.sh _ _ _) .nil) ?_;refine CC.mono (nF _ _ [4] WN) ?_;rintro _ _ V' ⟨rfl, eV, rfl⟩;obtain rfl := eV.symm;simp -implicitDefEqProofs [go_sem];refine aa (ab ?_);simp -implicitDefEqProofs [go_sem];refine aa (ab ?_);simp -implicitDefEqProofs [go_sem];have l7 : jD [.v (.int .i64 0), .v (.int .i64 0), .v (.int .i64 1), .sl .ti 8 [[.v (.int .u8 7), .v (.int .u8 0), .v (.int .u8 0), .v (.int .u8 0), .v (.int .u8 0), .v (.int .u8 0), .v (.int .u8 0), .v (.int .u8 0)]], cb false, .v (.int .u8 0), .v (.slice none 0 0)] (iP UQ) :=
  .cons (.refl _) (.cons (.refl _) (.cons (.refl _) (.cons (.sh _ _ _) (.cons (.refl _) (.cons (.refl _) (.cons (.nil 1 (by decide)) .nil))))))
 have l8 : jD [.v (.int .i64 0), .v (.int .i64 0), .v (.int .i64 2), .sl .ti 8 [[.v (.int .u8 8), .v (.int .u8 0), .v (.int .u8 0), .v (.int .u8 0), .v (.int .u8 0), .v (.int .u8 0), .v (.int .u8 0), .v (.int .u8 0)]], cb true, .v (.int .u8 0), .v (.slice none 0 0)] (iP cw8) :=
  .cons (.refl _) (.cons (.refl _) (.cons (.refl _) (.cons (.sh _ _ _) (.cons (.refl _) (.cons (.refl _) (.cons (.nil 1 (by decide)) .nil))))))
 refine ac.ghost (cL.forget (T' := [(1, .ptr (H.length + 3) 0), (2, cb true), (3, .ptr (H.length + 4) 0), (4, .ptr (H.length + 5) 0)]) (oT.get (by simp [go_sem]))) ?_;refine ac.ghost (cL.weak (b := H.length + 4) (aC _ _ 4) l7 (by simp [CV.isObj])) ?_;have hset : ∀ (L : Hp) (k : Nat) (Q : Option (List CV)), (H ++ L).set (H.length + k) Q = H ++ L.set k Q := fun L k Q => by
  rw [set_append_right _ _ (Nat.le_add_right _ _), Nat.add_sub_cancel_left]
 rw [hset];simp only [List.set];refine ac.ghost (cL.weak (b := H.length + 5) (aC _ _ 5) l8 (by simp [CV.isObj])) ?_;rw [hset];simp only [List.set];have hn0 := WN.ok;refine aa (aa (ab ?_));simp -implicitDefEqProofs [go_sem];refine CC.mono (mC _ _ (H.length + 3) [4] 1 0 (gX [4]) (li [4]) (kF [4]) UQ (aC _ _ 3) hn0 (by omega) (by decide) (by decide)) ?_;rintro _ _ _ ⟨rfl, rfl, s1, v1, g1, n1, rfl, hn1, hr1⟩;rw [hset];simp only [List.set];simp -implicitDefEqProofs [go_sem];refine CC.mono (mC _ _ (H.length + 3) [4] 2 n1 s1 v1 g1 cw8 (aC _ _ 3) hn1 (by omega) (by decide) (by decide)) ?_;rintro _ _ _ ⟨rfl, rfl, s2, v2, g2, n2, rfl, hn2, hr2⟩;rw [hset];simp only [List.set];simp -implicitDefEqProofs [go_sem];have hw1 : g1.h.ws = [UQ.w] := hr1.2 (by decide) rfl QJ;have hw2 : g2.h.ws = [UQ.w] := (hr2.1 (by decide) rfl (by decide)).trans hw1;have hi2 : v2.img = [[aP, xs7, aP, aP]] := by rw [hn2.vi.img, hw2]; exact QK
 refine ab ?_;simp -implicitDefEqProofs [go_sem];refine aa (ab ?_);simp -implicitDefEqProofs [go_sem];refine ah (sc _ _ (H.length + 3) [4] 3 n2 s2 v2 g2 (aC _ _ 3) hn2) ?_;simp -implicitDefEqProofs [go_sem, hw2, hi2];refine ⟨_, tJ, gQ _, gQ xs7, fun h => absurd rfl h, fun _ => ⟨_, tJ, gQ _, gQ aP, fun h => absurd rfl h, fun _ => ?_⟩⟩;refine ab ?_;simp -implicitDefEqProofs [go_sem];exact aA rfl oH (by simp) (by simp)
theorem rT {sizes : List Int} {l : List ku} (h : eZ sizes l = true) : uc sizes := by
 obtain ⟨a, b, c, -, -⟩ := nk h;exact ⟨a, b, c⟩
theorem rK (H : Hp) (V : List Nat) (l : List Int) (h1 : l.length <= 9223372036854775807) (xs : List ku) (h2 : xs.length <= 9223372036854775807) : CC Tryz.prog 3 [.sl .sh 1 (l.map ic), .sl .sh 7 (xs.map iP)] H V (Pu (cb true) H V) := by
 refine aj Tryz.func3 rfl fun hok oH => ?_;clear hok;refine aa (ab ?_);simp [go_sem, ai];refine aa (aa (ab ?_));simp [go_sem];refine ah (mZ _ _ l xs h1 h2) ?_
 by_cases hs : eZ l xs = true
 case neg =>
  have hs' : eZ l xs = false := by simpa using hs
  rw [hs'];simp [go_sem];refine ab ?_;simp [go_sem];refine ah (fP _ _) ?_;simp [go_sem];exact aA rfl oH (by simp) (by simp)
 obtain ⟨-, -, -, hxl, hxs⟩ := nk hs;have hz := rT hs;rw [hs];simp [go_sem];refine ab ?_;simp [go_sem];refine aa (ab ?_);simp [go_sem];refine CC.mono (nF _ _ l hz) ?_;rintro _ _ V' ⟨rfl, eV, rfl⟩;obtain rfl := eV.symm;simp [go_sem];refine aa (aa (ab ?_));simp [go_sem];refine ab ?_;simp [go_sem];obtain ⟨L3, hL3⟩ : ∃ L3 : Hp, L3 = [some (cj ⟨gX l, []⟩), some (bK (li l)), some (dY (kF l))] := ⟨_, rfl⟩
 refine am (α := List au × cF × d8 × Nat) (fun z => ([(5, .ptr (H.length + 3) 0)], H ++ [some (cj ⟨gX l, []⟩), some (bK (li l)), some (dY (kF l)), some (cS l z.1 z.2.1 z.2.2.1)], V)) (fun z => True) ?_ ?_
 · refine aa (ab ?_)
   simp [go_sem];refine af ?_;refine al (α := Nat × List au × cF × d8 × Nat) (fun z => ([(5, .ptr (H.length + 3) 0), (21, .sl .sh 7 (xs.map iP)), (22, ci xs.length), (23, ci z.1)], H ++ [some (cj ⟨gX l, []⟩), some (bK (li l)), some (dY (kF l)), some (cS l z.2.1 z.2.2.1 z.2.2.2.1)], V)) (fun z => z.1 <= xs.length /\ gy l (z.1 + 1) z.2.1 z.2.2.1 z.2.2.2.1 z.2.2.2.2) (fun z => xs.length - z.1) (0, gX l, li l, kF l, 0) ⟨zero_le _, hz.ok⟩ (ae (by simp [go_sem]) rfl rfl) ?_;rintro ⟨i, s, v, g, n⟩ ⟨hi, hn⟩;dsimp only at hi hn ⊢;refine aa (ab ?_)
   by_cases h : i < xs.length
   case neg =>
    simp [go_sem, h];refine aa ?_;refine ab ?_;simp [go_sem];exact ⟨s, v, g, ae (by simp [go_sem]) rfl rfl⟩
   simp [go_sem, h];refine aa ?_;refine ab ?_;simp [go_sem];obtain ⟨q1, q2⟩ := hxs xs[i] (getElem_mem h);refine aa (af (aa (ab ?_)));simp [go_sem, h];have hset : ∀ (L : Hp) (k : Nat) (Q : Option (List CV)), (H ++ L).set (H.length + k) Q = H ++ L.set k Q := fun L k Q => by
    rw [set_append_right _ _ (Nat.le_add_right _ _), Nat.add_sub_cancel_left]
   refine aa (ab ?_);simp [go_sem];refine CC.mono (mC _ _ (H.length + 3) l (i + 1) n s v g xs[i] (aC _ _ 3) hn (by omega) q1 q2) ?_;rintro _ _ _ ⟨rfl, rfl, s', v', g', n', rfl, hn', -⟩;rw [hset];simp only [List.set];simp [go_sem];refine ah (sc _ _ (H.length + 3) l (i + 1 + 1) n' s' v' g' (aC _ _ 3) hn') ?_;simp [go_sem];refine ab ?_;simp [go_sem];have wi : IntKind.i64.wrap ((i : Int) + 1) = (i : Int) + 1 := aq (show i <= 1000000000 by omega);refine ab ?_;simp [go_sem, wi];refine ⟨i + 1, s', v', g', ⟨by omega, n', hn'⟩, by omega, ?_⟩;refine Sh.trim (L := [some (cj ⟨gX l, []⟩), some (bK (li l)), some (dY (kF l)), some (cS l s' v' g')]) (by simp [go_sem]) (by simp [go_sem, zi]) oH (by simp [go_sem, okL_dkC, okL_stoC, okL_grC]) (by simp) (by simp) (by simp)
 rintro ⟨s, v, g, n⟩ -;dsimp only;refine aa (ab ?_);simp [go_sem];refine ah (fP _ _) ?_;simp [go_sem];refine ab ?_;simp [go_sem];exact aA rfl oH (by simp) (by simp)
theorem rJ (H : Hp) (V : List Nat) (l : List Int) (h1 : l.length <= 9223372036854775807) (xs : List ku) (h2 : xs.length <= 9223372036854775807) : CC Tryz.prog 4 [.sl .sh 1 (l.map ic), .sl .sh 7 (xs.map iP)] H V (Pu (cb true) H V) := by
 refine aj Tryz.func4 rfl fun hok oH => ?_;clear hok;refine aa (ab ?_);simp -implicitDefEqProofs [go_sem, ai];refine aa (aa (ab ?_));simp -implicitDefEqProofs [go_sem];refine ah (mZ _ _ l xs h1 h2) ?_
 by_cases hs : eZ l xs = true
 case neg =>
  have hs' : eZ l xs = false := by simpa using hs
  rw [hs'];simp -implicitDefEqProofs [go_sem];refine ab ?_;simp -implicitDefEqProofs [go_sem];refine ah (fP _ _) ?_;simp -implicitDefEqProofs [go_sem];exact aA rfl oH (by simp) (by simp)
 obtain ⟨-, -, -, hxl, hxs⟩ := nk hs;have hz := rT hs;rw [hs];simp -implicitDefEqProofs [go_sem];refine ab ?_;simp -implicitDefEqProofs [go_sem];refine aa (ab ?_);simp -implicitDefEqProofs [go_sem];refine CC.mono (nF _ _ l hz) ?_;rintro _ _ V' ⟨rfl, eV, rfl⟩;obtain rfl := eV.symm;simp -implicitDefEqProofs [go_sem];refine aa (aa (ab ?_));simp -implicitDefEqProofs [go_sem];refine ab ?_;simp -implicitDefEqProofs [go_sem];obtain ⟨L3, hL3⟩ : ∃ L3 : Hp, L3 = [some (cj ⟨gX l, []⟩), some (bK (li l)), some (dY (kF l))] := ⟨_, rfl⟩
 refine am (α := List au × cF × d8) (fun z => ([(0, .sl .sh 1 (l.map ic)), (5, .ptr (H.length + 3) 0)], H ++ [some (cj ⟨gX l, []⟩), some (bK (li l)), some (dY (kF l)), some (cS l z.1 z.2.1 z.2.2)], V)) (fun z => ∃ n, gy l (xs.length + 1) z.1 z.2.1 z.2.2 n) ?_ ?_
 · refine aa (ab ?_)
   simp -implicitDefEqProofs [go_sem];refine af ?_;refine al (α := Nat × List au × cF × d8 × Nat) (fun z => ([(0, .sl .sh 1 (l.map ic)), (5, .ptr (H.length + 3) 0), (33, .sl .sh 7 (xs.map iP)), (34, ci xs.length), (35, ci z.1)], H ++ [some (cj ⟨gX l, []⟩), some (bK (li l)), some (dY (kF l)), some (cS l z.2.1 z.2.2.1 z.2.2.2.1)], V)) (fun z => z.1 <= xs.length /\ gy l (z.1 + 1) z.2.1 z.2.2.1 z.2.2.2.1 z.2.2.2.2) (fun z => xs.length - z.1) (0, gX l, li l, kF l, 0) ⟨zero_le _, hz.ok⟩ (ae (by simp [go_sem]) rfl rfl) ?_;rintro ⟨i, s, v, g, n⟩ ⟨hi, hn⟩;dsimp only at hi hn ⊢;refine aa (ab ?_)
   by_cases h : i < xs.length
   case neg =>
    simp -implicitDefEqProofs [go_sem, h];refine aa ?_;refine ab ?_;simp -implicitDefEqProofs [go_sem];obtain rfl : i = xs.length := by omega
    exact ⟨s, v, g, ⟨n, hn⟩, ae (by simp [go_sem]) rfl rfl⟩
   simp -implicitDefEqProofs [go_sem, h];refine aa ?_;refine ab ?_;simp -implicitDefEqProofs [go_sem];obtain ⟨q1, q2⟩ := hxs xs[i] (getElem_mem h);refine aa (af (aa (ab ?_)));simp -implicitDefEqProofs [go_sem, h];have hset : ∀ (L : Hp) (k : Nat) (Q : Option (List CV)), (H ++ L).set (H.length + k) Q = H ++ L.set k Q := fun L k Q => by
    rw [set_append_right _ _ (Nat.le_add_right _ _), Nat.add_sub_cancel_left]
   refine aa (ab ?_);simp -implicitDefEqProofs [go_sem];refine CC.mono (mC _ _ (H.length + 3) l (i + 1) n s v g xs[i] (aC _ _ 3) hn (by omega) q1 q2) ?_;rintro _ _ _ ⟨rfl, rfl, s', v', g', n', rfl, hn', -⟩;rw [hset];simp only [List.set];simp -implicitDefEqProofs [go_sem];refine ab ?_;simp -implicitDefEqProofs [go_sem];have wi : IntKind.i64.wrap ((i : Int) + 1) = (i : Int) + 1 := aq (show i <= 1000000000 by omega);refine ab ?_;simp -implicitDefEqProofs [go_sem, wi];refine ⟨i + 1, s', v', g', ⟨by omega, n', hn'⟩, by omega, ?_⟩;refine Sh.trim (L := [some (cj ⟨gX l, []⟩), some (bK (li l)), some (dY (kF l)), some (cS l s' v' g')]) (by simp [go_sem]) (by simp [go_sem, zi]) oH (by simp [go_sem, okL_dkC, okL_stoC, okL_grC]) (by simp) (by simp) (by simp)
 rintro ⟨s, v, g⟩ ⟨n, hn⟩;dsimp only at hn ⊢;have hv := hn.vi;have hvS := hv.S;have hl4 := hv.x.l4;have hnt := hn.nt;obtain ⟨ws, o1, o2, o3, o4, o5, o6⟩ := hv.open;obtain rfl := o6 rfl;have hdk : rL ⟨s, []⟩ := ⟨by show s.length <= _; omega, by simp⟩
 obtain ⟨v', ops, e1, e2, e3, hop⟩ := hn.fl (by omega);obtain ⟨s1, r1, r2⟩ := hop.run;have hl41 := r2.x.l4;obtain ⟨ws', p1, p2, p3, p4, p5, p6⟩ := r2.open;obtain rfl := p6 rfl;have hdk1 : rL ⟨s1, []⟩ := ⟨by show s1.length <= _; omega, by simp⟩
 have hol := hop.len;have hot := hop.tot;have hmul : (90 + 4) * s.length <= 94 * 4096 := Nat.mul_le_mul (by omega) (by omega);have hlz := hz.a;refine aa (ab ?_);simp -implicitDefEqProofs [go_sem];refine ah (pC _ _ ⟨s, []⟩ l 90 hdk (by omega)) ?_;rw [show f6 ⟨s, []⟩ l 90 = (v, [], 0) from o1];simp -implicitDefEqProofs [go_sem, zG];refine aa (az [] [14] (.s 0 .pl <| .s 1 .pl <| .s 2 .pl <| .s 3 .pl <| .s 4 .pl <| .s 5 .pl <| .s 6 .pl <| .s 7 .pl <| .c 8 <| .s 9 .pl <| .s 10 .pl <| .s 11 .pl <| .s 12 .pl <| .s 13 .pl <| .s 14 .st <| .s 15 .pl <| .s 16 .pl <| .n) ?_);simp -implicitDefEqProofs [go_sem];refine ⟨_, fun H V => rO H V ⟨s, []⟩ v hdk hvS, ?_⟩;rw [e1];simp -implicitDefEqProofs [go_sem, zG];refine aa (ab ?_);simp -implicitDefEqProofs [go_sem];refine ah (kX _ _ ⟨s, []⟩ ops (by show s.length <= _; omega) (by show [].length + _ <= _; simp; omega) (by omega)) ?_;rw [r1];simp -implicitDefEqProofs [go_sem, pQ];refine aa (ab ?_);simp -implicitDefEqProofs [go_sem];refine ah (pC _ _ ⟨s1, []⟩ l 90 hdk1 (by omega)) ?_;rw [show f6 ⟨s1, []⟩ l 90 = (v', [], 0) from p1];simp -implicitDefEqProofs [go_sem, zG];have im1 := hv.img;have im2 := r2.img;have him := jj (x := v.img) hv.ok.sz hv.ok.im;rw [im1] at him;have w0 : IntKind.i64.wrap 0 = 0 := rfl;refine aa (az [] [] (.s 0 .pl <| .s 1 .pl <| .s 2 .pl <| .s 3 .pl <| .s 4 .pl <| .s 5 .pl <| .s 6 .pl <| .s 7 .pl <| .s 8 .pl <| .s 9 .pl <| .s 10 .pl <| .s 11 .pl <| .s 12 .pl <| .s 13 .pl <| .s 14 .pl <| .s 15 .pl <| .s 16 .pl <| .s 17 .pl <| .s 18 .pl <| .s 19 .pl <| .s 20 .pl <| .s 21 .pl <| .s 22 .pl <| .s 23 .pl <| .s 24 .pl <| .s 25 .pl <| .s 26 .pl <| .s 27 .pl <| .s 28 .pl <| .s 29 .pl <| .s 30 .pl <| .s 31 .pl <| .s 32 .pl <| .s 33 .pl <| .s 34 .pl <| .s 35 .pl <| .s 36 .pl <| .s 37 .pl <| .s 38 .pl <| .s 39 .pl <| .s 40 .pl <| .s 41 .pl <| .s 42 .pl <| .s 43 .pl <| .s 44 .pl <| .s 45 .pl <| .s 46 .pl <| .s 47 .pl <| .s 48 .pl <| .s 49 .pl <| .s 50 .pl <| .s 51 .pl <| .s 52 .pl <| .n) ?_);simp -implicitDefEqProofs [go_sem, w0];rw [im1];refine ah (jk _ _ .sh .sh (fM (bo l) g.h.ws) (fM (bo l) g.h.ws) him.1 him.2) ?_;simp -implicitDefEqProofs [go_sem];rw [im1, im2];refine ah (jk _ _ .sh .sh (fM (bo l) g.h.ws) (fM (bo l) g.h.ws) him.1 him.2) ?_;simp -implicitDefEqProofs [go_sem];rw [im1, im2];refine ah (jk _ _ .sh .sh (fM (bo l) g.h.ws) (fM (bo l) g.h.ws) him.1 him.2) ?_;have h9 : ∀ h : 9 < (bK v').length, (bK v')[9] = .sl .sh 3 (v'.pend.map bq) := fun _ => rfl;simp -implicitDefEqProofs [go_sem, h9, e2];refine ah (fP _ _) ?_;simp -implicitDefEqProofs [go_sem];refine ab ?_;simp -implicitDefEqProofs [go_sem];exact aA rfl oH (by simp) (by simp)
end Go.Proofs.YtfflhepmkhlppaaGreatDoor
