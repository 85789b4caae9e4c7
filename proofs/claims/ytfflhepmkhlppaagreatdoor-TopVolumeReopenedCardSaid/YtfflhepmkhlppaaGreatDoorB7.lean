import Derived.Test.YtfflhepmkhlppaaGreatDoorB6
import Derived.Test.YtfflhepmkhlppaaGreatDoorB5
import Derived.Test.YtfflhepmkhlppaaGreatDoorB4
import Derived.WalkSmall
set_option linter.unusedSimpArgs false
set_option linter.unusedVariables false
set_option linter.unusedSectionVars false
set_option maxRecDepth 8000
set_option maxHeartbeats 4000000
open List (all_append all_cons all_eq_true all_map any_eq_true append_assoc append_nil cons_append contains_iff_mem drop_append_of_le_length drop_drop drop_eq_getElem_cons drop_eq_nil_of_le drop_of_length_le drop_one drop_succ_cons drop_take drop_zero eq_nil_of_length_eq_zero ext_getElem ext_getElem? filter_cons flatMap_append flatMap_cons flatMap_nil flatten_append flatten_cons flatten_nil foldl_append foldl_cons getD_eq_getElem?_getD getElem?_append getElem?_append_left getElem?_append_right getElem?_cons_succ getElem?_cons_zero getElem?_drop getElem?_eq_getElem getElem?_eq_none getElem?_map getElem?_of_mem getElem?_replicate getElem?_set getElem?_set_ne getElem?_set_self getElem?_take getElem?_toArray getElem_drop getElem_map getElem_mem getElem_of_mem getElem_set length_append length_cons length_drop length_eq_zero_iff length_map length_nil length_pos_iff length_range length_replicate length_set length_singleton length_take mapM_cons map_append map_congr_left map_cons map_drop map_map map_nil map_set map_take mem_append mem_append_left mem_cons mem_cons_of_mem mem_cons_self mem_flatten mem_map mem_of_getElem? mem_of_mem_drop mem_of_mem_take mem_range mem_replicate mem_singleton nil_append not_mem_nil prefix_refl range_succ replicate_succ replicate_succ' set_append_left set_append_right set_eq_take_append_cons_drop set_getElem_self set_set size_toArray take_append take_append_drop take_append_of_le_length take_left take_length take_of_length_le take_set_of_le take_succ_cons take_succ_eq_append_getElem take_take take_zero zip_cons_cons)
open Nat (le_refl zero_le)
namespace Go.Proofs.YtfflhepmkhlppaaGreatDoor
open Go.Proofs
theorem uV (H : Hp) (V : List Nat) (s : cF) (v : Nat) (h : ew s.sizes) (hv : v <= s.sizes.length) (h0 : 0 <= s.data) (h1 : s.data <= 100000) : CC Tryz.prog 37 [.agg (bK s), ci v] H V (Pu (ci (s.data + ay (s.sizes.take v))) H V) := by
 refine aj Tryz.func37 rfl fun hok oH => ?_;clear hok;have hs := h.sum v;have hl := h.1;refine aa (ab ?_);simp [go_sem, ai];refine aa (az [] [] (.s 0 .pl <| .s 1 .pl <| .s 2 .pl <| .s 3 .pl <| .s 4 .pl <| .s 5 .pl <| .s 6 .pl <| .s 7 .pl <| .s 8 .pl <| .n) ?_);simp [go_sem, bK];refine ⟨by omega, ?_⟩;rw [<- map_take];refine ah (mf _ _ .sh (s.sizes.take v) (h.take v)) ?_;have w1 : IntKind.i64.wrap (s.data + ay (s.sizes.take v)) = s.data + ay (s.sizes.take v) := IntWalk.i64_in _ ⟨by omega, by omega⟩;simp [go_sem, w1];refine ab ?_;simp [go_sem];exact ao.pu (.refl _) (by simp [go_sem]) oH (by simp) (by simp)
def sw (j : bW) (i : Nat) : Int := (j.head + ay (j.sizes.take i)) % (j.count - 16)
theorem ye (H : Hp) (V : List Nat) (d : Dk) (j : bW) (q : Int) (hd : rL d) (hl : j.sizes.length <= 1000000000) : CC Tryz.prog 40 [.agg (cj d), .agg (fA j), ci q] H V (Pu (IV (eS d j q)) H V) := by
 refine aj Tryz.func40 rfl fun hok oH => ?_;clear hok;have bad : ∀ (e : Nat) {H' : Hp} {V' : List Nat}, eS d j q = (nd, [], e) -> H'.take H.length = H -> V'.take V.length = V -> ao H.length V.length (Pu (IV (eS d j q)) H V) (.tup [.agg yn, .v (.slice none 0 0), er e]) H' V' := fun e H' V' h1 h2 h3 => by
  rw [h1];exact lW ym (.nil 3 (by decide)) rfl oH h2 h3
 refine aa (ab ?_);simp [go_sem, ai];refine aa (aa (ab ?_));simp [go_sem];refine ah (eO _ _ d hd) ?_;simp [go_sem];refine aa (ab ?_)
 by_cases hc : aH d = 0
 case neg =>
  simp [go_sem, hc];refine ab ?_;simp [go_sem];exact bad _ (by rw [eS, if_pos hc]) (by simp) (by simp)
 simp [go_sem, hc];refine ab ?_;simp [go_sem];refine aa (ab ?_);simp [go_sem];refine CC.mono (g9 _ _ j hl) ?_;rintro _ _ _ ⟨u, rfl, rfl, rfl, hu⟩;simp [go_sem];refine aa (aa (ab ?_))
 by_cases h : cE j = true
 case neg =>
  simp [go_sem, h];refine ab ?_;simp [go_sem];exact bad 3 (by rw [eS, if_neg (by simp [hc]), if_pos (by simpa using h)]) (by simp) (by simp)
 obtain rfl := hu h;have hn := fI h;have hsu := kN h;have hva := kM h;have hv := (aM _ _).1 hva;have hfi := l6 h;simp [go_sem, h];refine ab ?_;simp [go_sem];refine aa (aa (ab ?_));have w1 : IntKind.i64.wrap (j.first - 1) = j.first - 1 := IntWalk.i64_in _ ⟨by omega, by omega⟩
 by_cases c1 : q < j.first - 1
 · simp [go_sem, w1, c1]
   refine ab ?_;simp [go_sem];exact bad 2 (by rw [eS, if_neg (by simp [hc]), if_neg (by simp [h]), if_pos (.inl c1)]) (by simp) (by simp)
 simp [go_sem, w1, c1];refine ah (mB _ _ j _ hn.1 hn.2) ?_
 by_cases c2 : ax j <= q
 · simp [go_sem, c2]
   refine ab ?_;simp [go_sem];exact bad 2 (by rw [eS, if_neg (by simp [hc]), if_neg (by simp [h]), if_pos (.inr c2)]) (by simp) (by simp)
 have hnx : ax j = j.first + j.sizes.length := rfl;simp [go_sem, c2];refine ab ?_;simp [go_sem];refine aa (ab ?_);simp [go_sem];refine CC.mono (xk _ _ j _ hl) ?_;rintro _ _ _ ⟨v, rfl, rfl, rfl⟩;obtain ⟨n, hnn⟩ := Int.eq_ofNat_of_zero_le (show 0 <= q - j.first + 1 by omega);have hnl : n <= j.sizes.length := by omega
 have w2 : IntKind.i64.wrap (q - j.first) = q - j.first := IntWalk.i64_in _ ⟨by omega, by omega⟩;have w3 : IntKind.i64.wrap (q - j.first + 1) = (n : Int) := by rw [IntWalk.i64_in _ ⟨by omega, by omega⟩]; omega
 simp [go_sem];refine aa (ab ?_);simp [go_sem, w2, w3];have hrel : eS d j q = if q = j.first - 1 then (j, [], 0) else
  if (b9 d j.start (bk (sw j n) (q + 1))).2 ≠ 0 then (nd, [], (b9 d j.start (bk (sw j n) (q + 1))).2)
  else (⟨j.start, j.count, sw j n, j.tail, q + 1, j.sizes.drop n⟩, (b9 d j.start (bk (sw j n) (q + 1))).1, 0) := by
  rw [eS, if_neg (by simp [hc]), if_neg (by simp [h]), if_neg (by omega)];have : (q + 1 - j.first).toNat = n := by omega
  rw [this]; rfl
 refine aa (aa (ab ?_))
 by_cases c3 : n = 0
 · subst c3
   simp [go_sem];refine ab ?_;simp [go_sem];rw [hrel, if_pos (by omega)];exact lW (.agg (.cons (.refl _) (.cons (.refl _) (.cons (.refl _) (.cons (.refl _) (.cons (.refl _) (.cons (.sh _ _ _) .nil))))))) (.nil 3 (by decide)) rfl oH (by simp) (by simp)
 rw [if_neg (by omega)] at hrel;simp [go_sem, c3];refine ab ?_;simp [go_sem];have hjh : 0 <= j.head /\ j.head < j.count - 16 := by
  have := (dF j).1 ((bG j).1 h).2.1;omega
 refine am (α := Unit) (fun _ => ([(3, .ptr H.length 0), (6, .ptr (H.length + 2) 0), (10, .ptr (H.length + 3) 0), (12, .ptr (H.length + 4) 0), (13, ci n)], H ++ [some (cj d), some (fA j), some yn, some (iu j (ay j.sizes)), some [iv j.start, iv j.count, iv (sw j n), iv j.tail, iv j.first, .sl (.own V.length v) 1 (j.sizes.map ic)]], V ++ [v])) (fun _ => True) ?_ ?_
 · refine aa (ab ?_)
   simp [go_sem];refine ⟨by omega, ?_⟩;refine af ?_;refine al (α := Nat) (fun i => ([(3, .ptr H.length 0), (6, .ptr (H.length + 2) 0), (10, .ptr (H.length + 3) 0), (12, .ptr (H.length + 4) 0), (13, ci n), (59, .sl .sh 1 ((j.sizes.take n).map ic)), (60, ci n), (61, ci i)], H ++ [some (cj d), some (fA j), some yn, some (iu j (ay j.sizes)), some [iv j.start, iv j.count, iv (sw j i), iv j.tail, iv j.first, .sl (.own V.length v) 1 (j.sizes.map ic)]], V ++ [v])) (fun i => i <= n) (fun i => n - i) 0 (zero_le _) (ae ?_ ?_ rfl) ?_
   · simp [go_sem, map_take, Nat.min_eq_left hnl]
   · rw [show sw j 0 = j.head by rw [sw, take_zero]; show (j.head + 0) % _ = _; rw [Int.add_zero, Int.emod_eq_of_lt hjh.1 hjh.2]]
   intro i hi;dsimp only;refine aa (ab ?_);simp [go_sem];refine aa (ab ?_);simp [go_sem];refine ⟨fun h => ?_, fun h => ?_⟩
   case refine_2 =>
    obtain rfl : i = n := by omega
    exact ae (by simp [go_sem]) rfl rfl
   have hij : i < j.sizes.length := by omega
   have hsz := (kB _).1 (all_eq_true.1 ((bG j).1 ‹cE j = true›).2.2.1 _ (getElem_mem hij));have hL : 0 < j.count - 16 := by omega
   have hb1 := Int.emod_nonneg (j.head + ay (j.sizes.take i)) (show j.count - 16 ≠ 0 by omega);have hb2 := Int.emod_lt_of_pos (j.head + ay (j.sizes.take i)) hL;have hnx : (sw j i + j.sizes[i]) % (j.count - 16) = sw j (i + 1) := by
    rw [sw, sw, fC _ _ hij, Int.emod_add_emod, Int.add_assoc]
   have w4 : IntKind.i64.wrap (sw j i + j.sizes[i]) = sw j i + j.sizes[i] := IntWalk.i64_in _ ⟨by unfold sw; omega, by unfold sw; omega⟩;have t4 := Int.tmod_eq_emod_of_nonneg (b := j.count - 16) (show 0 <= sw j i + j.sizes[i] by unfold sw; omega);have hz : ¬ j.count - 16 = 0 := by omega
   have w5 : IntKind.i64.wrap ((i : Int) + 1) = (i : Int) + 1 := IntWalk.i64_in _ ⟨by omega, by omega⟩;refine aa (af (aa (ab ?_)));simp [go_sem, h, hij];refine ⟨by first | omega | (simp; omega), ?_⟩;refine az [] [9] (.s 0 .pl <| .s 1 .pl <| .s 2 .pl <| .s 3 .pl <| .s 4 .pl <| .s 5 .pl <| .s 6 .pl <| .s 7 .pl <| .s 8 .pl <| .s 9 .st <| .n) ?_;simp [go_sem, w4];refine ah (b6 _ _ _ _ hva) ?_;simp [go_sem, w4, t4, hz, hnx];refine ab ?_;simp [go_sem, w5];exact ⟨i + 1, by omega, by omega, ae (by simp [go_sem]) rfl rfl⟩
 rintro _ -;dsimp only;refine aa (az [] [9, 11] (.s 0 .pl <| .s 1 .pl <| .s 2 .pl <| .s 3 .pl <| .s 4 .pl <| .s 5 .pl <| .s 6 .pl <| .s 7 .pl <| .s 8 .pl <| .s 9 .st <| .s 10 .pl <| .s 11 .st <| .n) ?_);have w6 : IntKind.i64.wrap (j.first + (n : Int)) = q + 1 := by rw [IntWalk.i64_in _ ⟨by omega, by omega⟩]; omega
 simp [go_sem, w6];refine ⟨hnl, ?_⟩;refine aa (az [] [] (.s 0 .pl <| .s 1 .pl <| .s 2 .pl <| .s 3 .pl <| .s 4 .pl <| .s 5 .pl <| .s 6 .pl <| .s 7 .pl <| .s 8 .pl <| .s 9 .pl <| .s 10 .pl <| .s 11 .pl <| .s 12 .pl <| .s 13 .pl <| .s 14 .pl <| .s 15 .pl <| .n) ?_);simp [go_sem];refine ah (qb _ _ _ _) ?_;simp [go_sem];refine ah (AX _ _ d j.start .sh (bk (sw j n) (q + 1)) hd) ?_;generalize b9 d j.start (bk (sw j n) (q + 1)) = x at hrel ⊢;obtain ⟨A, e⟩ := x;dsimp only at hrel ⊢;simp [go_sem, IT];refine aa (aa (ab ?_))
 by_cases he : e = 0
 case neg =>
  have he' : ¬ (e : Int) = 0 := by omega
  simp [go_sem, he, he'];refine ab ?_;simp [go_sem];exact bad e (by rw [hrel, if_pos he]) (by simp) (by simp)
 subst he;rw [if_neg (by simp)] at hrel;simp [go_sem];refine ab ?_;simp [go_sem];refine aa (ab ?_);simp [go_sem];refine ab ?_;simp [go_sem];rw [hrel];refine lW (.agg (.cons (.refl _) (.cons (.refl _) (.cons (.refl _) (.cons (.refl _) (.cons (.refl _) (.cons ?_ .nil))))))) (.refl _) rfl oH (by simp) (by simp);rw [<- map_drop];exact .sh _ _ _
theorem wu : ∀ (ws : List Wr) (l : bX) (i : Nat), (t6 l ws i).2.2 = 0 -> ∀ w ∈ ws, aS (aB l) w = 0
 | [], l, i, h, w, hw => by cases hw
 | x :: ws, l, i, h, w, hw => by
  rw [t6] at h
  split at h
  · rename_i q; exact absurd h q
  · rename_i q
    have q' : aS (aB l) x = 0 := by simpa using q
    have hz : aB (j3 l x) = aB l := by
     have := t8 (k := l) (w := x) q';have e : ∀ x : bX, aB x = (x.map List.length).map (fun n : Nat => (n : Int)) := fun x => by rw [aB, map_map]; rfl
     rw [e, e, this]
    rcases mem_cons.1 hw with rfl | hw
    · exact q'
    · have := wu ws _ _ h w hw
      rwa [hz] at this
theorem wt {l : bX} {ws : List Wr} (h : (ij l ws).2.2 = 0) {w : Wr} (hw : w ∈ ws) : aS (aB l) w = 0 := by
 unfold ij at h
 split at h
 · rename_i q; exact absurd h q
 · exact wu ws l 0 h w hw
theorem G0 {s : List Int} (hs : aN s = 0) {w : Wr} (h : aS s w = 0) : ∃ n : Nat, w.volume = n /\ n < s.length /\ 0 <= w.start /\ w.start <= 4096 /\ w.data.length <= 4096 := by
 obtain ⟨s1, s2, s3⟩ := dj hs;unfold aS at h
 split at h
 · cases h
 · rename_i h1
   split at h
   · cases h
   · rename_i h2
     split at h
     · cases h
     · rename_i h3
       obtain ⟨n, hn⟩ := Int.eq_ofNat_of_zero_le (show 0 <= w.volume by omega);have hns : n < s.length := by omega
       rw [hn, Int.toNat_natCast, getD_eq_getElem?_getD, getElem?_eq_getElem hns, Option.getD_some] at h3;have := s3 _ (getElem_mem hns);exact ⟨n, hn, hns, by omega, by omega, by omega⟩
theorem wR (d : Dk) (a : Int) (p : List UInt8) : (b9 d a p).1.length <= 2 := by
 unfold b9
 repeat' split
 all_goals simp
theorem E4 (d : Dk) (j : bW) (q : Int) : (eS d j q).2.1.length <= 2 := by
 have := wR d j.start (bk ((j.head + ay (j.sizes.take (q + 1 - j.first).toNat)) % (j.count - 16)) (q + 1));unfold eS;dsimp only
 repeat' split
 all_goals first | exact zero_le _ | exact this
def zG (x : cF × List bO × Nat) : CV := .tup [.agg (bK x.1), gp x.2.1, er x.2.2]
theorem jP (i j : Nat) (x : cF × List bO × Nat) : aK i j (zG x) := by
 rw [zG]; simp [go_sem, okL, aK, okL_stoC, eF]
def IU (s : cF) (i : Nat) : List (List CV) := ((s.pend.take i).map (gZ s)).map fN
theorem J5 (s : cF) (i : Nat) (h : i <= s.pend.length) : (IU s i).length = i := by rw [IU, length_map, length_map, length_take]; omega
@[go_sem] theorem agE (s : cF) : IU s 0 = [] := rfl
theorem XB {s : cF} {i : Nat} (h : i < s.pend.length) : IU s (i + 1) = IU s i ++ [fN (gZ s s.pend[i])] := by
 rw [IU, take_succ_eq_append_getElem h, map_append, map_append]; rfl
@[go_sem] theorem KA (i j : Nat) (s : cF) (k : Nat) : fO i j (IU s k) = True := by rw [IU, eF]
theorem rO (H : Hp) (V : List Nat) (d : Dk) (s : cF) (hd : rL d) (hs : StS s) : CC Tryz.prog 11 [.agg (cj d), .agg (bK s)] H V (Pu (zG (fF d s)) H V) := by
 refine aj Tryz.func11 rfl fun hok oH => ?_;clear hok;have bad : ∀ (e : Nat) (H' : Hp) (V' : List Nat), fF d s = (fz, [], e) -> H'.take H.length = H -> V'.take V.length = V -> ao H.length V.length (Pu (zG (fF d s)) H V) (.tup [.agg kj, .v (.slice none 0 0), er e]) H' V' := fun e H' V' h1 h2 h3 => by
  rw [h1];exact ao.pu (.tup (.cons (.agg oU) (.cons (.nil 3 (by decide)) (.cons (.refl _) .nil)))) (jP _ _ _) oH h2 h3
 refine aa (ab ?_);simp [go_sem, ai];refine aa (aa (ab ?_));simp [go_sem];refine ah (eO _ _ d hd) ?_;simp [go_sem];refine aa (ab ?_)
 by_cases hc : aH d = 0
 case neg =>
  simp [go_sem, hc];refine ab ?_;simp [go_sem];exact bad _ _ _ (by rw [fF, if_pos hc]) (by simp) (by simp)
 simp [go_sem, hc];refine ab ?_;simp [go_sem];refine aa (aa (ab ?_));simp [go_sem];refine ah (rP _ _ s hs) ?_;simp [go_sem];refine aa (ab ?_)
 by_cases h0 : j1 s = 0
 case neg =>
  simp [go_sem, h0];refine ab ?_;simp [go_sem];exact bad _ _ _ (by rw [fF, if_neg (by simp [hc]), if_pos h0]) (by simp) (by simp)
 have hok := zR h0;have hz := ew.of hok.sz;have hsm := hz.sum';have hl8 := (dj hok.sz).2.1;have hJ := hok.A.j;have hva := kM hJ;have hv := (aM _ _).1 hva;have hA := hok.A.a;have hB := hok.A.b;have hd1 : s.data = s.jr.count := Classical.byContradiction fun e => hA (.inr (.inl e));have hn := fI hJ;simp [go_sem, h0];refine ab ?_;simp [go_sem];refine aa (aa (az [] [] (.s 0 .pl <| .s 1 .pl <| .s 2 .pl <| .s 3 .pl <| .s 4 .pl <| .s 5 .pl <| .s 6 .pl <| .s 7 .pl <| .s 8 .pl <| .n) ?_));simp [go_sem, bK];refine ah (uV _ _ s s.sizes.length hz (le_refl _) (by omega) (by omega)) ?_;rw [take_length];have e1 : fF d s = if (d.stable.length : Int) < s.data + ay s.sizes then (fz, [], 2)
  else if s.pend.length = 0 then (s, [], 0)
  else if (eS d s.jr (ax s.jr - 1)).2.2 ≠ 0 then (fz, [], (eS d s.jr (ax s.jr - 1)).2.2)
  else (⟨s.sizes, (eS d s.jr (ax s.jr - 1)).1, s.data, ax s.jr - 1, [], s.img⟩, s.pend.map (gZ s) ++ cO :: (eS d s.jr (ax s.jr - 1)).2.1, 0) := by
  rw [fF, if_neg (by simp [hc]), if_neg (by simp [h0])]
 by_cases h1 : (d.stable.length : Int) < s.data + ay s.sizes
 · simp [go_sem, h1]
   refine ab ?_;simp [go_sem];exact bad _ _ _ (by rw [e1, if_pos h1]) (by simp) (by simp)
 rw [if_neg h1] at e1;simp [go_sem, h1];refine ab ?_;simp [go_sem];refine aa (ab ?_);simp [go_sem, bK];refine CC.mono (yx _ _ s hs) ?_;rintro _ _ V1 ⟨k, v, rfl, rfl, hV1, hV2, hV3⟩;have hkV : k < V1.length := (List.getElem?_eq_some_iff.1 hV2).1;have hV1l : V.length <= V1.length := by omega
 have hpl := hs.pl;simp [go_sem, rt];refine aa (aa (ab ?_))
 by_cases h2 : s.pend.length = 0
 · simp [go_sem, h2]
   refine ab ?_;simp [go_sem];rw [e1, if_pos h2];refine ao.pu (.tup (.cons (.agg ?_) (.cons (.nil 3 (by decide)) (.cons (.refl _) .nil)))) (jP _ _ _) oH (by simp) hV1;exact .cons (.refl _) (.cons (.refl _) (.cons (.refl _) (.cons (.refl _) (.cons (.refl _) (.cons (.refl _) (.cons (.refl _) (.cons (.refl _) (.cons (.refl _) (.cons (.sh _ _ _) (.cons (.refl _) .nil))))))))))
 rw [if_neg h2] at e1;have w1 : IntKind.i64.wrap (ax s.jr - 1) = ax s.jr - 1 := IntWalk.i64_in _ ⟨by unfold ax; omega, by unfold ax; omega⟩;simp [go_sem, h2];refine ab ?_;simp [go_sem];refine aa (ab ?_);simp [go_sem, bK];refine ah (rh _ _ s.jr hs.jl) ?_;rw [xn hJ];simp [go_sem, w1];refine aa (ab ?_);simp [go_sem, bK];refine ah (ye _ _ d s.jr (ax s.jr - 1) hd hs.jl) ?_;generalize hrl : eS d s.jr (ax s.jr - 1) = x at e1 ⊢;obtain ⟨j, A, e⟩ := x;dsimp only at e1 ⊢;have hAl : A.length <= 2 := by have := E4 d s.jr (ax s.jr - 1); rw [hrl] at this; exact this
 simp [go_sem, IV];refine aa (aa (ab ?_))
 by_cases he : e = 0
 case neg =>
  have he' : ¬ (e : Int) = 0 := by omega
  simp [go_sem, he, he'];refine ab ?_;simp [go_sem];exact bad _ _ _ (by rw [e1, if_pos he]) (by simp) (by simp [hV1])
 subst he;rw [if_neg (by simp)] at e1;simp [go_sem];refine ab ?_;simp [go_sem];refine aa (ab ?_);simp [go_sem];refine am (α := Unit) (fun _ => ([(3, .ptr (H.length + 1) 0), (4, .ptr (H.length + 2) 0), (9, .ptr (H.length + 3) 0), (10, ci (ax s.jr - 1)), (11, .ptr (H.length + 4) 0), (12, gp A), (14, .sl (.own V1.length s.pend.length) 3 ((s.pend.map (gZ s)).map fN))], H ++ [some (cj d), some (bK s), some kj, some (rt s (.sl (.own k v) 3 (s.pend.map bq))), some (fA j)], V1 ++ [s.pend.length])) (fun _ => True) ?_ ?_
 · refine aa (ab ?_)
   simp [go_sem];refine af ?_;refine al (α := Nat) (fun i => ([(3, .ptr (H.length + 1) 0), (4, .ptr (H.length + 2) 0), (9, .ptr (H.length + 3) 0), (10, ci (ax s.jr - 1)), (11, .ptr (H.length + 4) 0), (12, gp A), (14, .sl (.own V1.length i) 3 (IU s i)), (64, .sl (.own k v) 3 (s.pend.map bq)), (65, ci s.pend.length), (66, ci i)], H ++ [some (cj d), some (bK s), some kj, some (rt s (.sl (.own k v) 3 (s.pend.map bq))), some (fA j)], V1 ++ [i])) (fun i => i <= s.pend.length) (fun i => s.pend.length - i) 0 (zero_le _) (Sh.tokT (by simp [go_sem]) rfl rfl) ?_;intro i hi;dsimp only;refine aa (ab ?_);simp [go_sem];refine aa (ab ?_);simp [go_sem];refine ⟨fun h => ?_, fun h => ?_⟩
   case refine_2 =>
    obtain rfl : i = s.pend.length := by omega
    exact ae (by simp [go_sem, IU]) rfl rfl
   have hf := wt hok.e1 (getElem_mem h);rw [cI hok.sz] at hf;obtain ⟨n, f1, f2, f3, f4, f5⟩ := G0 hok.sz hf;have hsu := hz.sum n;have w2 : IntKind.i64.wrap (s.data + ay (s.sizes.take n) + s.pend[i].start) = s.data + ay (s.sizes.take n) + s.pend[i].start := IntWalk.i64_in _ ⟨by omega, by omega⟩;have w5 : IntKind.i64.wrap ((i : Int) + 1) = (i : Int) + 1 := IntWalk.i64_in _ ⟨by omega, by omega⟩;refine aa (af (aa (ab ?_)));simp [go_sem, h];refine az [] [] (.s 0 .pl <| .s 1 .pl <| .s 2 .pl <| .s 3 .pl <| .s 5 .pl <| .s 6 .pl <| .s 8 .pl <| .s 9 .pl <| .s 4 .pl <| .s 7 .pl <| .s 10 .pl <| .s 11 .pl <| .s 12 .pl <| .s 13 .pl <| .n) ?_;simp [go_sem, f1];refine ah (uV _ _ s n hz (by omega) (by omega) (by omega)) ?_;simp [go_sem, w2, J5 s i hi];refine ⟨by omega, ?_⟩;refine ab ?_;simp [go_sem, w5];have hop : fN (gZ s s.pend[i]) = [ci 0, ci (s.data + ay (s.sizes.take n) + s.pend[i].start), aF s.pend[i].data] := by rw [gZ, f1]; rfl
   have hkk : k < V1.length + 1 := by omega
   refine ⟨i + 1, by omega, by omega, Sh.trim (L := [some (cj d), some (bK s), some kj, some (rt s (.sl (.own k v) 3 (s.pend.map bq))), some (fA j)]) ?_ ?_ oH ?_ (by simp; omega) (by simp) (by simp)⟩
   · simp [go_sem, XB h, hop]
   · simp [go_sem, cQ, eF, KA, hkk]
   · simp [go_sem, rt, kj, okL, aK, gr, aR, cQ, gH, okL_stoC, okL_jrC, hkk]
 rintro _ -;dsimp only;refine aa (ab ?_);simp [go_sem, rt];refine aa (az [] [7] (.s 0 .pl <| .s 1 .pl <| .s 4 .pl <| .s 2 .pl <| .s 3 .pl <| .s 5 .pl <| .s 6 .pl <| .s 7 .st <| .s 8 .pl <| .s 9 .pl <| .n) ?_);simp [go_sem];refine ah (un _ _) ?_;simp [go_sem];refine CC.le (ys := [.sl .sh 3 ((s.pend.map (gZ s)).map fN), .sl .sh 1 ([[cO], A].map FE)]) (.cons (by rw [map_map]; exact .sh _ _ _) (.cons (.sle _ _ (.cons (.cons (.sh _ _ _) .nil) (.cons (.cons (.refl _) .nil) .nil))) .nil)) ?_;refine ah (lu _ _ .sh (s.pend.map (gZ s)) [[cO], A] (by simp) (by simp [mY]; omega)) ?_;simp [go_sem];refine ⟨rfl, ?_⟩;refine ab ?_;simp [go_sem];rw [e1];have hcat : mY [List.map (gZ s) s.pend, [cO], A] = s.pend.map (gZ s) ++ cO :: A := by simp [mY]
 rw [hcat];refine ao.pu (.tup (.cons (.agg ?_) (.cons (.refl _) (.cons (.refl _) .nil)))) (jP _ _ _) oH (by simp) (by simp [take_append_of_le_length hV1l, hV1]);show jD [.sl .sh 1 (s.sizes.map ic), .v (.int .i64 j.start), .v (.int .i64 j.count), .v (.int .i64 j.head), .v (.int .i64 j.tail), .v (.int .i64 j.first), .sl .sh 1 (j.sizes.map ic), .v (.int .i64 s.data), .v (.int .i64 (ax s.jr - 1)), .v (.slice none 0 0), .sl .sh 1 (s.img.map eB)] _;exact .cons (.refl _) (.cons (.refl _) (.cons (.refl _) (.cons (.refl _) (.cons (.refl _) (.cons (.refl _) (.cons (.refl _) (.cons (.refl _) (.cons (.refl _) (.cons (.nil 3 (by decide)) (.cons (.refl _) .nil))))))))))
theorem uw {l : List Int} {n : Int} (h : (cd l n).2 = 0) : aN l = 0 /\ 20 <= n /\ n <= 4096 - ay l /\ cd l n = (n + ay l, 0) := by
 unfold cd at h ⊢
 split at h
 · rename_i q; exact absurd h q
 · rename_i q
   split at h
   · cases h
   · rename_i q2
     rw [if_neg q, if_neg q2];exact ⟨by simpa using q, by omega, by omega, rfl⟩
theorem wM (H : Hp) (V : List Nat) (l : List Int) (n : Int) (hl : l.length <= 9223372036854775807) : CC Tryz.prog 20 [.sl .sh 1 (l.map ic), ci n] H V (Pu (zG (gw l n)) H V) := by
 refine aj Tryz.func20 rfl fun hok oH => ?_;clear hok;have bad : ∀ (e : Nat) (H' : Hp) (V' : List Nat), gw l n = (fz, [], e) -> H'.take H.length = H -> V'.take V.length = V -> ao H.length V.length (Pu (zG (gw l n)) H V) (.tup [.agg kj, .v (.slice none 0 0), er e]) H' V' := fun e H' V' h1 h2 h3 => by
  rw [h1];exact ao.pu (.tup (.cons (.agg oU) (.cons (.nil 3 (by decide)) (.cons (.refl _) .nil)))) (jP _ _ _) oH h2 h3
 refine aa (ab ?_);simp [go_sem, ai];refine aa (aa (ab ?_));simp [go_sem];refine ah (pz _ _ .sh l n hl) ?_;simp [go_sem];refine aa (ab ?_)
 by_cases h0 : (cd l n).2 = 0
 case neg =>
  have h0' : ¬ (((cd l n).2 : Nat) : Int) = 0 := by omega
  simp [go_sem, h0, h0'];refine ab ?_;simp [go_sem];exact bad _ _ _ (by rw [gw, if_pos h0]) (by simp) (by simp)
 obtain ⟨hE, hn1, hn2, hsv⟩ := uw h0;have hz := ew.of hE;have hsm := hz.sum';have hl8 := (dj hE).2.1;have hva : bf 0 n = true := (aM _ _).2 ⟨by omega, by omega, by omega, by omega⟩;simp [go_sem, h0];refine ab ?_;simp [go_sem];refine aa (ab ?_);simp [go_sem];refine ah (md _ _ .sh l hl) ?_;simp [go_sem, hE];refine aa (aa (ab ?_));simp [go_sem];refine ab ?_;simp [go_sem];refine aa (ab ?_);simp [go_sem];refine ah (DJ _ _ 0 n) ?_;have hfj := lV hva;have hfm : gw l n = (⟨l, (b8 0 n).1, n, 0, [], bo l⟩, dG n (List.replicate (ay l).toNat aP) :: cO :: (b8 0 n).2.1, 0) := by rw [gw, if_neg (by simp [h0])]
 have hfe : (b8 0 n).2.2 = 0 := by rw [hfj]
 have hfl : (b8 0 n).2.1.length = 6 := by rw [hfj]; rfl
 generalize b8 0 n = x at hfm hfe hfl ⊢;obtain ⟨j, A, e⟩ := x;dsimp only at hfm hfe hfl ⊢;subst hfe;simp [go_sem, IV];refine aa (aa (ab ?_));simp [go_sem];refine ab ?_;simp [go_sem];refine aa (ab ?_);simp [go_sem];refine ah (mf _ _ .sh l hz) ?_;simp [go_sem, -List.reduceReplicate];refine ⟨by omega, by omega, ?_⟩;have hz2 := eG (ay l).toNat;simp only [map_cons, map_nil] at hz2;rw [hz2];refine aa (az [H.length + 1, H.length + 3] [11, 12] (.s 0 .pl <| .s 2 .ld <| .s 3 .pl <| .s 4 .pl <| .s 6 .ld <| .s 9 .pl <| .s 10 .pl <| .s 1 .pl <| .s 5 .pl <| .s 7 .pl <| .s 8 .pl <| .s 11 .st <| .s 12 .st <| .s 13 .pl <| .s 14 .pl <| .n) ?_);simp [go_sem];refine ah (cu _ _ .sh l (by omega)) ?_;simp [go_sem];refine ah (un _ _) ?_;simp [go_sem];obtain ⟨Z, hZ⟩ : ∃ Z, Z = List.replicate (ay l).toNat aP := ⟨_, rfl⟩
 refine CC.let_go (ys := [.sl .sh 3 ([dG n (List.replicate (ay l).toNat aP), cO].map fN), .sl .ti 1 ([A].map FE)]) (H.length + 2) (aQ (List.replicate (ay l).toNat aP)) (aC _ _ 2) (.cons (.sl _ _ (.cons (.cons (.refl _) (.cons (.refl _) (.cons (Fy.zeros _ _) .nil))) (.cons (ki.rfl' _ _ _) .nil))) (.cons (.refl _) .nil)) ?_;refine ah (lu _ _ .ti [dG n (List.replicate (ay l).toNat aP), cO] [A] (by simp) (by simp [mY]; omega)) ?_;simp [go_sem];have hkp : ∀ (a b c c' d a' : Option (List CV)), Kp [H.length + 1, H.length + 3] (H ++ [a, b, c, d]) (H ++ [a', b, c', d]) := fun a b c c' d a' => Kp.keep fun x hx => by
  rcases mem_cons.1 hx with rfl | hx
  · rw [aC, aC]; rfl
  · obtain rfl : x = H.length + 3 := by simpa using hx
    rw [aC, aC]; rfl
 refine ⟨hkp _ _ _ _ _ _, rfl, hkp _ _ _ _ _ _, ?_⟩;refine ab ?_;simp [go_sem];have hcat : mY [[dG n (List.replicate (ay l).toNat aP), cO], A] = dG n (List.replicate (ay l).toNat aP) :: cO :: A := by simp [mY]
 rw [hcat, hfm];refine ao.pu (.tup (.cons (.agg ?_) (.cons (.refl _) (.cons (.refl _) .nil)))) (jP _ _ _) oH (by simp) (by simp);show jD [.sl .sh 1 (l.map ic), .v (.int .i64 j.start), .v (.int .i64 j.count), .v (.int .i64 j.head), .v (.int .i64 j.tail), .v (.int .i64 j.first), .sl .sh 1 (j.sizes.map ic), .v (.int .i64 n), .v (.int .i64 0), .v (.slice none 0 0), .sl .sh 1 ((bo l).map eB)] _;exact .cons (.refl _) (.cons (.refl _) (.cons (.refl _) (.cons (.refl _) (.cons (.refl _) (.cons (.refl _) (.cons (.refl _) (.cons (.refl _) (.cons (.refl _) (.cons (.nil 3 (by decide)) (.cons (.refl _) .nil))))))))))
section
open Go.Proofs
end
section
open Go.Proofs
end
section
open Go.Proofs
end
section
open Go.Proofs
end
section
open Go.Proofs
end
section
open Go.Proofs
end
theorem F8 {a b : bX} (h : aB a = aB b) (i : Nat) (h1 : i < a.length) (h2 : i < b.length) : a[i].length = b[i].length := by
 have := congrArg (fun l : List Int => l[i]?) h;simp only [aB, getElem?_map, getElem?_eq_getElem h1, getElem?_eq_getElem h2, Option.map_some] at this;exact Int.ofNat.inj (Option.some.inj this)
section
open Go.Proofs
end
section
open Go.Proofs
end
section
open Go.Proofs
end
section
open Go.Proofs
end
section
open Go.Proofs
end
section
open Go.Proofs
end
section
open Go.Proofs
end
section
open Go.Proofs
end
section
open Go.Proofs
end
section
open Go.Proofs
end
section
open Go.Proofs
end
section
open Go.Proofs
end
def fM (l : bX) (ws : List Wr) : bX := ws.foldl j3 l
theorem zV (l : bX) : fM l [] = l := rfl
theorem qZ (l : bX) (ws : List Wr) (w : Wr) : fM l (ws ++ [w]) = j3 (fM l ws) w := by rw [fM, foldl_append]; rfl
theorem vm (x : bX) : aB x = (x.map List.length).map (fun n : Nat => (n : Int)) := by rw [aB, map_map]; rfl
theorem cC {l : bX} {w : Wr} (h : aS (aB l) w = 0) : aB (j3 l w) = aB l := by rw [vm, t8 h, <- vm]
theorem t7 : ∀ (ws : List Wr) (l : bX), (∀ w ∈ ws, aS (aB l) w = 0) -> aB (fM l ws) = aB l
 | [], l, _ => rfl
 | w :: ws, l, h => by
  have h0 := h w (by simp);show aB (fM (j3 l w) ws) = _;rw [t7 ws _ (fun x hx => by rw [cC h0]; exact h x (by simp [hx])), cC h0]
theorem OX : ∀ (ws : List Wr) (l : bX) (i : Nat), (∀ w ∈ ws, aS (aB l) w = 0) -> t6 l ws i = (fM l ws, 0, 0)
 | [], l, i, _ => rfl
 | w :: ws, l, i, h => by
  have h0 := h w (by simp);rw [t6, if_neg (by simp [h0]), OX ws _ _ (fun x hx => by rw [cC h0]; exact h x (by simp [hx]))];rfl
theorem sS {l : bX} {ws : List Wr} (hs : aN (aB l) = 0) (h : ∀ w ∈ ws, aS (aB l) w = 0) : ij l ws = (fM l ws, 0, 0) := by
 rw [ij, if_neg (by simp [hs]), OX _ _ _ h]
def ri (l : bX) (v p : Nat) : Option au := (l[v]?).bind (fun x => x[p]?)
def DP (w : Wr) (v p : Nat) : Prop := w.volume = (v : Int) /\ w.start <= (p : Int) /\ (p : Int) < w.start + w.data.length
instance (w : Wr) (v p : Nat) : Decidable (DP w v p) := by unfold DP; infer_instance
theorem E6 {u : List au} {q : Nat} {d : List au} (h : q + d.length <= u.length) (p : Nat) : (uU u q d)[p]? = if q <= p /\ p < q + d.length then d[p - q]? else u[p]? := by
 rw [uU, getElem?_append, getElem?_append];simp only [length_append, length_take, getElem?_take, getElem?_drop]
 by_cases h1 : p < q
 · rw [if_pos (by omega), if_pos (by omega), if_pos h1, if_neg (by omega)]
 · by_cases h2 : p < q + d.length
   · rw [if_pos (by omega), if_neg (by omega), if_pos (by omega)]
     congr 1; omega
   · rw [if_neg (by omega), if_neg (by omega)]
     congr 1; omega
theorem iw {l : bX} {w : Wr} (h : aS (aB l) w = 0) (v p : Nat) : ri (j3 l w) v p = if DP w v p then w.data[p - w.start.toNat]? else ri l v p := by
 obtain ⟨n, hvn, hnk, hd0, q, hpn, hpl⟩ := pg h;have e : j3 l w = l.set n (uU l[n] q w.data) := by
  rw [j3, hvn, hpn, Int.toNat_natCast, Int.toNat_natCast, getD_eq_getElem?_getD, getElem?_eq_getElem hnk, Option.getD_some]
 rw [e, ri, ri, getElem?_set]
 by_cases e1 : n = v
 · subst e1
   rw [if_pos rfl, if_pos hnk, Option.bind_some, E6 hpl, getElem?_eq_getElem hnk, Option.bind_some]
   by_cases e2 : q <= p /\ p < q + w.data.length
   · rw [if_pos e2, if_pos ⟨hvn, by omega, by omega⟩, hpn, Int.toNat_natCast]
   · rw [if_neg e2, if_neg (by rintro ⟨-, q1, q2⟩; exact e2 ⟨by omega, by omega⟩)]
 · rw [if_neg e1, if_neg (by rintro ⟨q1, -, -⟩; omega)]
theorem mI {a b : bX} (hs : aB a = aB b) (h : ∀ v p, ri a v p = ri b v p) : a = b := by
 have hl : a.length = b.length := by have := congrArg List.length hs; rwa [gP, gP] at this
 refine ext_getElem hl fun v h1 h2 => ?_;have hv := F8 hs v h1 h2;refine ext_getElem hv fun p g1 g2 => ?_;have := h v p;rw [ri, ri, getElem?_eq_getElem h1, getElem?_eq_getElem h2, Option.bind_some, Option.bind_some, getElem?_eq_getElem g1, getElem?_eq_getElem g2] at this;exact Option.some.inj this
theorem oX : ∀ (ws : List Wr) (l k : bX) (v p : Nat), aB l = aB k -> (∀ w ∈ ws, aS (aB l) w = 0) -> ri l v p = ri k v p -> ri (fM l ws) v p = ri (fM k ws) v p
 | [], l, k, v, p, _, _, h => h
 | w :: ws, l, k, v, p, hs, hf, h => by
  have h0 := hf w (by simp);have h0' : aS (aB k) w = 0 := by rw [<- hs]; exact h0
  show ri (fM (j3 l w) ws) v p = ri (fM (j3 k w) ws) v p;refine oX ws _ _ v p (by rw [cC h0, cC h0', hs]) (fun x hx => by rw [cC h0]; exact hf x (by simp [hx])) ?_;rw [iw h0, iw h0', h]
theorem DE {l : bX} {ws : List Wr} {w : Wr} (hf : ∀ x ∈ ws, aS (aB l) x = 0) (hw : aS (aB l) w = 0) (h : fM l ws = l) : fM (j3 l w) (ws ++ [w]) = j3 l w := by
 have hz := cC hw;have hf' : ∀ x ∈ ws, aS (aB (j3 l w)) x = 0 := fun x hx => by rw [hz]; exact hf x hx
 have hz2 := t7 ws _ hf';have hw2 : aS (aB (fM (j3 l w) ws)) w = 0 := by rw [hz2, hz]; exact hw
 rw [qZ];refine mI (by rw [cC hw2, hz2]) fun v p => ?_;rw [iw hw2, iw hw]
 by_cases c : DP w v p
 · rw [if_pos c, if_pos c]
 · rw [if_neg c, if_neg c, oX ws (j3 l w) l v p hz hf' (by rw [iw hw, if_neg c]), h]
theorem pF {s : cF} (h : ud s) : j1 s = 0 := by
 rw [j1, if_neg (by simp [h.sz]), if_neg (by simp [h.A.j]), if_neg h.A.a, if_neg h.A.b, if_neg (by simp [h.e1]), if_neg (by simp [h.im]), if_neg (by simp [h.e2, h.e3])]
theorem kU {s : cF} (h : ud s) : ∀ w ∈ s.pend, aS s.sizes w = 0 := fun w hw => by
 have := wt h.e1 hw
 rwa [cI h.sz] at this
theorem EK {s : cF} (h : ud s) : fM s.img s.pend = s.img := by
 have := h.e3;rw [sS (by rw [h.im]; exact h.sz) (by rw [h.im]; exact kU h)] at this;exact this
theorem s8 {s : cF} (hz : aN s.sizes = 0) (hA : R0 s) (hf : ∀ w ∈ s.pend, aS s.sizes w = 0) (hi : aB s.img = s.sizes) (ha : fM s.img s.pend = s.img) : ud s := by
 have e1 : ij (bo s.sizes) s.pend = (fM (bo s.sizes) s.pend, 0, 0) := sS (by rw [cI hz]; exact hz) (by rw [cI hz]; exact hf);have e2 : ij s.img s.pend = (fM s.img s.pend, 0, 0) := sS (by rw [hi]; exact hz) (by rw [hi]; exact hf);exact ⟨hz, hA, by rw [e1], hi, by rw [e2], by rw [e2]; exact ha⟩
theorem NZ (s : au) : gn s = ((sb s 3 * 256 + sb s 2) * 256 + sb s 1) * 256 + sb s 0 := by
 simp [gn, gi]
theorem mK {n : Nat} {p : List UInt8} (hn : n < 4294967296) (hp : p.length <= 31) {i : Nat} (hi : i < 8) : gn (fV n p i) = n := by
 have h : ∀ j, j < 4 -> sb (fV n p i) j = n / 256 ^ j % 256 := fun j hj => by
  rw [sb, np n hp hi];rcases j with _ | _ | _ | _ | j
  · simp [iR]
  · simp [iR]
  · simp [iR]
  · simp [iR]
  · omega
 rw [NZ, h 3 (by omega), h 2 (by omega), h 1 (by omega), h 0 (by omega)];omega
theorem eP (n : Nat) (p : List UInt8) (j : Nat) (h : j < 8) : (bN n p)[j]? = some (fV n p j) := by
 rw [bN, getElem?_map, List.getElem?_range h]; rfl
theorem qc (D : List UInt8) : ∀ k, (List.range k).flatMap (fun i => (D.drop (4 * i)).take 4) = D.take (4 * k)
 | 0 => rfl
 | k + 1 => by
  rw [range_succ, flatMap_append, qc D k, Nat.mul_succ, List.take_add];simp
theorem qM {n : Nat} {p : List UInt8} (hp : p.length <= 31) : bb (bN n p) = cX p := by
 have h : bb (bN n p) = (List.range 8).flatMap (fun i => ((cX p).drop (4 * i)).take 4) := by
  rw [bb, bN, List.flatMap_map, List.flatMap_def, List.flatMap_def]
  congr 1
  refine map_congr_left fun i hi => ?_;rw [mem_range] at hi;rw [np n hp hi, drop_append_of_le_length (by rw [de]; exact le_refl _), drop_of_length_le (by rw [de]; exact le_refl _), nil_append];rfl
 rw [h, qc, take_of_length_le (by rw [lZ hp]; decide)]
theorem vL {p : List UInt8} (hp : p.length <= 31) : ((cX p).getD 0 0).toNat = p.length := by
 simp [cX]; omega
theorem BP {p : List UInt8} (hp : p.length <= 31) : lO (cX p) = true := by
 rw [lO, vL hp];simp only [Bool.and_eq_true, decide_eq_true_eq];refine ⟨hp, ?_⟩;rw [cX, cons_append, drop_succ_cons, drop_append_of_le_length (le_refl _), List.drop_length, nil_append];simp
theorem zx {n : Nat} {p : List UInt8} (hn : n < 4294967296) (hp : p.length <= 31) : g0 (bN n p) = n := by
 rw [g0, getD_eq_getElem?_getD, eP n p 0 (by decide)];exact mK hn hp (by decide)
theorem qf {n : Nat} {p : List UInt8} (hn : n < 4294967296) (hp : p.length <= 31) : bg (bN n p) = (n, p) := by
 have hv : j7 (bN n p) = true := by
  rw [j7, zx hn hp, qM hp, BP hp, Bool.and_true, all_eq_true];intro s hs;obtain ⟨i, hi, rfl⟩ := mem_map.1 hs;rw [mem_range] at hi;simp [mK hn hp hi]
 rw [bg, if_pos hv, zx hn hp, pay, qM hp, vL hp, cX, cons_append, drop_succ_cons, drop_zero, take_append_of_le_length (le_refl _), take_length]
theorem uS (a : Nat) (l s : List au) : ∀ i, i <= l.length -> a + l.length <= s.length -> ∀ j, ((gm a (l.take i)).foldl wW s)[j]? = if a <= j /\ j < a + i then l[j - a]? else s[j]?
 | 0, _, _, j => by
  rw [if_neg (by omega)]; rfl
 | i + 1, h1, h2, j => by
  have ih := uS a l s i (by omega) h2 j;rw [nw _ _ _ (by omega), foldl_append, foldl_cons, List.foldl_nil, wW];have hp : ((a : Int) + (i : Int)).toNat = a + i := by omega
  dsimp only;rw [hp, getElem?_set]
  by_cases e : a + i = j
  · subst e
    rw [if_pos rfl, if_pos (by rw [d5]; omega), if_pos (by omega), Nat.add_sub_cancel_left, getElem?_eq_getElem (by omega)]
  · rw [if_neg e, ih]
    by_cases h : a <= j /\ j < a + i
    · rw [if_pos h, if_pos (by omega)]
    · rw [if_neg h, if_neg (by omega)]
def nA (s : List au) (a : Nat) (l : List au) : List au := (gm a l).foldl wW s
theorem fY (s : List au) (a : Nat) (l : List au) : (nA s a l).length = s.length := d5 _ _
theorem fZ {s : List au} {a : Nat} {l : List au} (h : a + l.length <= s.length) (j : Nat) : (nA s a l)[j]? = if a <= j /\ j < a + l.length then l[j - a]? else s[j]? := by
 have := uS a l s l.length (le_refl _) h j
 rwa [take_length] at this
theorem su {s : List au} {c : List dH} {a : Nat} {l : List au} (h : a + l.length <= s.length) : bn ⟨s, c⟩ a l.length = true := by
 simp only [bn, Bool.and_eq_true, decide_eq_true_eq]; omega
theorem EY {s : List au} {c : List dH} (r : List bO) (i : Nat) : db ⟨s, c⟩ (cO :: r) i = db ⟨aU ⟨s, c⟩, []⟩ r (i + 1) := by
 rw [db, fT, if_neg (by simp [cO]), if_neg (by simp [cO])]
theorem dg {s : List au} (h : s.length <= 4096) : aH ⟨s, []⟩ = 0 := by
 rw [l9]; exact ⟨h, fun c hc => by cases hc⟩
structure Mx (s s' : List au) (a : Nat) (l : List au) : Prop where
 len : s'.length = s.length
 get : ∀ j : Nat, s'[j]? = s[j]? \/ (a <= j /\ j < a + l.length /\ s'[j]? = l[j - a]?)
theorem pr {l : List au} (h : j7 l = true) : ∀ s ∈ l, gn s = g0 l := fun s hs => by
 rw [j7, Bool.and_eq_true, all_eq_true] at h
 simpa using h.1 s hs
theorem BJ {l : List au} {s t : au} (hs : s ∈ l) (ht : t ∈ l) (h : gn s ≠ gn t) : (bg l).1 = 0 := by
 by_cases hv : j7 l = true
 · exact absurd ((pr hv s hs).trans (pr hv t ht).symm) h
 · rw [bg, if_neg hv]
theorem uX {l : List au} (h : 1 <= (bg l).1) : ∀ s ∈ l, gn s = (bg l).1 := fun s hs => by
 by_cases hv : j7 l = true
 · rw [bg, if_pos hv]; exact pr hv s hs
 · rw [bg, if_neg hv] at h; cases h
theorem YN {h h' : List au} {n : Nat} {p : List UInt8} (hn : n < 4294967296) (hp : p.length <= 31) (l1 : h.length = 8) (l2 : h'.length = 8) (hg : ∀ s ∈ h, gn s < n) (hx : ∀ j, j < 8 -> h'[j]? = h[j]? \/ h'[j]? = some (fV n p j)) :
 bg h' = (n, p) \/ bg h' = bg h \/ (bg h').1 = 0 := by
 by_cases a : ∀ j, j < 8 -> h'[j]? = h[j]?
 · right; left
   congr 1
   refine ext_getElem? fun j => ?_;rcases Nat.lt_or_ge j 8 with hj | hj
   · exact a j hj
   · rw [getElem?_eq_none (by omega), getElem?_eq_none (by omega)]
 by_cases b : ∀ j, j < 8 -> h'[j]? = some (fV n p j)
 · left
   have : h' = bN n p := by
    refine ext_getElem? fun j => ?_;rcases Nat.lt_or_ge j 8 with hj | hj
    · rw [b j hj, eP n p j hj]
    · rw [getElem?_eq_none (by omega), getElem?_eq_none (by rw [cD]; exact hj)]
   rw [this, qf hn hp]
 · right; right
   obtain ⟨i, hi⟩ := Classical.not_forall.1 a;obtain ⟨hi8, hi⟩ := Classical.not_imp.1 hi;obtain ⟨j, hj⟩ := Classical.not_forall.1 b;obtain ⟨hj8, hj⟩ := Classical.not_imp.1 hj;have e1 : h'[i]? = some (fV n p i) := (hx i hi8).resolve_left hi;have e2 : h'[j]? = h[j]? := (hx j hj8).resolve_right hj;rw [getElem?_eq_getElem (by omega : j < h.length)] at e2;refine BJ (mem_of_getElem? e1) (mem_of_getElem? e2) ?_;rw [mK hn hp hi8];have := hg _ (getElem_mem (by omega : j < h.length));omega
theorem sx {h' : List au} {n : Nat} {p : List UInt8} (hn : n < 4294967296) (hp : p.length <= 31) (l2 : h'.length = 8) (b : ∀ j, j < 8 -> h'[j]? = some (fV n p j)) : bg h' = (n, p) := by
 have : h' = bN n p := by
  refine ext_getElem? fun j => ?_;rcases Nat.lt_or_ge j 8 with hj | hj
  · rw [b j hj, eP n p j hj]
  · rw [getElem?_eq_none (by omega), getElem?_eq_none (by rw [cD]; exact hj)]
 rw [this, qf hn hp]
def ip (o : Nat) (s : List au) : List au := (s.drop o).take 16
def hA (o : Nat) (s : List au) : List au := (s.drop o).take 8
def hB (o : Nat) (s : List au) : List au := (s.drop (o + 8)).take 8
theorem D0 (o : Nat) (s : List au) : (ip o s).take 8 = hA o s := by rw [ip, hA, take_take]; rfl
theorem DZ (o : Nat) (s : List au) : (ip o s).drop 8 = hB o s := by rw [ip, hB, drop_take, drop_drop]
theorem nP {o : Nat} {s : List au} (h : o + 16 <= s.length) : (hA o s).length = 8 := by rw [hA, length_take, length_drop]; omega
theorem nO {o : Nat} {s : List au} (h : o + 16 <= s.length) : (hB o s).length = 8 := by rw [hB, length_take, length_drop]; omega
theorem qB (o : Nat) (s : List au) (j : Nat) (h : j < 8) : (hA o s)[j]? = s[o + j]? := by rw [hA, getElem?_take, if_pos h, getElem?_drop]
theorem qA (o : Nat) (s : List au) (j : Nat) (h : j < 8) : (hB o s)[j]? = s[o + 8 + j]? := by rw [hB, getElem?_take, if_pos h, getElem?_drop]
def pA (o : Nat) (s : List au) : Nat × List UInt8 := bg (hA o s)
def pB (o : Nat) (s : List au) : Nat × List UInt8 := bg (hB o s)
theorem fy (o : Nat) (s : List au) : ii (ip o s) = if (pA o s).1 < (pB o s).1 then pB o s else pA o s := by
 rw [ii, cA, cB, D0, DZ]; rfl
theorem KF (o : Nat) (s : List au) : eU (ip o s) = if (pA o s).1 < (pB o s).1 then 1 else 0 := by
 rw [eU, cA, cB, D0, DZ]; rfl
theorem zp {o : Nat} {s : List au} {x : au} : x ∈ ip o s ↔ ∃ j, o <= j /\ j < o + 16 /\ s[j]? = some x := by
 constructor
 · intro h
   obtain ⟨i, hi, rfl⟩ := getElem_of_mem h;have hi2 := hi;rw [ip, length_take, length_drop] at hi2;refine ⟨o + i, by omega, by omega, ?_⟩;rw [getElem?_eq_getElem (by omega)];simp [ip]
 · rintro ⟨j, h1, h2, h3⟩
   refine mem_of_getElem? (i := j - o) ?_;rw [ip, getElem?_take, if_pos (by omega), getElem?_drop, <- h3]
   congr 1; omega
theorem fSq : ∀ (l : List au) (m k : Nat), tB m l <= k ↔ m <= k /\ ∀ s ∈ l, gn s <= k
 | [], m, k => by simp [tB]
 | a :: l, m, k => by
  have := fSq l (max m (gn a)) k;rw [tB] at this ⊢;rw [foldl_cons, this];simp only [mem_cons, forall_eq_or_imp, Nat.max_le, and_assoc]
theorem D9 (l : List au) (k : Nat) : d9 l <= k ↔ ∀ s ∈ l, gn s <= k := by
 rw [yE, fSq]; simp
theorem FX {o : Nat} {s : List au} {x : au} (h : x ∈ hA o s) : x ∈ ip o s := by rw [<- D0] at h; exact mem_of_mem_take h
theorem FW {o : Nat} {s : List au} {x : au} (h : x ∈ hB o s) : x ∈ ip o s := by rw [<- DZ] at h; exact mem_of_mem_drop h
structure Gd (o : Nat) (s : List au) (g : Nat) (v : List UInt8) (T : Nat) : Prop where
 l1 : o + 16 <= s.length
 l2 : s.length <= 4096
 bst : ii (ip o s) = (g, v)
 pos : 1 <= g
 top : d9 (ip o s) <= T
theorem mO {o : Nat} {s : List au} (h1 : o + 16 <= s.length) (h2 : s.length <= 4096) : fB ⟨s, []⟩ o = 0 /\ b7 ⟨s, []⟩ o = ip o s := by
 have hc := dg h2;have hi : bn ⟨s, []⟩ o 16 = true := by simp only [bn, Bool.and_eq_true, decide_eq_true_eq]; omega
 have : bD ⟨s, []⟩ o 16 = (ip o s, 0) := by
  rw [bD, if_neg (by simp [hc]), if_neg (by simp [hi])]; rfl
 rw [fB, b7, this]; exact ⟨rfl, rfl⟩
theorem Gd.load {o : Nat} {s : List au} {g : Nat} {v : List UInt8} {T : Nat} (h : Gd o s g v T) : eE ⟨s, []⟩ o = (v, g, 0) := by
 obtain ⟨f1, f2⟩ := mO h.l1 h.l2;have := h.pos;rw [eE, if_neg (by simp [f1]), f2, h.bst, if_neg (by dsimp only; omega)]
theorem Gd.store {o : Nat} {s : List au} {g : Nat} {v p : List UInt8} {T : Nat} (h : Gd o s g v T) (hp : p.length <= 31) (hT : T < 4294967295) :
 b9 ⟨s, []⟩ o p = ([dG ((if (pA o s).1 < (pB o s).1 then o else o + 8 : Nat) : Int) (bN (d9 (ip o s) + 1) p), cO], 0) := by
 obtain ⟨f1, f2⟩ := mO h.l1 h.l2;have h1 := h.pos;have h2 := h.top;rw [b9, if_neg (by simp [f1]), f2, h.bst, if_neg (by dsimp only; omega), if_neg (by omega), if_neg (by omega), KF]
 split
 · rw [show (o : Int) + 8 - 8 * ((1 : Nat) : Int) = (o : Int) by omega]
 · rw [show (o : Int) + 8 - 8 * ((0 : Nat) : Int) = ((o + 8 : Nat) : Int) by omega]
theorem Gd.mx {o : Nat} {s s' : List au} {g : Nat} {v p : List UInt8} {T : Nat} (h : Gd o s g v T) (hp : p.length <= 31) (hT : T < 4294967295)
 (hm : Mx s s' (if (pA o s).1 < (pB o s).1 then o else o + 8) (bN (d9 (ip o s) + 1) p)) :
 (Gd o s' g v (T + 1) \/ Gd o s' (d9 (ip o s) + 1) p (T + 1)) /\ (∀ x, x = pA o s' \/ x = pB o s' -> x.1 = 0 \/ x = pA o s \/ x = pB o s \/ x.2 = p) /\ (∀ j, j < o \/ o + 16 <= j -> s'[j]? = s[j]?) /\ g < d9 (ip o s) + 1 ∧
 ((∀ j, (if (pA o s).1 < (pB o s).1 then o else o + 8) <= j -> j < (if (pA o s).1 < (pB o s).1 then o else o + 8) + 8 -> s'[j]? = (bN (d9 (ip o s) + 1) p)[j - (if (pA o s).1 < (pB o s).1 then o else o + 8)]?) -> Gd o s' (d9 (ip o s) + 1) p (T + 1)) := by
 have h1 := h.l1;have h2 := h.l2;have hl := hm.len;have bY := h.pos;have hb := h.bst;rw [fy] at hb;have htop := h.top;have hall := (D9 (ip o s) (d9 (ip o s))).1 (le_refl _);generalize hn : d9 (ip o s) + 1 = n at *;have hn32 : n < 4294967296 := by omega
 have aC := hm.get;rw [cD] at aC;have htop' : d9 (ip o s') <= T + 1 := by
  rw [D9];intro x hx;obtain ⟨j, a1, a2, a3⟩ := zp.1 hx;rcases aC j with e | ⟨e1, e2, e3⟩
  · rw [e] at a3
    have := hall x (zp.2 ⟨j, a1, a2, a3⟩);omega
  · rw [a3, eP _ _ _ (by omega)] at e3
    rw [Option.some.inj e3, mK hn32 hp (by omega)];omega
 have hout : ∀ j, j < o \/ o + 16 <= j -> s'[j]? = s[j]? := fun j hj => by
  rcases aC j with e | ⟨e1, e2, e3⟩
  · exact e
  · split at e1 <;> split at e2 <;> omega
 by_cases hlt : (pA o s).1 < (pB o s).1
 · simp only [if_pos hlt] at aC hb ⊢
   have hBe : pB o s' = pB o s := by
    rw [pB, pB]; congr 1;refine ext_getElem? fun j => ?_;rcases Nat.lt_or_ge j 8 with hj | hj
    · rw [qA _ _ _ hj, qA _ _ _ hj]
      rcases aC (o + 8 + j) with e | ⟨e1, e2, e3⟩
      · exact e
      · omega
    · rw [getElem?_eq_none (by rw [nO (by omega)]; exact hj), getElem?_eq_none (by rw [nO (by omega)]; exact hj)]
   have hgn : g < n := by
    have h0l : 0 < (hB o s).length := by rw [nO h1]; decide
    have hm0 : (hB o s)[0] ∈ hB o s := getElem_mem h0l;have h1g : 1 <= (bg (hB o s)).1 := by show 1 <= (pB o s).1; rw [hb]; exact bY
    have e1 := uX h1g _ hm0;have e2 := hall _ (FW hm0);have e3 : (bg (hB o s)).1 = g := by show (pB o s).1 = g; rw [hb]
    omega
   have hAh := YN (h := hA o s) (h' := hA o s') (n := n) (p := p) hn32 hp (nP h1) (nP (by omega)) (fun x hx => by have := hall x (FX hx); omega) (fun j hj => by
    rw [qB _ _ _ hj, qB _ _ _ hj];rcases aC (o + j) with e | ⟨e1, e2, e3⟩
    · exact .inl e
    · right; rw [e3, Nat.add_sub_cancel_left, eP _ _ _ hj])
   refine ⟨?_, ?_, hout, hgn, fun hf => ⟨by omega, by omega, ?_, by omega, htop'⟩⟩
   · rcases hAh with e | e | e
     · right; refine ⟨by omega, by omega, ?_, by omega, htop'⟩
       rw [fy, hBe, hb, pA, e, if_neg (by dsimp only; omega)]
     · left; refine ⟨by omega, by omega, ?_, by omega, htop'⟩
       rw [fy, hBe, pA, e];show (if (pA o s).1 < (pB o s).1 then pB o s else pA o s) = _;rw [if_pos hlt, hb]
     · left; refine ⟨by omega, by omega, ?_, by omega, htop'⟩
       rw [fy, hBe, hb, pA, e, if_pos (by dsimp only; omega)]
   · rintro x (rfl | rfl)
     · rcases hAh with e | e | e
       · right; right; right; rw [pA, e]
       · right; left; exact e
       · left; exact e
     · right; right; left; exact hBe
   · have := sx (h' := hA o s') (n := n) (p := p) hn32 hp (nP (by omega)) (fun j hj => by
      rw [qB _ _ _ hj, hf (o + j) (by omega) (by omega), Nat.add_sub_cancel_left, eP _ _ _ hj])
     rw [fy, hBe, hb, pA, this, if_neg (by dsimp only; omega)]
 · simp only [if_neg hlt] at aC hb ⊢
   have hAe : pA o s' = pA o s := by
    rw [pA, pA]; congr 1;refine ext_getElem? fun j => ?_;rcases Nat.lt_or_ge j 8 with hj | hj
    · rw [qB _ _ _ hj, qB _ _ _ hj]
      rcases aC (o + j) with e | ⟨e1, e2, e3⟩
      · exact e
      · omega
    · rw [getElem?_eq_none (by rw [nP (by omega)]; exact hj), getElem?_eq_none (by rw [nP (by omega)]; exact hj)]
   have hgn : g < n := by
    have h0l : 0 < (hA o s).length := by rw [nP h1]; decide
    have hm0 : (hA o s)[0] ∈ hA o s := getElem_mem h0l;have h1g : 1 <= (bg (hA o s)).1 := by show 1 <= (pA o s).1; rw [hb]; exact bY
    have e1 := uX h1g _ hm0;have e2 := hall _ (FX hm0);have e3 : (bg (hA o s)).1 = g := by show (pA o s).1 = g; rw [hb]
    omega
   have hBh := YN (h := hB o s) (h' := hB o s') (n := n) (p := p) hn32 hp (nO h1) (nO (by omega)) (fun x hx => by have := hall x (FW hx); omega) (fun j hj => by
    rw [qA _ _ _ hj, qA _ _ _ hj];rcases aC (o + 8 + j) with e | ⟨e1, e2, e3⟩
    · exact .inl e
    · right; rw [e3, Nat.add_sub_cancel_left, eP _ _ _ hj])
   refine ⟨?_, ?_, hout, hgn, fun hf => ⟨by omega, by omega, ?_, by omega, htop'⟩⟩
   · rcases hBh with e | e | e
     · right; refine ⟨by omega, by omega, ?_, by omega, htop'⟩
       rw [fy, hAe, hb, pB, e, if_pos (by dsimp only; omega)]
     · left; refine ⟨by omega, by omega, ?_, by omega, htop'⟩
       rw [fy, hAe, pB, e];show (if (pA o s).1 < (pB o s).1 then pB o s else pA o s) = _;rw [if_neg hlt, hb]
     · left; refine ⟨by omega, by omega, ?_, by omega, htop'⟩
       rw [fy, hAe, hb, pB, e, if_neg (by dsimp only; omega)]
   · rintro x (rfl | rfl)
     · right; left; exact hAe
     · rcases hBh with e | e | e
       · right; right; right; rw [pB, e]
       · right; right; left; exact e
       · left; exact e
   · have := sx (h' := hB o s') (n := n) (p := p) hn32 hp (nO (by omega)) (fun j hj => by
      rw [qA _ _ _ hj, hf (o + 8 + j) (by omega) (by omega), Nat.add_sub_cancel_left, eP _ _ _ hj])
     rw [fy, hAe, hb, pB, this, if_pos (by dsimp only; omega)]
def yh (n : Nat) (o : bO) : Prop := o = cO \/ ∃ (a : Nat) (l : List au), o = dG a l /\ a + l.length <= n
def a8 : List au -> List bO -> List au
 | s, [] => s
 | s, o :: os => a8 (if o.kind = 0 then nA s o.pos.toNat o.data else s) os
theorem gK (s : List au) (a : Nat) (l : List au) (os : List bO) : a8 s (dG a l :: os) = a8 (nA s a l) os := rfl
theorem gL (s : List au) (os : List bO) : a8 s (cO :: os) = a8 s os := rfl
theorem jn : ∀ (a b : List bO) (s : List au), a8 s (a ++ b) = a8 (a8 s a) b
 | [], b, s => rfl
 | o :: a, b, s => by rw [cons_append, a8, jn a b, a8]
theorem nU : ∀ (os : List bO) (s : List au), (a8 s os).length = s.length
 | [], s => rfl
 | o :: os, s => by
  rw [a8, nU os]
  split
  · exact fY _ _ _
  · rfl
theorem ns : ∀ (os : List bO) (s : List au) (c : List dH) (i : Nat), (∀ o ∈ os, yh s.length o) -> ∃ d', db ⟨s, c⟩ os i = .ok (d', i + os.length) /\ d'.stable.length = s.length /\ aU d' = a8 (aU ⟨s, c⟩) os /\ (os.getLast? = some cO -> d'.cache = []) /\ (os = [] -> d' = ⟨s, c⟩)
 | [], s, c, i, _ => ⟨⟨s, c⟩, rfl, rfl, rfl, fun h => (by cases h), fun _ => rfl⟩
 | o :: os, s, c, i, h => by
  have ht : ∀ o ∈ os, yh s.length o := fun x hx => h x (by simp [hx]);rcases h o (by simp) with rfl | ⟨a, l, rfl, hl⟩
  · obtain ⟨d', h1, h2, h3, h4, h5⟩ := ns os (aU ⟨s, c⟩) [] (i + 1) (by rw [bR]; exact ht)
    refine ⟨d', ?_, by rw [h2, bR], by rw [h3, gL]; rfl, fun q => ?_, fun q => by cases q⟩
    · rw [EY, h1, length_cons, show i + 1 + os.length = i + (os.length + 1) by omega]
    · cases os with
      | nil => rw [h5 rfl]
      | cons x os => exact h4 (by rw [List.getLast?_cons_cons] at q; exact q)
  · have hst : fT ⟨s, c⟩ (dG a l) = .ok ⟨s, c ++ gm a l⟩ := by
     rw [fT, if_neg (by simp [dG]), if_pos (by rfl)];show (match iI ⟨s, c⟩ a l with | some d' => Except.ok d' | none => Except.error 2) = _;rw [iI, if_pos (su hl)]; rfl
    obtain ⟨d', h1, h2, h3, h4, h5⟩ := ns os s (c ++ gm a l) (i + 1) ht;refine ⟨d', ?_, h2, ?_, fun q => ?_, fun q => by cases q⟩
    · rw [db, hst]
      show db _ os (i + 1) = _;rw [h1, length_cons, show i + 1 + os.length = i + (os.length + 1) by omega]
    · rw [h3, gK]
      congr 1
      rw [aU, foldl_append]; rfl
    · cases os with
      | nil => rw [List.getLast?_singleton] at q; cases q
      | cons x os => exact h4 (by rw [List.getLast?_cons_cons] at q; exact q)
theorem kY {s : List au} {os : List bO} (h : s.length <= 4096) (ho : ∀ o ∈ os, yh s.length o) (hl : os = [] \/ os.getLast? = some cO) : du ⟨s, []⟩ os = (⟨a8 s os, []⟩, os.length, 0) := by
 obtain ⟨d', h1, h2, h3, h4, h5⟩ := ns os s [] 0 ho;rw [du, if_neg (by simp [dg h]), h1];have hc : d'.cache = [] := by
  rcases hl with rfl | hl
  · rw [h5 rfl]
  · exact h4 hl
 have : d' = ⟨a8 s os, []⟩ := by
  obtain ⟨st, ca⟩ := d';dsimp only at hc;subst hc
  congr 1
 rw [this, Nat.zero_add]
theorem QC {r : cV} {l : List au} (h : hO r = .ok l) : jR l.length = true := by
 rw [hO] at h
 split at h
 · cases h
 · split at h
   · cases h
   · cases h
     rw [kB, dD, length_map, length_range, fR];omega
theorem HU {j : bW} {n : Nat} (h : cE j = true) (h1 : ¬ 1073741824 <= ax j) (h2 : ¬ gB j < (n : Int)) (hz : jR n = true) :
 cE ⟨j.start, j.count, j.head, (j.tail + n) % (j.count - 16), j.first, j.sizes ++ [(n : Int)]⟩ = true := by
 have g := (bG j).1 h;have g2 := (dF j).1 g.2.1;have hv := (aM _ _).1 g.1;rw [bG, dF];unfold ax at h1;unfold gB at h2;refine ⟨g.1, ⟨g2.1, g2.2.1, g2.2.2.1, g2.2.2.2.1, by simp; omega⟩, ?_, ?_, ?_⟩
 · show (j.sizes ++ [(n : Int)]).all jR = true
   rw [all_append, g.2.2.1, all_cons, hz]; rfl
 · show ay (j.sizes ++ [(n : Int)]) <= j.count - 16
   rw [iT]; omega
 · show (j.tail + (n : Int)) % (j.count - 16) = (j.head + ay (j.sizes ++ [(n : Int)])) % (j.count - 16)
   rw [iT, g.2.2.2.2, Int.emod_add_emod, Int.add_assoc]
theorem C4 {j : bW} {n : Nat} (h : cE j = true) (hn : n <= j.sizes.length) :
 cE ⟨j.start, j.count, (j.head + ay (j.sizes.take n)) % (j.count - 16), j.tail, j.first + n, j.sizes.drop n⟩ = true := by
 have g := (bG j).1 h;have g2 := (dF j).1 g.2.1;have hv := (aM _ _).1 g.1;have hall := g.2.2.1;have e3 := mj (j.sizes.take n) (j.sizes.drop n);rw [take_append_drop] at e3;have e1 := eY (j.sizes.take n) (all_eq_true.2 fun x hx => all_eq_true.1 hall x (mem_of_mem_take hx));have hall2 : (j.sizes.drop n).all jR = true := all_eq_true.2 fun x hx => all_eq_true.1 hall x (mem_of_mem_drop hx);rw [bG, dF];refine ⟨g.1, ⟨Int.emod_nonneg _ (by show j.count - 16 ≠ 0; omega), Int.emod_lt_of_pos _ (by show 0 < j.count - 16; omega), ?_, ?_, ?_⟩, hall2, ?_, ?_⟩
 · show 1 <= j.first + (n : Int); omega
 · show j.first + (n : Int) <= 1073741824; omega
 · show (((j.sizes.drop n).length : Nat) : Int) <= 1073741824 - (j.first + (n : Int))
   rw [length_drop]; omega
 · show ay (j.sizes.drop n) <= j.count - 16; omega
 · show j.tail = ((j.head + ay (j.sizes.take n)) % (j.count - 16) + ay (j.sizes.drop n)) % (j.count - 16)
   rw [Int.emod_add_emod, g.2.2.2.2, Int.add_assoc, <- e3]
theorem rS (h f : Int) : (bk h f).length <= 31 := by
 have := dA h; have := dA f;rw [bk, length_append]; omega
theorem Gd.keep {o : Nat} {s s' : List au} {g : Nat} {v : List UInt8} {T : Nat} (h : Gd o s g v T) (hl : s'.length = s.length) (hk : ∀ j, o <= j -> j < o + 16 -> s'[j]? = s[j]?) : Gd o s' g v T := by
 have hw : ip o s' = ip o s := by
  rw [ip, ip];refine ext_getElem? fun i => ?_;rw [getElem?_take, getElem?_take]
  split
  · rw [getElem?_drop, getElem?_drop, hk _ (by omega) (by omega)]
  · rfl
 exact ⟨by rw [hl]; exact h.l1, by rw [hl]; exact h.l2, by rw [hw]; exact h.bst, h.pos, by rw [hw]; exact h.top⟩
structure JD (s : List au) (j : bW) (T : Nat) : Prop where
 chk : cE j = true
 len : j.start.toNat + j.count.toNat <= s.length
 gd : ∃ g, Gd j.start.toNat s g (bk j.head j.first) T
theorem JD.val {s : List au} {j : bW} {T : Nat} (h : JD s j T) : ∃ st n : Nat, j.start = st /\ j.count = (n : Int) + 16 /\ 4 <= n /\ n <= 4096 /\ st <= 4096 /\ st + 16 + n <= s.length /\ s.length <= 4096 := by
 have hv := (aM _ _).1 (kM h.chk);have hl := h.len;obtain ⟨g, hg⟩ := h.gd;exact ⟨j.start.toNat, (j.count - 16).toNat, by omega, by omega, by omega, by omega, by omega, by omega, hg.l2⟩
section
open Go.Proofs
end
section
open Go.Proofs
end
section
open Go.Proofs
end
theorem YR (s : au) : cr .or .i64 (cr .or .i64 (cr .or .i64 (sb s 0 : Int) (shl .i64 (sb s 1 : Int) 8)) (shl .i64 (sb s 2 : Int) 16)) (shl .i64 (sb s 3 : Int) 24) = (gn s : Int) := by
 have h0 := lq s 0;have h1 := lq s 1;have h2 := lq s 2;have h3 := lq s 3;have u : ∀ x : Nat, x < 4294967296 -> IntKind.i64.wrap (x : Int) = (x : Int) := fun x hx => IntWalk.i64_in _ ⟨by omega, by omega⟩;have e : ∀ (x k : Nat), x < 256 -> k <= 24 -> shl .i64 (x : Int) (k : Int) = ((x * 2 ^ k : Nat) : Int) := fun x k hx hk => by
  unfold shl;rw [Int.toNat_natCast, Nat.min_eq_left (by show k <= 64; omega)];have e2 : (x : Int) * 2 ^ k = ((x * 2 ^ k : Nat) : Int) := by simp
  rw [e2];refine u _ ?_;have := Nat.pow_le_pow_right (show 0 < 2 by decide) hk;have := Nat.mul_le_mul (show x <= 255 by omega) this;omega
 rw [show (8 : Int) = ((8 : Nat) : Int) from rfl, show (16 : Int) = ((16 : Nat) : Int) from rfl, show (24 : Int) = ((24 : Nat) : Int) from rfl, e _ _ h1 (by omega), e _ _ h2 (by omega), e _ _ h3 (by omega)];rw [kQ _ _ _ (by show _ < 2 ^ 64; omega) (by show _ < 2 ^ 64; omega), o0 _ _ _ (by omega), u _ (by omega)];rw [kQ _ _ _ (by show _ < 2 ^ 64; omega) (by show _ < 2 ^ 64; omega), o0 _ _ _ (by omega), u _ (by omega)];rw [kQ _ _ _ (by show _ < 2 ^ 64; omega) (by show _ < 2 ^ 64; omega), o0 _ _ _ (by omega), u _ (by omega)];simp only [gn, gi, Nat.zero_mul, Nat.zero_add, Nat.sub_zero, Nat.sub_self, show 3 - 2 = 1 from rfl, show 3 - 1 = 2 from rfl];omega
theorem O9 (s : au) (i : Nat) : IntKind.i64.wrap (sb s i : Int) = (sb s i : Int) := by have := lq s i; exact IntWalk.i64_in _ ⟨by omega, by omega⟩
theorem xt (H : Hp) (V : List Nat) (s : au) : CC Tryz.prog 130 [.agg (aE s)] H V (Pu (ci (gn s)) H V) := by
 refine aj Tryz.func130 rfl fun hok oH => ?_;clear hok;refine aa (ab ?_);simp [go_sem, ai];refine ab ?_;simp [go_sem, mq, O9, YR];exact ao.int rfl oH (by simp) (by simp)
theorem lM (H : Hp) (V : List Nat) (s : au) : CC Tryz.prog 173 [.agg (aE s)] H V (Pu (ci (gn s)) H V) := by
 refine aj Tryz.func173 rfl fun hok oH => ?_;clear hok;refine aa (ab ?_);simp [go_sem, ai];refine ab ?_;simp [go_sem, mq, O9, YR];exact ao.int rfl oH (by simp) (by simp)
def ga (c : Int) (p : List UInt8) : Int × Int × Nat :=
 match bZ p with
 | .error _ => (0, 0, 3)
 | .ok (h, r) =>
  match bZ r with
  | .error _ => (0, 0, 3)
  | .ok (f, r') => if 0 < r'.length \/ c - 16 <= (h : Int) \/ (f : Int) < 1 \/ 1073741824 < (f : Int) then (0, 0, 3) else (h, f, 0)
def c8 (s c : Int) (d : Dk) : Int × Int × Nat :=
 if (eE d s).2.2 ≠ 0 then (0, 0, (eE d s).2.2) else ga c (eE d s).1
def hdV (x : Int × Int × Nat) : CV := .tup [iv x.1, iv x.2.1, er x.2.2]
theorem ao.hd {H H' : Hp} {V V' : List Nat} {x : Int × Int × Nat} {a b : Int} {e : Nat} (h : (a, b, e) = x) (oH : ∀ (b : Nat) cs, H[b]? = some (some cs) -> okL H.length V.length cs) (hH : H'.take H.length = H) (hV : V'.take V.length = V) : ao H.length V.length (Pu (hdV x) H V) (.tup [iv a, iv b, Go.Proofs.YtfflhepmkhlppaaGreatDoor.er e]) H' V' := by
 subst h;exact ao.pu (.refl _) (by rw [hdV, aK, okL, okL, okL, okL]; exact ⟨by rw [aK]; trivial, by rw [aK]; trivial, jQ _ _ _, trivial⟩) oH hH hV
theorem KP (H : Hp) (V : List Nat) (s c : Int) (d : Dk) (h : bf s c = true) (hl : rL d) (hp : (eE d s).1.length <= 100) : CC Tryz.prog 73 [.agg [iv s, iv c], .agg (cj d)] H V (Pu (hdV (c8 s c d)) H V) := by
 refine aj Tryz.func73 rfl fun hok oH => ?_;clear hok;refine aa (ab ?_);simp [go_sem, ai];refine aa (ab ?_);simp [go_sem];refine ah (EW _ _ d s hl) ?_;simp [go_sem, XY];refine aa (aa (ab ?_))
 by_cases h0 : (eE d s).2.2 = 0
 case neg =>
  simp [go_sem, h0];refine ab ?_;simp [go_sem];exact ao.hd (by rw [c8, if_pos h0]) oH (by simp) (by simp)
 have hJ : c8 s c d = ga c (eE d s).1 := by rw [c8, if_neg (by simp [h0])]
 rw [hJ];generalize (eE d s).1 = p at hp ⊢;simp [go_sem, h0];refine ab ?_;simp [go_sem];refine aa (ab ?_);simp [go_sem];refine ah (IQ _ _ .sh p (by omega)) ?_
 cases hn : bZ p with
 | error e =>
  have he := dW _ _ hn;simp [go_sem, ug];refine aa (aa (ab ?_));simp [go_sem, he];refine ab ?_;simp [go_sem];exact ao.hd (by rw [ga, hn]) oH (by simp) (by simp)
 | ok x =>
  obtain ⟨hd, r⟩ := x;have hr := jU _ _ _ _ hn;simp [go_sem, ug];refine aa (aa (ab ?_));simp [go_sem];refine ab ?_;simp [go_sem];refine aa (ab ?_);simp [go_sem];refine ah (IQ _ _ .sh r (by omega)) ?_
  cases hn2 : bZ r with
  | error e =>
   have he := dW _ _ hn2;simp [go_sem, ug];refine aa (aa (ab ?_));simp [go_sem, he];refine ab ?_;simp [go_sem];exact ao.hd (by rw [ga, hn]; simp only; rw [hn2]) oH (by simp) (by simp)
  | ok x =>
   obtain ⟨f, r'⟩ := x;have hP : ga c p = if 0 < r'.length \/ c - 16 <= (hd : Int) \/ (f : Int) < 1 \/ 1073741824 < (f : Int) then (0, 0, 3) else ((hd : Int), (f : Int), 0) := by
    rw [ga, hn]; simp only; rw [hn2]
   simp [go_sem, ug];refine aa (aa (ab ?_))
   by_cases c1 : 0 < r'.length
   · have c1' : 0 < (r'.length : Int) := by omega
     simp [go_sem, c1, c1'];refine ab ?_;simp [go_sem];exact ao.hd (by rw [hP, if_pos (.inl c1)]) oH (by simp) (by simp)
   have c1' : ¬ 0 < (r'.length : Int) := by omega
   simp [go_sem, c1, c1'];refine ah (b6 _ _ _ _ h) ?_
   by_cases c2 : c - 16 <= (hd : Int)
   · simp [go_sem, c2]
     refine ab ?_;simp [go_sem];exact ao.hd (by rw [hP, if_pos (.inr (.inl c2))]) oH (by simp) (by simp)
   by_cases c3 : (f : Int) < 1
   · simp [go_sem, c2, c3]
     refine ab ?_;simp [go_sem];exact ao.hd (by rw [hP, if_pos (.inr (.inr (.inl c3)))]) oH (by simp) (by simp)
   by_cases c4 : 1073741824 < (f : Int)
   · simp [go_sem, c2, c3, c4]
     refine ab ?_;simp [go_sem];exact ao.hd (by rw [hP, if_pos (.inr (.inr (.inr c4)))]) oH (by simp) (by simp)
   simp [go_sem, c2, c3, c4];refine ab ?_;simp [go_sem];refine ab ?_;simp [go_sem];exact ao.hd (by rw [hP, if_neg (by omega)]) oH (by simp) (by simp)
def j9 : List UInt8 -> Nat
 | [] => 0
 | b :: l => b.toNat + 256 * j9 l
theorem tF : ∀ l : List UInt8, j9 l < 256 ^ l.length
 | [] => Nat.one_pos
 | b :: l => by
  have := tF l;have := b.toNat_lt;rw [j9, length_cons, Nat.pow_succ]; omega
theorem vg : ∀ (l : List UInt8) (b : UInt8), j9 (l ++ [b]) = j9 l + b.toNat * 256 ^ l.length
 | [], b => by simp [j9]
 | a :: l, b => by
  rw [cons_append, j9, vg l b, j9, length_cons, Nat.pow_succ, Nat.mul_add, Nat.add_assoc]
  congr 1
  congr 1
  rw [Nat.mul_comm 256, Nat.mul_assoc]
theorem FA {n a i : Nat} (hi : i < 6) (hn : n < 256 ^ i) (ha : a < 256) : cr .or .i64 (n : Int) (shl .i64 (a : Int) (8 * (i : Int))) = ((n + a * 256 ^ i : Nat) : Int) := by
 have hp : 256 ^ i <= 256 ^ 5 := Nat.pow_le_pow_right (by decide) (by omega);have hm : a * 256 ^ i <= 255 * 256 ^ 5 := Nat.mul_le_mul (by omega) hp;have e1 : shl .i64 (a : Int) (8 * (i : Int)) = ((a * 256 ^ i : Nat) : Int) := by
  unfold shl;have e : min (8 * (i : Int)).toNat IntKind.i64.bits = 8 * i := by
   show min (8 * (i : Int)).toNat 64 = 8 * i;omega
  rw [e, show (2 : Int) ^ (8 * i) = ((256 ^ i : Nat) : Int) by rw [Int.pow_mul]; simp, <- Int.natCast_mul];exact IntWalk.i64_in _ ⟨by omega, by omega⟩
 rw [e1, kQ _ _ _ (by show _ < 2 ^ 64; omega) (by show _ < 2 ^ 64; omega)];have e2 : n ||| a * 256 ^ i = n + a * 256 ^ i := by
  have := o0 n a (8 * i) (by rw [Nat.pow_mul]; exact hn);rw [Nat.pow_mul] at this; exact this
 rw [e2];exact IntWalk.i64_in _ ⟨by omega, by omega⟩
def ng (l : List UInt8) (x y : CV) : List CV := [.sl .sh 1 (bs l), x, y]
theorem yF (H : Hp) (V : List Nat) (b n : Nat) (l : List UInt8) (x y : CV) (hb : H[b]? = some (some (ng l x y))) (hn : n <= l.length) (hl : l.length <= 1000000) : CC Tryz.prog 175 [.ptr b 0, ci n] H V (fun r H' V' => r = .sl .sh 1 (bs (l.take n)) /\ H' = H.set b (some (ng (l.drop n) x y)) /\ V = V') := by
 refine aj Tryz.func175 rfl fun hok oH => ?_;clear hok;have hbl := bP hb;have hn' : (n : Int) <= (l.length : Int) := by omega
 unfold ng at hb ⊢;refine aa (ab ?_);simp [go_sem, ai];refine aa (ab ?_);simp [go_sem, ak hb, hn];refine aa (ab ?_);simp [go_sem, ak hb, hn];refine aa (ab ?_);simp [go_sem];refine ab ?_;simp [go_sem];exact ao.self ⟨rfl, rfl, rfl⟩
theorem ma (H : Hp) (V : List Nat) (b n : Nat) (l : List UInt8) (x y : CV) (hb : H[b]? = some (some (ng l x y))) (hn : n <= l.length) (hl : l.length <= 1000000) (hn6 : n <= 6) : CC Tryz.prog 174 [.ptr b 0, ci n] H V (fun r H' V' => r = ci (j9 (l.take n)) /\ H' = H.set b (some (ng (l.drop n) x y)) /\ V = V') := by
 refine aj Tryz.func174 rfl fun hok oH => ?_
 clear hok
 have hbl := bP hb
 refine aa (ab ?_)
 simp -implicitDefEqProofs [go_sem, ai]
 refine aa (ab ?_)
 simp -implicitDefEqProofs [go_sem]
 refine am (α := Unit) (fun _ => ([(5, ci (j9 (l.take n)))], H.set b (some (ng (l.drop n) x y)), V)) (fun _ => True) ?_ ?_
 · refine aa (ab ?_)
   simp -implicitDefEqProofs [go_sem]
   refine CC.mono (yF _ _ b n l x y hb hn hl) ?_
   rintro _ _ _ ⟨rfl, rfl, rfl⟩
   simp -implicitDefEqProofs [go_sem, show min n l.length = n by omega]
   refine af ?_
   have hkl : (l.take n).length = n := by rw [length_take]; omega
   generalize l.take n = q at hkl ⊢
   refine al (α := Nat) (fun i => ([(5, ci (j9 (q.take i))), (10, .sl .sh 1 (bs q)), (11, ci n), (12, ci i)], H.set b (some (ng (l.drop n) x y)), V)) (fun i => i <= n) (fun i => n - i) 0 (zero_le _) (ae (by simp [go_sem, j9]) rfl rfl) ?_
   intro i hi
   dsimp only
   refine ab ?_
   by_cases h : i < n
   · have hq : i < q.length := by omega
     have h1 := tF (q.take i)
     rw [length_take, Nat.min_eq_left (by omega)] at h1
     have e := FA (n := j9 (q.take i)) (a := q[i].toNat) (i := i) (by omega) h1 q[i].toNat_lt
     have e2 : j9 (q.take i) + q[i].toNat * 256 ^ i = j9 (q.take (i + 1)) := by
      rw [take_succ_eq_append_getElem hq, vg, length_take, Nat.min_eq_left (by omega)]
     rw [e2] at e
     have w1 : IntKind.i64.wrap (8 * (i : Int)) = 8 * (i : Int) := IntWalk.i64_in _ ⟨by omega, by omega⟩
     have w2 : IntKind.i64.wrap (q[i].toNat : Int) = (q[i].toNat : Int) := by have := q[i].toNat_lt; exact IntWalk.i64_in _ ⟨by omega, by omega⟩
     simp -implicitDefEqProofs [go_sem, h, hq, w1, w2, e]
     refine ⟨by omega, i + 1, by omega, by omega, ae ?_ rfl rfl⟩
     simp [go_sem, aq (show i <= 1000000000 by omega)]
   · obtain rfl : i = n := by omega
     simp -implicitDefEqProofs [go_sem, h]
     refine ae ?_ rfl rfl
     rw [take_of_length_le (by omega)]
     simp [go_sem]
 · rintro _ -
   refine ab ?_
   simp -implicitDefEqProofs [go_sem]
   exact ao.self ⟨rfl, rfl, rfl⟩
theorem XJ (H : Hp) (V : List Nat) (c : UInt8) : CC Tryz.prog 177 [.v (.int .u8 (c.toNat : Int))] H V (Pu (cb (c != 0)) H V) := by
 refine aj Tryz.func177 rfl fun hok oH => ?_;clear hok;refine aa (ab ?_);simp [go_sem, ai];refine ab ?_;simp [go_sem];refine aA ?_ oH (by simp) (by simp);rw [Bool.eq_iff_iff];simp [<- UInt8.toNat_inj]
def KC (c : UInt8) : Bool := c != 0
theorem B8 (H : Hp) (V : List Nat) (tk : Tk) (l : List UInt8) (hl : l.length <= 900000000) :
 CC Tryz.prog 186 [.sl tk 1 (bs l), .fn 177 []] H V (Ix (l.any KC) H V) := by
 refine aj Tryz.func186 rfl fun hok oH => ?_;clear hok;refine aa (ab ?_);simp [go_sem, ai];refine am (α := Unit) (fun _ => ([], H, V)) (fun _ => l.any KC = false) ?_ ?_
 · refine aa (ab ?_)
   simp [go_sem];refine af ?_;refine al (α := Nat) (fun i => ([(0, .sl tk 1 (bs l)), (1, .fn 177 []), (7, ci l.length), (8, ci i)], H, V)) (fun i => i <= l.length /\ (l.take i).any KC = false) (fun i => l.length - i) 0 ⟨zero_le _, rfl⟩
    (ae (by simp [go_sem]) rfl rfl) ?_
   rintro i ⟨hi, hp⟩;dsimp only;refine ab ?_;simp [go_sem];refine ⟨fun h => ⟨h, ?_⟩, fun h => ⟨?_, ae (by simp [go_sem]) rfl rfl⟩⟩
   · refine ah (XJ _ _ l[i]) ?_
     rcases hq : KC l[i] with - | -
     · have hq' : (l[i] != 0) = false := hq
       simp [go_sem, hq'];refine ⟨i + 1, ⟨by omega, by simpa using m7 h hp hq⟩, by omega, ae ?_ rfl rfl⟩;simp [go_sem, aq (show i <= 1000000000 by omega)]
     · have hq' : (l[i] != 0) = true := hq
       simp [go_sem, hq'];exact ao.ix (by rw [ua h hq]; simp) oH (by simp) (by simp)
   · rw [take_of_length_le h] at hp; simpa using hp
 · rintro _ hp
   dsimp only;refine ab ?_;simp [go_sem];exact ao.ix (by rw [hp]; rfl) oH (by simp) (by simp)
theorem tT (H : Hp) (V : List Nat) (tk : Tk) (l : List UInt8) (hl : l.length <= 900000000) :
 CC Tryz.prog 176 [.sl tk 1 (bs l), .fn 177 []] H V (Pu (cb (l.any KC)) H V) := by
 refine aj Tryz.func176 rfl fun hok oH => ab ?_;simp [go_sem, ai];refine CC.mono (B8 _ _ _ _ hl) ?_;rintro _ _ _ ⟨k, rfl, hk, rfl, rfl⟩;simp [go_sem];exact aA hk oH (by simp) (by simp)
def tq (k : Nat) : List PanicEntry := [{ v := .iface 265 (.agg #[.int .i64 (k : Int)]), recovered := false }]
theorem vK (b : Bool) (k : Nat) (w : World) : Calls Tryz.prog 172 #[.bool b, .int .i64 (k : Int)] w fun e w' => w' = w /\ if b then e = .returned (.tuple #[]) else e = .panicked (tq k) := by
 go_enter Tryz.func172, Tryz.ntmps172
 go_wp2
 · simp_all
 · simp [bodyPost, tq]
 · simp [bodyPost, results, Tryz.results172, go_sem]
 · simp_all
theorem qL (H : Hp) (V : List Nat) (b : Bool) (k : Nat) : CX Tryz.prog 172 [.v (.bool b), er k] H V (fun r H' V' => b = true /\ r = .tup [] /\ H' = H /\ V' = V) (fun ch H' V' => b = false /\ ch = tq k /\ H' = H /\ V' = V) := by
 refine ⟨⟨_, Tryz.func172, rfl, by kernel_rfl⟩, fun m w us hi hu => ?_⟩;rw [av] at hu;obtain ⟨u, r, rfl, h1, h2⟩ := hu;rw [av] at h2;obtain ⟨u2, r2, rfl, h2, h3⟩ := h2;rw [av] at h3;subst h3;rw [ag] at h1 h2;subst h1 h2;refine (vK b k w).mono fun e w' ⟨e1, e2⟩ => ?_;subst e1
 cases b
 · exact .inr ⟨_, m, H, V, e2, ⟨rfl, rfl, rfl, rfl⟩, hi, bh.refl _ _ _⟩
 · exact .inl ⟨_, m, .tup [], H, V, e2, ⟨rfl, rfl, rfl, rfl⟩, hi, (by rw [ag]; exact ⟨[], rfl, by rw [av]⟩), bh.refl _ _ _⟩
theorem dM {f : FuncId} {args : List CV} {H : Hp} {V : List Nat} {K : CV -> Hp -> List Nat -> Prop} {E : List PanicEntry -> Hp -> List Nat -> Prop} (b : Bool) (k : Nat) (e : f = 172) (ha : args = [.v (.bool b), er k]) (h0 : b = true -> K (.tup []) H V) (h1 : b = false -> E (tq k) H V) : CX Tryz.prog f args H V K E := by
 subst e ha;exact CX.mono (qL H V b k) (fun r H' V' ⟨a, b, c, d⟩ => by subst b c d; exact h0 a) (fun ch H' V' ⟨a, b, c, d⟩ => by subst b c d; exact h1 a)
theorem CX.cc {P : Program} {f : FuncId} {args : List CV} {H : Hp} {V : List Nat} {K : CV -> Hp -> List Nat -> Prop} {E : List PanicEntry -> Hp -> List Nat -> Prop} (h : CX P f args H V K E) (hE : ∀ ch H' V', ¬ E ch H' V') : CC P f args H V K :=
 ⟨h.1, fun m w us hi hu => (h.2 m w us hi hu).mono fun _ _ h => h.elim id fun ⟨c, m', H', V', h1, h2, h3⟩ => absurd h2 (hE _ _ _)⟩
def kn (s : au) : Nat := (ig s + 10) / 4
def kR (l : List au) : Except Nat Nat :=
 match l with
 | [] => .error 10
 | s :: _ =>
  if gn s = 0 then .error 7 else if 4096 < ig s then .error 5 else if l.length < kn s then .error 10
  else if (l.take (kn s)).all (fun x => gn x == gn s) = false then .error 10 else .ok (kn s)
def rz (st : List UInt8) (sq : Nat) : Except Nat cV :=
 if j9 ((st.drop (3 + j9 ((st.drop 1).take 2))).take 4) ≠ (HQ (st.take (3 + j9 ((st.drop 1).take 2)))).toNat then .error 9
 else if (st.drop (7 + j9 ((st.drop 1).take 2))).any KC = true \/ j9 (st.take 1) = 0 then .error 3
 else .ok ⟨(j9 (st.take 1) : Int), sq, (st.drop 3).take (j9 ((st.drop 1).take 2))⟩
theorem qX : kR [] = .error 10 := rfl
theorem H7 {s : au} {l : List au} (h : gn s = 0) : kR (s :: l) = .error 7 := if_pos h
theorem H8 {s : au} {l : List au} (h : gn s ≠ 0) (h2 : 4096 < ig s) : kR (s :: l) = .error 5 := (if_neg h).trans (if_pos h2)
theorem zT {s : au} {l : List au} (h : gn s ≠ 0) (h2 : ¬ 4096 < ig s) (h3 : (s :: l).length < kn s) : kR (s :: l) = .error 10 := (if_neg h).trans ((if_neg h2).trans (if_pos h3))
theorem nZ {s : au} {l : List au} (h : gn s ≠ 0) (h2 : ¬ 4096 < ig s) (h3 : ¬ (s :: l).length < kn s) (h4 : ((s :: l).take (kn s)).all (fun x => gn x == gn s) = false) : kR (s :: l) = .error 10 := (if_neg h).trans ((if_neg h2).trans ((if_neg h3).trans (if_pos h4)))
theorem tZ {s : au} {l : List au} (h : gn s ≠ 0) (h2 : ¬ 4096 < ig s) (h3 : ¬ (s :: l).length < kn s) (h4 : ((s :: l).take (kn s)).all (fun x => gn x == gn s) = true) : kR (s :: l) = .ok (kn s) := (if_neg h).trans ((if_neg h2).trans ((if_neg h3).trans (if_neg (by rw [h4]; decide))))
def SI : List CV := [.v (.slice none 0 0), iv 0, iv 0]
def abh (H : Hp) (V : List Nat) (b : Nat) (l : List au) : CV -> Hp -> List Nat -> Prop := fun r H' V' => ∃ s l' n, l = s :: l' /\ kR l = .ok n /\ r = .tup [] /\ H' = H.set b (some (ng (bb (l.take n)) (ci (gn s)) (ci n))) /\ V = V'
def abg (H : Hp) (V : List Nat) (b : Nat) (l : List au) : List PanicEntry -> Hp -> List Nat -> Prop := fun ch H' V' => ∃ e cs L W, kR l = .error e /\ ch = tq e /\ H' = H.set b (some cs) ++ L /\ V' = V ++ W
theorem KQ (s : au) : cr .or .i64 (sb s 5 : Int) (shl .i64 (sb s 6 : Int) 8) = (ig s : Int) := by
 have h0 := lq s 5;have h1 := lq s 6;have := FA (n := sb s 5) (a := sb s 6) (i := 1) (by decide) h0 h1;rw [show 8 * ((1 : Nat) : Int) = 8 from rfl] at this;rw [this];show ((sb s 5 + sb s 6 * 256 ^ 1 : Nat) : Int) = _;rw [ig];simp only [sb];omega
theorem ao.weakB {nb nv : Nat} {R : CV -> Hp -> List Nat -> Prop} {r : CV} {H : Hp} {V : List Nat} {b : Nat} {cs ds : List CV} (hb : H[b]? = some (some cs)) (h : jD cs ds) (hno : ∀ x ∈ cs, x.isObj = false) (hf : ao nb nv R r (H.set b (some ds)) V) : ao nb nv R r H V := by
 obtain ⟨r', H', V', g, hR⟩ := hf;exact ⟨r', H', V', cL.trans (cL.weak hb h hno) g, hR⟩
theorem O1.le8 {j : Nat} {l : List UInt8} {cv : CV} {V : List Nat} (h : O1 j l cv V) : Le cv (.sl .sh 1 (bs l)) := by
 rcases h with ⟨rfl, rfl⟩ | ⟨k, v, rfl, _⟩
 · exact .nil 1 (by decide)
 · exact .sh _ _ _
theorem O1.noObj {j : Nat} {l : List UInt8} {cv : CV} {V : List Nat} (h : O1 j l cv V) : cv.isObj = false := by
 rcases h with ⟨rfl, rfl⟩ | ⟨k, v, rfl, _⟩ <;> rfl
theorem zf {H : Hp} {V : List Nat} {b : Nat} {ds : List CV} (hbl : b < H.length) (oH : ∀ (b : Nat) cs, H[b]? = some (some cs) -> okL H.length V.length cs) (hd : okL H.length V.length ds) : ∀ (b' : Nat) cs, (H.set b (some ds))[b']? = some (some cs) -> okL H.length V.length cs := fun b' cs hb' => by
 by_cases e : b = b'
 · subst e
   rw [getElem?_set_self hbl] at hb'
   cases hb'; exact hd
 · rw [getElem?_set_ne e] at hb'; exact oH _ _ hb'
theorem MC (H : Hp) (V : List Nat) (k : Nat) : CC Tryz.prog 172 [.v (.bool true), er k] H V (Pu (.tup []) H V) :=
 (CX.cc (qL H V true k) (by rintro _ _ _ ⟨h, _⟩; cases h)).mono (by rintro r H' V' ⟨_, rfl, rfl, rfl⟩; exact ⟨rfl, rfl, rfl⟩)
theorem H5 (H : Hp) (V : List Nat) (b : Nat) (l : List au) (hb : H[b]? = some (some SI)) (hl : l.length <= 1000000) : CX Tryz.prog 157 [.ptr b 0, aF l] H V (abh H V b l) (abg H V b l) := by
 have hbl := bP hb;have hse : H.set b (some SI) = H := mm hb;refine CX.of_swp Tryz.func157 rfl (by kernel_rfl) (by rw [Tryz.ntmps157]; exact gu _ _ rfl) fun hok oH => ?_;clear hok;refine aa (ac.callx (pre := [_, _, _]) (post := []) ?_);simp [go_sem, ai]
 cases l with
 | nil =>
  refine dM false 10 rfl (by simp) (fun h => by cases h) (fun _ => ?_);exact ⟨10, SI, [], [], qX, rfl, by rw [hse]; simp, by simp⟩
 | cons s l =>
  refine dM true 10 rfl (by simp) (fun _ => ?_) (fun h => by cases h);simp [go_sem];unfold SI at hb;refine aa (ab ?_);simp [go_sem, ak hb];refine ah (lM _ _ s) ?_;simp [go_sem, ak hb];obtain ⟨H1, hH1⟩ : ∃ H1, H1 = H.set b (some [.v (.slice none 0 0), ci (gn s), iv 0]) := ⟨_, rfl⟩
  have hb1 : H1[b]? = some (some [.v (.slice none 0 0), ci (gn s), iv 0]) := by rw [hH1, getElem?_set_self hbl]
  rw [<- hH1];refine aa (ac.callx (pre := [_, _, _, _, _]) (post := []) ?_);simp [go_sem, ak hb1]
  by_cases h1 : gn s = 0
  · refine dM false 7 rfl (by simp [h1]) (fun h => by cases h) (fun _ => ?_)
    exact ⟨7, _, [], [], H7 h1, rfl, by rw [hH1]; simp; rfl, by simp⟩
  refine dM true 7 rfl (by simp; omega) (fun _ => ?_) (fun h => by cases h);simp [go_sem];refine aa (az [] [] (.s 0 .pl <| .s 1 .pl <| .s 2 .pl <| .s 3 .pl <| .s 4 .pl <| .s 5 .pl <| .s 6 .pl <| .s 7 .pl <| .s 8 .pl <| .s 9 .pl <| .s 10 .pl <| .s 11 .pl <| .s 12 .pl <| .n) ?_);simp [go_sem, mq, O9, KQ];refine aa (ac.callx (pre := [_, _]) (post := []) ?_);simp [go_sem]
  by_cases h2 : 4096 < ig s
  · refine dM false 5 rfl (by simp; omega) (fun h => by cases h) (fun _ => ?_)
    exact ⟨5, _, [], [], H8 h1 h2, rfl, by rw [hH1]; simp; rfl, by simp⟩
  refine dM true 5 rfl (by simp; omega) (fun _ => ?_) (fun h => by cases h);simp [go_sem];have hsz : ne (ig s : Int) = (kn s : Int) := by rw [ne, if_neg (by omega), kn]; omega
  refine aa (ab ?_);simp [go_sem];refine ah (rf _ _ _) ?_;simp [go_sem, hsz, ak hb1];obtain ⟨H2, hH2⟩ : ∃ H2, H2 = H1.set b (some [.v (.slice none 0 0), ci (gn s), ci (kn s)]) := ⟨_, rfl⟩
  have hb2 : H2[b]? = some (some [.v (.slice none 0 0), ci (gn s), ci (kn s)]) := by rw [hH2, getElem?_set_self (by rw [hH1, length_set]; exact hbl)]
  have hH2' : H2 = H.set b (some [.v (.slice none 0 0), ci (gn s), ci (kn s)]) := by rw [hH2, hH1, set_set]
  rw [<- hH2];refine aa (ac.callx (pre := [_, _, _, _, _, _, _]) (post := []) ?_);simp [go_sem, ak hb2]
  by_cases h3 : (s :: l).length < kn s
  · refine dM false 10 rfl (by simp at h3 ⊢; omega) (fun h => by cases h) (fun _ => ?_)
    exact ⟨10, _, [], [], zT h1 h2 h3, rfl, by rw [hH2']; simp; rfl, by simp⟩
  refine dM true 10 rfl (by simp at h3 ⊢; omega) (fun _ => ?_) (fun h => by cases h);simp [go_sem];refine aa (ab ?_);simp [go_sem, ak hb2];have hszl : kn s <= l.length + 1 := by simp at h3; omega
  refine ⟨hszl, ?_⟩;rw [show aE s :: List.map aE l = List.map aE (s :: l) from rfl, <- map_take, Nat.min_eq_left hszl, hH2'];have hq : ((s :: l).take (kn s)).length = kn s := by rw [length_take, length_cons]; omega
  have hbeg : ((s :: l).take (kn s)).all (fun x => gn x == gn s) = true -> kR (s :: l) = .ok (kn s) := tZ h1 h2 h3;have hbad : ((s :: l).take (kn s)).all (fun x => gn x == gn s) = false -> kR (s :: l) = .error 10 := nZ h1 h2 h3;have hBK : ∀ r H' V', abh H V b (s :: l) r H' V' = (∃ s' l' n, s :: l = s' :: l' /\ kR (s :: l) = .ok n /\ r = .tup [] /\ H' = H.set b (some (ng (bb ((s :: l).take n)) (ci (gn s')) (ci n))) /\ V = V') := fun _ _ _ => rfl;generalize hqq : (s :: l).take (kn s) = q at hq hbeg hbad ⊢;generalize hn : kn s = n at hq hbeg hbad hszl hqq ⊢;refine af ?_;refine al (α := Nat × CV × Hp × List Nat) (fun x => ([(0, .ptr b 0), (57, .sl .sh 8 (q.map aE)), (58, ci n), (59, ci x.1)], H.set b (some [x.2.1, ci (gn s), ci n]) ++ x.2.2.1, x.2.2.2))
   (fun x => x.1 <= n /\ O1 V.length (bb (q.take x.1)) x.2.1 x.2.2.2 /\ (∃ W, x.2.2.2 = V ++ W) /\ (q.take x.1).all (fun x => gn x == gn s) = true) (fun x => n - x.1) (0, .v (.slice none 0 0), [], V) ⟨by omega, .inl ⟨rfl, rfl⟩, ⟨[], by simp⟩, rfl⟩ (ae (by simp [go_sem]) (by simp) rfl) ?_
  rintro ⟨i, cv, L, V'⟩ ⟨hi, ha, ⟨W, hW⟩, hg⟩;dsimp only at hi ha hW hg ⊢;have hbx1 : ∀ (c : List CV) (M : Hp), (H.set b (some c) ++ M)[b]? = some (some c) := fun c M => by rw [getElem?_append_left (by rw [length_set]; exact hbl), getElem?_set_self hbl]
  refine aa (ab ?_);simp [go_sem];refine aa (ab ?_);simp [go_sem];refine ⟨fun h => ?_, fun h => ?_⟩
  case refine_2 =>
   obtain rfl : i = n := by omega
   rw [take_of_length_le (by omega)] at ha hg;refine ao.weakB (b := b) (ds := ng (bb q) (ci (gn s)) (ci i)) (hbx1 _ _) (.cons ha.le8 (jD.rfl' _)) ?_ ?_
   · intro x hx
     rcases mem_cons.1 hx with rfl | hx
     · exact ha.noObj
     · rcases mem_cons.1 hx with rfl | hx
       · rfl
       · obtain rfl : x = ci i := by simpa using hx
         rfl
   rw [set_append_left _ _ (by rw [length_set]; exact hbl), set_set];exact ao.cut H.length V.length ⟨s, l, i, rfl, hbeg hg, rfl, by rw [hqq], rfl⟩ (le_refl _) (le_refl _) (List.take_left' (by rw [length_set])) (by rw [hW]; simp) (.refl _) (by rw [aK, okL]; trivial) (zf hbl oH (by simp [ng, okL, aK, gr, jT]))
  have hiq : i < q.length := by omega
  refine aa (af (aa (ab ?_)));simp [go_sem, hiq]
  by_cases hgi : gn q[i] = gn s
  case neg =>
   have hgi' : ¬ ((gn q[i] : Nat) : Int) = ((gn s : Nat) : Int) := by omega
   have hall : (q.all fun x => gn x == gn s) = false := by
    rw [<- Bool.not_eq_true, all_eq_true];intro hh;exact hgi (by simpa using hh _ (getElem_mem hiq))
   have hX : ∀ M : Hp, abg H V b (s :: l) (tq 10) (H.set b (some [cv, ci (gn s), ci n]) ++ M) V' := fun M => ⟨10, _, M, W, hbad hall, rfl, rfl, hW⟩
   refine aa (ac.drawnY (.f 0 false (.f 1 false (.s 2 false (.s 3 false (.s 4 false (.s 5 false (.s 6 false (.s 7 true (.n))))))) 2 false (.f 1 false (.s 3 false (.s 4 false (.s 5 false (.s 6 false (.s 7 true (.n)))))) 3 false (.f 1 false (.s 4 false (.s 5 false (.s 6 false (.s 7 true (.n))))) 4 false (.f 1 false (.s 5 false (.s 6 false (.s 7 true (.n)))) 5 false (.s 1 false (.s 6 false (.s 7 true (.n)))))))) 2 false (.f 0 false (.f 1 false (.s 3 false (.s 4 false (.s 5 false (.s 6 false (.s 7 true (.n)))))) 3 false (.f 1 false (.s 4 false (.s 5 false (.s 6 false (.s 7 true (.n))))) 4 false (.f 1 false (.s 5 false (.s 6 false (.s 7 true (.n)))) 5 false (.s 1 false (.s 6 false (.s 7 true (.n))))))) 3 false (.f 0 false (.f 1 false (.s 4 false (.s 5 false (.s 6 false (.s 7 true (.n))))) 4 false (.f 1 false (.s 5 false (.s 6 false (.s 7 true (.n)))) 5 false (.s 1 false (.s 6 false (.s 7 true (.n)))))) 4 false (.f 0 false (.f 1 false (.s 5 false (.s 6 false (.s 7 true (.n)))) 5 false (.s 1 false (.s 6 false (.s 7 true (.n))))) 5 false (.s 0 false (.s 1 false (.s 6 false (.s 7 true (.n))))))))) (by kernel_rfl) (by kernel_rfl) ?_);have hbb := hbx1 [cv, ci (gn s), ci n] (L ++ [some (aE q[i])]);simp [go_sem, ak hbb]
   repeat' (with_reducible refine And.intro ?_ ?_)
   all_goals
    refine ah (lM _ _ _) ?_;simp [go_sem, ak hbb, hgi];refine yG rfl rfl (by simp [go_sem]) ?_;simp [go_sem];refine dM false 10 rfl (by simp; exact hgi') (fun h => by cases h) (fun _ => hX _)
  refine aa (az [] [] (.s 0 .pl <| .s 2 .pl <| .s 3 .pl <| .s 4 .pl <| .s 5 .pl <| .s 1 .pl <| .s 6 .pl <| .s 7 .pl <| .n) ?_);simp [go_sem, ak (hbx1 [cv, ci (gn s), ci n] (L ++ [some (aE q[i])]))];refine ah (lM _ _ _) ?_;simp [go_sem, hgi];refine ah (MC _ _ _) ?_;simp [go_sem];refine az [] [11] (.s 0 .pl <| .s 1 .pl <| .s 2 .pl <| .s 3 .pl <| .s 4 .pl <| .s 5 .pl <| .s 6 .pl <| .s 7 .pl <| .s 8 .pl <| .s 9 .pl <| .s 10 .pl <| .s 11 .st <| .n) ?_;have hg' : (q.take (i + 1)).all (fun x => gn x == gn s) = true := by
   rw [take_succ_eq_append_getElem hiq, all_append, hg];simp [hgi]
  have hd := lY q i hiq;have hset : ∀ (c c' : List CV) (M : Hp), (H.set b (some c) ++ M).set b (some c') = H.set b (some c') ++ M := fun c c' M => by
   rw [set_append_left _ _ (by rw [length_set]; exact hbl), set_set]
  have hall' : ∀ (x : au), x ∈ q.take (i + 1) -> gn x = gn s := fun x hx => by simpa using all_eq_true.1 hg' x hx
  rcases ha with ⟨rfl, he⟩ | ⟨k, v, rfl, hv, hk⟩
  · simp [go_sem, ak (hbx1 [.v (.slice none 0 0), ci (gn s), ci n] (L ++ [some (aE q[i])])), jH]
    refine ⟨by rw [q[i].len]; decide, ab ?_⟩;rw [hset];simp [go_sem, aq (show i <= 1000000000 by simp at hl; omega)];refine ⟨i + 1, _, _, V' ++ [0], ⟨by omega, .inr ⟨V'.length, 0, by rw [hd, he]; rfl, by simp, by rw [hW]; simp⟩, ⟨W ++ [0], by rw [hW, append_assoc]⟩, hall'⟩, by omega, ae (by simp [go_sem]) rfl rfl⟩
  · simp [go_sem, ak (hbx1 [.sl (.own k v) 1 (bs (bb (q.take i))), ci (gn s), ci n] (L ++ [some (aE q[i])])), jH, hv]
    have hkv := (List.getElem?_eq_some_iff.1 hv).1;refine ⟨by rw [q[i].len, gR, length_take]; simp at hl; omega, ab ?_⟩;rw [hset];simp [go_sem, aq (show i <= 1000000000 by simp at hl; omega)];refine ⟨i + 1, .sl (.own k (v + 1)) 1 (bs (bb (q.take i) ++ q[i].val.drop 4)), _, V'.set k (v + 1), ⟨by omega, .inr ⟨k, v + 1, by rw [hd], by rw [getElem?_set_self hkv], hk⟩, ⟨W.set (k - V.length) (v + 1), by rw [hW, set_append_right _ _ hk]⟩, hall'⟩, by omega, ae (by simp [go_sem]) rfl rfl⟩
def tE (st : List UInt8) : Nat := j9 ((st.drop 1).take 2)
def af7 (H : Hp) (V : List Nat) (b : Nat) (st : List UInt8) (sq n : Nat) : CV -> Hp -> List Nat -> Prop := fun r H' V' => ∃ rec rest, rz st sq = .ok rec /\ r = .agg (gl rec) /\ H' = H.set b (some (ng rest (ci sq) (ci n))) /\ V = V'
def af6 (H : Hp) (V : List Nat) (b : Nat) (st : List UInt8) (sq n : Nat) : List PanicEntry -> Hp -> List Nat -> Prop := fun ch H' V' => ∃ e cs L W, rz st sq = .error e /\ ch = tq e /\ H' = H.set b (some cs) ++ L /\ V' = V ++ W
theorem PB {st : List UInt8} {sq : Nat} (h : j9 ((st.drop (3 + tE st)).take 4) ≠ (HQ (st.take (3 + tE st))).toNat) : rz st sq = .error 9 := if_pos h
theorem PC {st : List UInt8} {sq : Nat} (h : ¬ j9 ((st.drop (3 + tE st)).take 4) ≠ (HQ (st.take (3 + tE st))).toNat) (h2 : (st.drop (7 + tE st)).any KC = true \/ j9 (st.take 1) = 0) : rz st sq = .error 3 := (if_neg h).trans (if_pos h2)
theorem yW {st : List UInt8} {sq : Nat} (h : ¬ j9 ((st.drop (3 + tE st)).take 4) ≠ (HQ (st.take (3 + tE st))).toNat) (h2 : ¬ ((st.drop (7 + tE st)).any KC = true \/ j9 (st.take 1) = 0)) : rz st sq = .ok ⟨(j9 (st.take 1) : Int), sq, (st.drop 3).take (tE st)⟩ := (if_neg h).trans (if_neg h2)
theorem BF (H : Hp) (V : List Nat) (b : Nat) (st : List UInt8) (sq n : Nat) (hb : H[b]? = some (some (ng st (ci sq) (ci n)))) (hst : 7 + tE st <= st.length) (hl : st.length <= 1000000) : CX Tryz.prog 158 [.ptr b 0] H V (af7 H V b st sq n) (af6 H V b st sq n) := by
 have hbl := bP hb
 refine CX.of_swp Tryz.func158 rfl (by kernel_rfl) (by rw [Tryz.ntmps158]; exact gu _ _ rfl) fun hok oH => ?_
 clear hok
 obtain ⟨z, hz⟩ : ∃ z : List CV, z = [iv 0, iv 0, .v (.slice none 0 0)] := ⟨_, rfl⟩
 have dN : ∀ (c : List UInt8) (M : Hp), (H.set b (some (ng c (ci sq) (ci n))) ++ M)[b]? = some (some (ng c (ci sq) (ci n))) := fun c M => by rw [getElem?_append_left (by rw [length_set]; exact hbl), getElem?_set_self hbl]
 have hset : ∀ (c : List UInt8) (c' : List CV) (M : Hp), (H.set b (some (ng c (ci sq) (ci n))) ++ M).set b (some c') = H.set b (some c') ++ M := fun c c' M => by
  rw [set_append_left _ _ (by rw [length_set]; exact hbl), set_set]
 have hH : H.set b (some (ng st (ci sq) (ci n))) = H := mm hb
 have hln : tE st = j9 ((st.drop 1).take 2) := rfl
 have hlb := tF ((st.drop 1).take 2)
 rw [<- hln, length_take, length_drop, Nat.min_eq_left (by omega)] at hlb
 generalize aT : tE st = m at hst hln hlb
 refine aa (ab ?_)
 simp -implicitDefEqProofs [go_sem, ai]
 rw [<- hz]
 have hb0 : (H ++ [some z])[b]? = some (some (ng st (ci sq) (ci n))) := by rw [getElem?_append_left hbl]; exact hb
 refine aa (ab ?_)
 simp -implicitDefEqProofs [go_sem, ak (show (H ++ [some z])[b]? = some (some [.sl .sh 1 (bs st), ci sq, ci n]) from hb0)]
 refine aa (ab ?_)
 simp -implicitDefEqProofs [go_sem]
 refine CC.mono (ma _ _ b 1 st _ _ hb0 (by omega) hl (by decide)) ?_
 rintro _ _ _ ⟨rfl, rfl, rfl⟩
 rw [set_append_left _ _ hbl]
 simp -implicitDefEqProofs [go_sem, -drop_one]
 refine aa (ab ?_)
 simp -implicitDefEqProofs [go_sem, -drop_one]
 refine CC.mono (ma _ _ b 2 (st.drop 1) _ _ (dN _ _) (by rw [length_drop]; omega) (by rw [length_drop]; omega) (by decide)) ?_
 rintro _ _ _ ⟨rfl, rfl, rfl⟩
 rw [hset, <- hln, drop_drop]
 simp -implicitDefEqProofs [go_sem, -drop_one]
 refine aa (ab ?_)
 simp -implicitDefEqProofs [go_sem, -drop_one]
 refine CC.mono (yF _ _ b m (st.drop (1 + 2)) _ _ (dN _ _) (by rw [length_drop]; omega) (by rw [length_drop]; omega)) ?_
 rintro _ _ _ ⟨rfl, rfl, rfl⟩
 rw [hset, drop_drop]
 simp -implicitDefEqProofs [go_sem, -drop_one]
 refine CC.mono (kL _ _ _ _ (by simp; omega)) ?_
 rintro _ _ _ ⟨v, rfl, rfl, rfl⟩
 simp -implicitDefEqProofs [go_sem, -drop_one]
 refine aa (ab ?_)
 simp -implicitDefEqProofs [go_sem, -drop_one]
 refine CC.mono (ma _ _ b 4 (st.drop (1 + 2 + m)) _ _ (dN _ _) (by rw [length_drop]; omega) (by rw [length_drop]; omega) (by decide)) ?_
 rintro _ _ _ ⟨rfl, rfl, rfl⟩
 rw [hset, drop_drop]
 simp -implicitDefEqProofs [go_sem, -drop_one]
 refine aa (ac.callx (pre := [_, _, _, _, _, _, _, _]) (post := []) ?_)
 have w1 : IntKind.i64.wrap (3 + (m : Int)) = ((3 + m : Nat) : Int) := (IntWalk.i64_in _ ⟨by omega, by omega⟩).trans (by omega)
 simp -implicitDefEqProofs [go_sem, -drop_one, w1]
 refine ⟨by omega, by omega, ?_⟩
 rw [show (3 + (m : Int)).toNat = 3 + m by omega]
 refine CC.mono (IK _ _ .sh (st.take (3 + m)) (by rw [length_take]; omega)) ?_
 rintro _ _ _ ⟨rfl, rfl, rfl⟩
 simp -implicitDefEqProofs [go_sem, -drop_one, yu]
 have r9 := PB (st := st) (sq := sq)
 have r3 := PC (st := st) (sq := sq)
 have rok := yW (st := st) (sq := sq)
 rw [aT] at r9 r3 rok
 generalize j9 ((st.drop (3 + m)).take 4) = sm at r9 r3 rok ⊢
 generalize (HQ (st.take (3 + m))).toNat = cs at r9 r3 rok ⊢
 by_cases hs : sm = cs
 case neg =>
  have hs' : ¬ (sm : Int) = (cs : Int) := by omega
  refine dM false 9 rfl (by simp; exact hs') (fun h => by cases h) (fun _ => ?_)
  exact ⟨9, _, [some z], [v], r9 hs, rfl, rfl, rfl⟩
 refine dM true 9 rfl (by simp [hs]) (fun _ => ?_) (fun h => by cases h)
 simp -implicitDefEqProofs [go_sem, -drop_one]
 have hkd := tF (st.take 1)
 rw [length_take, Nat.min_eq_left (by omega)] at hkd
 generalize hkv : j9 (st.take 1) = kd at r3 rok hkd ⊢
 refine aa (ac.callx (pre := [_, _, _, _, _, _, _, _, _, _, _]) (post := []) ?_)
 have hbb := dN (st.drop (3 + m + 4)) [some z]
 by_cases hk : kd = 0
 · simp -implicitDefEqProofs [go_sem, -drop_one, hk]
   refine dM false 3 rfl (by simp) (fun h => by cases h) (fun _ => ?_)
   exact ⟨3, _, [some z], [v], r3 (by simp [hs]) (.inr hk), rfl, rfl, rfl⟩
 have hk' : 0 < kd := by omega
 simp -implicitDefEqProofs [go_sem, -drop_one, hk', ak (show (H.set b (some (ng (st.drop (3 + m + 4)) (ci sq) (ci n))) ++ [some z])[b]? = some (some [.sl .sh 1 (bs (st.drop (3 + m + 4))), ci sq, ci n]) from hbb)]
 refine CC.mono (tT _ _ .sh (st.drop (3 + m + 4)) (by rw [length_drop]; omega)) ?_
 rintro _ _ _ ⟨rfl, rfl, rfl⟩
 have e7 : 3 + m + 4 = 7 + m := by omega
 cases hnz : (st.drop (7 + m)).any KC with
 | true =>
  simp -implicitDefEqProofs [go_sem, e7, hnz]
  refine dM false 3 rfl (by simp) (fun h => by cases h) (fun _ => ?_)
  exact ⟨3, _, [some z], [v], r3 (by simp [hs]) (.inl hnz), rfl, rfl, rfl⟩
 | false =>
  simp -implicitDefEqProofs [go_sem, e7, hnz]
  refine dM true 3 rfl rfl (fun _ => ?_) (fun h => by cases h)
  simp -implicitDefEqProofs [go_sem, -drop_one]
  have hR := rok (by simp [hs]) (by simp [hnz, hk])
  have hb7 : (H.set b (some (ng (st.drop (7 + m)) (ci sq) (ci n))) ++ [some z])[b]? = some (some [.sl .sh 1 (bs (st.drop (7 + m))), ci sq, ci n]) := dN _ _
  have hbz : (H.set b (some (ng (st.drop (7 + m)) (ci sq) (ci n))) ++ [some z])[H.length]? = some (some [iv 0, iv 0, .v (.slice none 0 0)]) := by
   rw [getElem?_append_right (by rw [length_set]; exact le_refl _), length_set, Nat.sub_self, hz]; rfl
  have hss : ∀ y : List CV, (H.set b (some (ng (st.drop (7 + m)) (ci sq) (ci n))) ++ [some z]).set H.length (some y) = H.set b (some (ng (st.drop (7 + m)) (ci sq) (ci n))) ++ [some y] := fun y => by
   rw [set_append_right _ _ (by rw [length_set]; exact le_refl _), length_set, Nat.sub_self]; rfl
  refine aa (ab ?_)
  simp -implicitDefEqProofs [go_sem, ak hb7, ak hbz, hss]
  refine ab ?_
  simp -implicitDefEqProofs [go_sem]
  refine ao.cut (r' := .agg (gl ⟨(kd : Int), (sq : Int), (st.drop 3).take m⟩)) H.length V.length ⟨_, _, hR, rfl, rfl, rfl⟩ (le_refl _) (le_refl _) (List.take_left' (by rw [length_set])) (by simp) (.agg (.cons (.refl _) (.cons (.refl _) (.cons (.sh _ _ _) .nil)))) (by rw [aK, mz]; trivial) (zf hbl oH (by simp [ng, okL, aK, gr, jT]))
def UP : Except Nat (cV × Nat) -> CV
 | .ok (r, n) => .tup [.agg (gl r), ci n, er 0]
 | .error e => .tup [.agg (gl zrc), ci 0, er e]
def gx (l : List au) : Except Nat (cV × Nat) :=
 match kR l with
 | .error e => .error e
 | .ok n =>
  match rz (bb (l.take n)) (gn (l.getD 0 aP)) with
  | .error e => .error e
  | .ok r => .ok (r, n)
theorem taR (v : Value) (w : World) : (Instr.typeAssert (.iface 265 v) 20 265 true).run Tryz.prog w = .ok (.tuple #[v, .bool true]) w := by
 simp [Instr.typeAssert, go_sem]
theorem JR : aa7 Tryz.prog 156 3 := ⟨⟨_, Tryz.func156, rfl, by kernel_rfl⟩, fun us w hs => by
 obtain ⟨a, b, c, rfl⟩ : ∃ a b c, us = #[a, b, c] := by
  rcases us with ⟨l⟩
  match l, hs with
  | [a, b, c], _ => exact ⟨a, b, c, rfl⟩
 refine callsD_of_wpS Tryz.func156 rfl fun c₀ cs hu => ?_;apply wpS_seq;apply wpS_region;simp [wpOpsS, go_sem, recoverD, hu, Tryz.ntmps156, Exit.thenS];apply wpS_seq;apply wpS_region;simp [wpOpsS, go_sem, recoverD, hu, Tryz.ntmps156, Exit.thenS];refine wpS_cond (t := false) (by simp [Act.eval, Array.replicate]) ?_;simp only [Bool.false_eq_true, if_false];refine wpS_of_wp (wp_skip ?_)
 cases c₀
 simp_all [bodyPostS, results, Tryz.results156]⟩
def SJ : List CV := [iv 0, iv 0, .v (.slice none 0 0)]
theorem C8 (H : Hp) (V : List Nat) (a b c k : Nat) (cs : List CV) (x y : CV) (ha : H[a]? = some (some cs)) (hb : H[b]? = some (some [x])) (hc : H[c]? = some (some [y])) (hab : a ≠ b) (hac : a ≠ c) (hbc : b ≠ c) (hcs : cs.length = 3) :
 CD Tryz.prog 156 [.ptr a 0, .ptr b 0, .ptr c 0] (tq k) H V (fun H' V' => ∃ M, H' = (((H.set a (some SJ)).set b (some [iv 0])).set c (some [er k])) ++ M /\ V' = V) := by
 refine CD.of_swp Tryz.func156 rfl (by kernel_rfl) Tryz.results156 (by rw [Tryz.ntmps156]; exact gu _ _ rfl) (by rw [Tryz.ntmps156]; decide) (by rw [Tryz.ntmps156]; decide) (by rw [Tryz.ntmps156]; decide) (by rw [Tryz.ntmps156]; decide) ?_ (aa (ab ?_))
 · intro w A h
   have h' : A.tmps[7]?.getD undef = .iface 265 (.agg #[.int .i64 k]) := by simpa [Act.eval] using h
   simp [go_sem, h']
 have hb1 : (H.set a (some SJ))[b]? = some (some [x]) := by rw [getElem?_set_ne hab]; exact hb
 have hc1 : ((H.set a (some SJ)).set b (some [iv 0]))[c]? = some (some [y]) := by rw [getElem?_set_ne hbc, getElem?_set_ne hac]; exact hc
 unfold SJ at hb1 hc1 ⊢;simp [go_sem, ai, gb ha, hcs, gb hb1, gb hc1, drop_eq_nil_of_le (show cs.length <= 3 by omega)];obtain ⟨H3, hH3⟩ : ∃ H3, H3 = (H.set a (some [iv 0, iv 0, .v (.slice none 0 0)])).set b (some [iv 0]) := ⟨_, rfl⟩
 have hcl : c < H3.length := by rw [hH3, length_set, length_set]; exact bP hc
 have hln : H3.length = H.length := by rw [hH3, length_set, length_set]
 rw [<- hH3];obtain ⟨H4, hH4⟩ : ∃ H4, H4 = H3.set c (some [iv 3]) := ⟨_, rfl⟩
 have hc4 : H4[c]? = some (some [iv 3]) := by rw [hH4, getElem?_set_self hcl]
 have hs4 : ∀ y : List CV, H4.set c (some y) = H3.set c (some y) := fun y => by rw [hH4, set_set]
 have hl4 : H4.length = H.length := by rw [hH4, length_set, hln]
 rw [<- hH4, <- hl4];refine aa (ac.tassert (pre := [_]) (post := [_, _, _, _, _, _]) ?_);simp [go_sem];refine ⟨.agg [ci k], 265, _, ⟨rfl, rfl⟩, fun m w V => ?_, fun A w hA => ?_, ?_⟩
 · rw [ag]; exact ⟨[_], rfl, by rw [av]; exact ⟨_, _, rfl, by rw [ag], by rw [av]⟩⟩
 · rw [hA, taR]; rfl
 simp [go_sem];refine aa (ab ?_);simp [go_sem];have hcc : (H4 ++ [some [ci k]])[c]? = some (some [iv 3]) := by rw [getElem?_append_left (bP hc4)]; exact hc4
 refine ab ?_;simp [go_sem, ak hcc];refine ao.self ⟨⟨[some [ci k]], ?_⟩, rfl⟩;rw [set_append_left _ _ (bP hc4), hs4]
theorem za (i j : Nat) (x : Except Nat (cV × Nat)) : aK i j (UP x) := by
 cases x <;> simp only [UP] <;> rw [aK, okL, okL, okL, okL] <;> exact ⟨by rw [aK, mz]; trivial, by rw [aK]; trivial, jQ _ _ _, trivial⟩
theorem PD : Le (.agg SJ) (.agg (gl zrc)) := .agg (.cons (.refl _) (.cons (.refl _) (.cons (.nil 1 (by decide)) .nil)))
theorem jy {s : au} {l : List au} {n : Nat} (h : kR (s :: l) = .ok n) : n = kn s /\ n <= (s :: l).length /\ gn s ≠ 0 /\ ig s <= 4096 := by
 by_cases h1 : gn s = 0
 · rw [H7 h1] at h; cases h
 by_cases h2 : 4096 < ig s
 · rw [H8 h1 h2] at h; cases h
 by_cases h3 : (s :: l).length < kn s
 · rw [zT h1 h2 h3] at h; cases h
 cases h4 : ((s :: l).take (kn s)).all (fun x => gn x == gn s) with
 | false => rw [nZ h1 h2 h3 h4] at h; cases h
 | true =>
  rw [tZ h1 h2 h3 h4] at h
  cases h
  exact ⟨rfl, by omega, h1, by omega⟩
theorem ve (s : au) (l : List au) (n : Nat) (hn : 1 <= n) : tE (bb ((s :: l).take n)) = ig s := by
 obtain ⟨m, rfl⟩ : ∃ m, n = m + 1 := ⟨n - 1, by omega⟩
 rw [take_succ_cons, bb, flatMap_cons, tE, ig];have h8 := s.len;generalize s.val = v at h8
 match v, h8 with
 | [a, b, c, d, e, f, g, h], _ => simp [j9]
theorem yg (H : Hp) (V : List Nat) (l : List au) (hl : l.length <= 100000) : CC Tryz.prog 129 [aF l] H V (Pu (UP (gx l)) H V) := by
 refine CC.of_deferX (pre := [_]) Tryz.func129 rfl (by kernel_rfl) (by rw [Tryz.ntmps129]; exact gu _ _ rfl) JR fun hok oH => ab ?_;clear hok;simp [go_sem, ai];refine aa (ab ?_);simp [go_sem];refine aa (ac.callx (pre := [_, _]) (post := []) ?_);simp [go_sem];have hb3 : (H ++ [some [iv 0, iv 0, .v (.slice none 0 0)], some [iv 0], some [iv 0], some SI])[H.length + 3]? = some (some SI) := by rw [aC]; rfl
 have stop : ∀ (k : Nat) (L : Hp) (W : List Nat), gx l = .error k -> CD Tryz.prog 156 [.ptr H.length 0, .ptr (H.length + 1) 0, .ptr (H.length + 2) 0] (tq k)
  (H ++ some [iv 0, iv 0, .v (.slice none 0 0)] :: some [iv 0] :: some [iv 0] :: L) (V ++ W)
  fun H' V' => dN H' H.length fun cs => 3 <= cs.length /\ dN H' (H.length + 1) fun cs_1 => ∃ h : 0 < cs_1.length, dN H' (H.length + 2) fun cs_2 => ∃ h_1 : 0 < cs_2.length,
   ao H.length V.length (Pu (UP (gx l)) H V) (.tup [.agg (cs.take 3), cs_1[0], cs_2[0]]) H' V' := fun k L W hk => by
  refine (C8 _ _ _ _ _ k _ _ _ (by rw [fL]; rfl) (by rw [qY]; rfl) (by rw [qY]; rfl) (by omega) (by omega) (by omega) rfl).mono ?_;rintro _ _ ⟨M, rfl, rfl⟩;simp [go_sem, SJ];rw [hk];exact ao.pu (.tup (.cons PD (.cons (.refl _) (.cons (.refl _) .nil)))) (za _ _ (.error k)) oH (by simp) (by simp)
 refine CX.mono (H5 _ V (H.length + 3) l hb3 (by omega)) ?_ ?_
 case refine_2 =>
  rintro _ _ _ ⟨e, cs, L, W, hbeg, rfl, rfl, rfl⟩;simp [go_sem];exact stop e (some cs :: L) W (by rw [gx, hbeg])
 rintro _ _ _ ⟨s, l', n, hll, hbeg, rfl, rfl, rfl⟩;simp [go_sem];subst hll;obtain ⟨hn, hnl, hg0, hle⟩ := jy hbeg;have hn1 : 1 <= n := by rw [hn, kn]; omega
 have hD : gx (s :: l') = (match rz (bb ((s :: l').take n)) (gn s) with | .error e => .error e | .ok r => .ok (r, n)) := by rw [gx, hbeg]; rfl
 have hst : (bb ((s :: l').take n)).length = 4 * n := by rw [gR, length_take, Nat.min_eq_left hnl]
 have hls : 7 + tE (bb ((s :: l').take n)) <= (bb ((s :: l').take n)).length := by rw [hst, ve _ _ _ hn1, hn, kn]; omega
 generalize bb ((s :: l').take n) = st at hD hst hls ⊢;generalize gx (s :: l') = dx at hD stop ⊢;have hb4 : ∀ c : List UInt8, (H ++ [some [iv 0, iv 0, .v (.slice none 0 0)], some [iv 0], some [iv 0], some (ng c (ci (gn s)) (ci n))])[H.length + 3]? = some (some (ng c (ci (gn s)) (ci n))) := fun c => by rw [aC]; rfl
 refine aa (ac.ghost (T' := [(5, .ptr (H.length + 3) 0), (2, .ptr H.length 0), (3, .ptr (H.length + 1) 0), (4, .ptr (H.length + 2) 0)]) (cL.forget (oT.get (by simp [go_sem]))) ?_);refine ac.drawnY (.f 0 false (.f 1 true (.f 2 false (.f 3 false (.f 4 false (.f 5 false (.s 6 false (.s 7 false (.s 8 false (.n)))) 6 false (.s 5 false (.s 7 false (.s 8 false (.n))))) 6 false (.s 4 false (.s 5 false (.s 7 false (.s 8 false (.n)))))) 6 false (.s 3 false (.s 4 false (.s 5 false (.s 7 false (.s 8 false (.n))))))) 6 false (.s 2 false (.s 3 false (.s 4 false (.s 5 false (.s 7 false (.s 8 false (.n)))))))) 2 false (.f 1 true (.f 3 false (.f 4 false (.f 5 false (.s 6 false (.s 7 false (.s 8 false (.n)))) 6 false (.s 5 false (.s 7 false (.s 8 false (.n))))) 6 false (.s 4 false (.s 5 false (.s 7 false (.s 8 false (.n)))))) 6 false (.s 3 false (.s 4 false (.s 5 false (.s 7 false (.s 8 false (.n))))))) 3 false (.f 1 true (.f 4 false (.f 5 false (.s 6 false (.s 7 false (.s 8 false (.n)))) 6 false (.s 5 false (.s 7 false (.s 8 false (.n))))) 6 false (.s 4 false (.s 5 false (.s 7 false (.s 8 false (.n)))))) 4 false (.f 1 true (.f 5 false (.s 6 false (.s 7 false (.s 8 false (.n)))) 6 false (.s 5 false (.s 7 false (.s 8 false (.n))))) 5 false (.s 1 true (.s 6 false (.s 7 false (.s 8 false (.n))))))))) 2 false (.f 0 false (.f 1 true (.f 3 false (.f 4 false (.f 5 false (.s 6 false (.s 7 false (.s 8 false (.n)))) 6 false (.s 5 false (.s 7 false (.s 8 false (.n))))) 6 false (.s 4 false (.s 5 false (.s 7 false (.s 8 false (.n)))))) 6 false (.s 3 false (.s 4 false (.s 5 false (.s 7 false (.s 8 false (.n))))))) 3 false (.f 1 true (.f 4 false (.f 5 false (.s 6 false (.s 7 false (.s 8 false (.n)))) 6 false (.s 5 false (.s 7 false (.s 8 false (.n))))) 6 false (.s 4 false (.s 5 false (.s 7 false (.s 8 false (.n)))))) 4 false (.f 1 true (.f 5 false (.s 6 false (.s 7 false (.s 8 false (.n)))) 6 false (.s 5 false (.s 7 false (.s 8 false (.n))))) 5 false (.s 1 true (.s 6 false (.s 7 false (.s 8 false (.n)))))))) 3 false (.f 0 false (.f 1 true (.f 4 false (.f 5 false (.s 6 false (.s 7 false (.s 8 false (.n)))) 6 false (.s 5 false (.s 7 false (.s 8 false (.n))))) 6 false (.s 4 false (.s 5 false (.s 7 false (.s 8 false (.n)))))) 4 false (.f 1 true (.f 5 false (.s 6 false (.s 7 false (.s 8 false (.n)))) 6 false (.s 5 false (.s 7 false (.s 8 false (.n))))) 5 false (.s 1 true (.s 6 false (.s 7 false (.s 8 false (.n))))))) 4 false (.f 0 false (.f 1 true (.f 5 false (.s 6 false (.s 7 false (.s 8 false (.n)))) 6 false (.s 5 false (.s 7 false (.s 8 false (.n))))) 5 false (.s 1 true (.s 6 false (.s 7 false (.s 8 false (.n)))))) 5 false (.s 0 false (.s 1 true (.s 6 false (.s 7 false (.s 8 false (.n)))))))))) (by kernel_rfl) (by kernel_rfl) ?_;simp [go_sem, ng]
 repeat' (with_reducible refine And.intro ?_ ?_)
 all_goals
  refine yG rfl rfl (by simp [go_sem]) ?_;simp [go_sem];refine CX.mono (BF _ V (H.length + 3) st (gn s) n (hb4 st) hls (by simp at hl; simp at hnl; omega)) ?_ ?_
  case refine_2 =>
   rintro _ _ _ ⟨e, cs, L, W, hrec, rfl, rfl, rfl⟩;simp [go_sem];exact stop e (some cs :: L) W (by rw [hD, hrec])
  rintro _ _ _ ⟨rec, rest, hrec, rfl, rfl, rfl⟩;rw [hrec] at hD;subst hD;simp [go_sem, ng]
  repeat' (with_reducible refine And.intro ?_ ?_)
  all_goals
   refine ab ?_;simp [go_sem];exact ao.pu (.refl _) (za _ _ (.ok (rec, n))) oH (by simp) (by simp)
def dk : Nat -> List au -> Int -> List cV × Nat
 | 0, _, _ => ([], 0)
 | f + 1, l, sq =>
  if sq < 1 then ([], 0) else
  match gx l with
  | .error _ => ([], 0)
  | .ok (r, n) => if r.sq ≠ sq then ([], 0) else (r :: (dk f (l.drop n) (sq + 1)).1, n + (dk f (l.drop n) (sq + 1)).2)
def dm (l : List au) (sq : Int) : List cV × Nat := dk (l.length + 1) l sq
theorem tP {l : List au} {r : cV} {n : Nat} (h : gx l = .ok (r, n)) : 2 <= n /\ n <= l.length := by
 cases l with
 | nil => rw [gx, qX] at h; cases h
 | cons s l =>
  unfold gx at h
  split at h
  · cases h
  · rename_i m hm
    split at h
    · cases h
    · cases h
      obtain ⟨h1, h2, _⟩ := jy hm;exact ⟨by rw [h1, kn]; omega, h2⟩
theorem HL {l : List au} {e : Nat} (h : gx l = .error e) : e ≠ 0 := by
 have hb : ∀ {l : List au} {e : Nat}, kR l = .error e -> e ≠ 0 := by
  intro l e h
  cases l with
  | nil => rw [qX] at h; cases h; decide
  | cons s l =>
   unfold kR at h;dsimp only at h
   split at h
   · cases h; decide
   · split at h
     · cases h; decide
     · split at h
       · cases h; decide
       · split at h
         · cases h; decide
         · cases h
 unfold gx at h
 split at h
 · rename_i e' he; cases h; exact hb he
 · split at h
   · rename_i e' he
     cases h
     unfold rz at he
     split at he
     · cases he; decide
     · split at he
       · cases he; decide
       · cases he
   · cases h
def DT (l : List au) (sq : Int) (out : List cV) (a : Nat) (f : Nat) : Prop := dm l sq = (out ++ (dk f (l.drop a) (sq + out.length)).1, a + (dk f (l.drop a) (sq + out.length)).2) /\ a <= l.length /\ l.length - a < f /\ out.length <= a
theorem DT.stop {l : List au} {sq : Int} {out : List cV} {a f : Nat} (h : DT l sq out a f) (hs : dk f (l.drop a) (sq + out.length) = ([], 0)) : dm l sq = (out, a) := by
 have := h.1;rw [hs, append_nil] at this;exact this
theorem DT.less {l : List au} {sq : Int} {out : List cV} {a f : Nat} (h : DT l sq out a f) (hs : sq + out.length < 1) : dm l sq = (out, a) := h.stop (by
 cases f with
 | zero => rfl
 | succ f => rw [dk, if_pos hs])
theorem DT.err {l : List au} {sq : Int} {out : List cV} {a f : Nat} {e : Nat} (h : DT l sq out a f) (he : gx (l.drop a) = .error e) : dm l sq = (out, a) := h.stop (by
 cases f with
 | zero => rfl
 | succ f =>
  rw [dk, he]
  split <;> rfl)
theorem DT.other {l : List au} {sq : Int} {out : List cV} {a f : Nat} {r : cV} {n : Nat} (h : DT l sq out a f) (he : gx (l.drop a) = .ok (r, n)) (hr : r.sq ≠ sq + out.length) : dm l sq = (out, a) := h.stop (by
 cases f with
 | zero => rfl
 | succ f =>
  rw [dk, he];dsimp only;rw [if_pos hr]
  split <;> rfl)
theorem DT.next {l : List au} {sq : Int} {out : List cV} {a f : Nat} {r : cV} {n : Nat} (h : DT l sq out a f) (hs : ¬ sq + out.length < 1) (he : gx (l.drop a) = .ok (r, n)) (hr : r.sq = sq + out.length) : ∃ f', DT l sq (out ++ [r]) (a + n) f' := by
 obtain ⟨h1, h2, h3, h4⟩ := h;have hn := tP he;rw [length_drop] at hn
 cases f with
 | zero => omega
 | succ f =>
  refine ⟨f, ?_, by omega, by omega, by rw [length_append, length_singleton]; omega⟩;rw [h1, dk, if_neg hs, he];dsimp only;rw [if_neg (by simpa using hr), drop_drop, length_append, length_singleton];have e : sq + ((out.length + 1 : Nat) : Int) = sq + out.length + 1 := by omega
  rw [e, append_assoc];exact Prod.ext rfl (by show a + (n + _) = a + n + _; omega)
theorem Sh.trim0 {n : Nat} {T T' : Tm} {H0 H : Hp} {V0 V V' : List Nat} (h : oT T T') (hT : wI H0.length V'.length T') (oH : ∀ (b : Nat) cs, H0[b]? = some (some cs) -> okL H0.length V0.length cs) (hV0 : V0.length <= V'.length) (eH : H.take H0.length = H0) (eV : V.take V'.length = V') : Sh n H0.length V0.length T H V (T', H0, V') := by
 have := Sh.trim (n := n) (T := T) (H := H) (L := []) h (by simpa using hT) oH trivial hV0 (by simpa using eH) eV
 simpa using this
def scV (x : List cV × Nat) : CV := .tup [.sl .sh 3 (x.1.map gl), ci x.2]
theorem NB (H : Hp) (V : List Nat) (l : List au) (sq : Int) (hl : l.length <= 100000) (hsq : sq <= 10000000000) (hsq2 : -10000000000 <= sq) : CC Tryz.prog 78 [aF l, iv sq] H V (Pu (scV (dm l sq)) H V) := by
 refine aj Tryz.func78 rfl fun hok oH => ?_;clear hok;refine aa (ab ?_);simp [go_sem, ai];refine aa (ab ?_);simp [go_sem];refine aa (ab ?_);simp [go_sem];refine am (α := List cV × Nat × Nat) (fun x => ([(6, .sl (.own V.length x.2.2) 3 (x.1.map gl)), (7, ci x.2.1)], H, V ++ [x.2.2])) (fun x => dm l sq = (x.1, x.2.1)) ?_ ?_
 · refine af ?_
   refine al (α := List cV × Nat × Nat) (fun x => ([(0, aF l), (1, iv (sq + x.1.length)), (6, .sl (.own V.length x.2.2) 3 (x.1.map gl)), (7, ci x.2.1)], H, V ++ [x.2.2])) (fun x => ∃ f, DT l sq x.1 x.2.1 f) (fun x => l.length - x.2.1) ([], 0, 0) ⟨l.length + 1, by simp [dm], zero_le _, by simp, by simp⟩ (Sh.tokT (by simp [go_sem]) rfl rfl) ?_;rintro ⟨out, a, v⟩ ⟨f, hi⟩;dsimp only at hi ⊢;have hal := hi.2.1;have hol := hi.2.2.2;refine aa (aa (ab ?_))
   by_cases h1 : 1 <= sq + out.length
   case neg =>
    simp [go_sem, h1];refine ab ?_;simp [go_sem];exact ⟨out, a, hi.less (by omega), v, ae (by simp [go_sem]) rfl rfl⟩
   simp [go_sem, h1];refine ab ?_;simp [go_sem];refine af (aa (ab ?_));simp [go_sem, hal];rw [show List.drop a (List.map aE l) = List.map aE (l.drop a) from (map_drop ..).symm];refine ah (yg _ _ (l.drop a) (by rw [length_drop]; omega)) ?_
   cases hd : gx (l.drop a) with
   | error e =>
    have he := HL hd;simp [go_sem, UP];refine aa (aa (ab ?_));simp [go_sem, he];refine ab ?_;simp [go_sem];refine ⟨out, a, hi.err hd, v, Sh.trim0 (by simp [go_sem]) (by simp [go_sem]) oH (by simp) (by simp) (by simp)⟩
   | ok x =>
    obtain ⟨r, n⟩ := x;simp [go_sem, UP];refine aa (aa (ab ?_))
    by_cases hr : r.sq = sq + out.length
    case neg =>
     simp [go_sem, hr];refine ab ?_;simp [go_sem];refine ⟨out, a, hi.other hd hr, v, Sh.trim0 (by simp [go_sem]) (by simp [go_sem]) oH (by simp) (by simp) (by simp)⟩
    obtain ⟨f', hi'⟩ := hi.next (by omega) hd hr;have hn2 := hi'.2.1;have w1 : IntKind.i64.wrap (sq + (out.length : Int) + 1) = sq + (out.length : Int) + 1 := IntWalk.i64_in _ ⟨by omega, by omega⟩;have w2 : IntKind.i64.wrap ((a : Int) + (n : Int)) = (a : Int) + (n : Int) := IntWalk.i64_in _ ⟨by omega, by omega⟩;simp [go_sem, hr];refine ab ?_;simp [go_sem];refine ab ?_;simp [go_sem, w1, w2];have hn0 := tP hd;refine ⟨by omega, out ++ [r], a + n, ⟨f', hi'⟩, by omega, v + 1, Sh.trim0 ?_ (by simp [go_sem, -map_append]) oH (by simp) (by simp) (by simp)⟩;simp [go_sem, show sq + ((out.length : Int) + 1) = sq + (out.length : Int) + 1 by omega]
 rintro ⟨out, a, v⟩ hx;dsimp only at hx ⊢;refine ab ?_;simp [go_sem];rw [hx];exact ao.pu (.tup (.cons (.sh _ _ _) (.cons (.refl _) .nil))) (by rw [scV, aK, okL, okL, okL, gq]; exact ⟨by simp [go_sem], by rw [aK]; trivial, trivial⟩) oH (by simp) (by simp)
theorem zC (H : Hp) (V : List Nat) (s c p n : Int) : CC Tryz.prog 77 [.agg [iv s, iv c], iv p, iv n] H V (fun r H' V' => r = .fn 128 [.ptr (H.length + 2) 0, .ptr (H.length + 1) 0, .ptr H.length 0] /\ H' = H ++ [some [iv s, iv c], some [iv p], some [iv n]] /\ V = V') := by
 refine aj Tryz.func77 rfl fun hok oH => ?_;refine aa (ab ?_);simp [go_sem, ai];refine ab ?_;simp [go_sem];refine ao.cut (H.length + 3) V.length ⟨rfl, rfl, rfl⟩ (by omega) (le_refl _) (take_of_length_le (by simp)) (take_of_length_le (le_refl _)) (.refl _) (by simp [go_sem]) ?_;intro b cs hb;rw [getElem?_append] at hb
 split at hb
 · exact aO (by omega) (le_refl _) (oH b cs hb)
 · exact cK (i := H.length + 3) (j := V.length) (L := [some [iv s, iv c], some [iv p], some [iv n]]) (by simp [go_sem]) _ _ hb
theorem vD (H : Hp) (V : List Nat) (L b1 b2 b3 : Nat) (s c p : Int) (n : Nat) (hv : bf s c = true) (hp : 0 <= p) (hp2 : p <= 1000000) (hn : n <= 1000000) (I : Nat -> Hp -> List Nat -> Prop) (h0 : I 0 H V)
 (hI : ∀ i H V, I i H V -> H[b1]? = some (some [iv (n : Int)]) /\ H[b2]? = some (some [iv p]) /\ H[b3]? = some (some [iv s, iv c]))
 (hy : ∀ i, i < n -> ∀ H V, I i H V -> YC Tryz.prog L [iv ((p + i) % (c - 16))] H V (fun r H' V' => r = .v (.bool true) /\ I (i + 1) H' V')) :
 CC Tryz.prog 128 [.yl L, .ptr b1 0, .ptr b2 0, .ptr b3 0] H V (fun _ H' V' => I n H' V') := by
 have hvi := (aM s c).1 hv;refine aj Tryz.func128 rfl fun hok oH => ?_;clear hok;obtain ⟨g1, _, _⟩ := hI _ _ _ h0;refine aa (ab ?_);simp [go_sem, ai, ak g1];refine af ?_;refine al (α := Nat × Hp × List Nat) (fun x => ([(0, .yl L), (2, .ptr b2 0), (3, .ptr b3 0), (6, iv (n : Int)), (7, ci x.1)], x.2.1, x.2.2)) (fun x => x.1 <= n /\ I x.1 x.2.1 x.2.2) (fun x => n - x.1) (0, H, V) ⟨by omega, h0⟩ (ae (by simp [go_sem]) rfl rfl) ?_;rintro ⟨i, H1, V1⟩ ⟨hi, hi1⟩;dsimp only at hi hi1 ⊢;obtain ⟨g1, g2, g3⟩ := hI _ _ _ hi1;refine aa (ab ?_);simp [go_sem];refine aa (ab ?_);simp [go_sem];refine ⟨fun h => ?_, fun h => ?_⟩
 case refine_2 =>
  obtain rfl : i = n := by omega
  exact ao.self hi1
 refine aa (af (aa (ab ?_)));simp [go_sem];have w1 : IntKind.i64.wrap (p + (i : Int)) = p + (i : Int) := IntWalk.i64_in _ ⟨by omega, by omega⟩;have t1 := Int.tmod_eq_emod_of_nonneg (b := c - 16) (show 0 <= p + (i : Int) by omega);have hz : ¬ c - 16 = 0 := by omega
 refine aa (az [b2, b3] [7] (.s 0 .pl <| .s 1 .ld <| .s 2 .pl <| .s 3 .pl <| .s 4 .ld <| .s 5 .pl <| .s 6 .pl <| .s 7 .st <| .s 8 .pl <| .n) ?_);simp [go_sem, ak g2, ak g3, w1];refine ah (b6 _ _ _ _ hv) ?_;simp [go_sem, t1, hz];refine YC.mono (hy i h _ _ hi1) ?_;rintro _ H2 V2 ⟨rfl, hi2⟩;obtain ⟨k1, k2, k3⟩ := hI _ _ _ hi2;simp [go_sem];refine ⟨Kp.keep fun b hb => ?_, ?_⟩
 · rcases mem_cons.1 hb with rfl | hb
   · rw [g2, k2]
   · obtain rfl : b = b3 := by simpa using hb
     rw [g3, k3]
 refine ab ?_;simp [go_sem];refine ab ?_;simp [go_sem];refine ⟨i + 1, H2, V2, ⟨by omega, hi2⟩, by omega, ae ?_ rfl rfl⟩;simp [go_sem, aq (show i <= 1000000000 by omega)]
def se (M : List Bool) : List CV := M.map fun b => CV.v (.bool b)
@[go_sem, simp] theorem acq (M : List Bool) : (se M).length = M.length := length_map ..
@[go_sem] theorem mkC_get (M : List Bool) (i : Nat) (h : i < (se M).length) : (se M)[i] = CV.v (.bool (M[i]'(by simpa using h))) := by simp [se]
theorem KJ (M : List Bool) (i : Nat) (b : Bool) (h : i < M.length) : (se M).take i ++ CV.v (.bool b) :: (se M).drop (i + 1) = se (M.set i b) := by
 rw [set_eq_take_append_cons_drop, if_pos h];simp [se]
@[go_sem] theorem J6 (i j : Nat) : ∀ M : List Bool, okL i j (se M) = True
 | [] => by rw [se, map_nil, okL]
 | b :: l => by rw [se, map_cons, okL, aK]; exact (true_and _).trans (J6 i j l)
def eD (n tl nxt : Int) (ct : List au) : Nat -> List Bool
 | 0 => List.replicate n.toNat false
 | i + 1 => (eD n tl nxt ct i).set ((tl + i) % n).toNat (decide (nxt <= (gn (ct.getD ((tl + i) % n).toNat aP) : Int)))
theorem jh (n tl nxt : Int) (ct : List au) : ∀ i, (eD n tl nxt ct i).length = n.toNat
 | 0 => by rw [eD, length_replicate]
 | i + 1 => by rw [eD, length_set, jh n tl nxt ct i]
def iX : List Bool -> Nat
 | true :: l => iX l + 1
 | _ => 0
def dV (s : Int) : Nat -> List Bool -> Nat -> List bO
 | 0, _, _ => []
 | f + 1, M, p => if M.length <= p then [] else if iX (M.drop p) = 0 then dV s f M (p + 1) else dG (s + 16 + p) (List.replicate (iX (M.drop p)) aP) :: dV s f M (p + iX (M.drop p) + 1)
def oL (j : bW) (ct : List au) : List bO :=
 let M := eD (j.count - 16) j.tail (ax j) ct (gB j).toNat
 let r := dV j.start (M.length + 1) M 0
 if r = [] then [] else r ++ [cO]
theorem oY : ∀ l : List Bool, iX l <= l.length
 | [] => le_refl _
 | true :: l => by rw [iX, length_cons]; have := oY l; omega
 | false :: l => zero_le _
theorem te : ∀ (l : List Bool) (k : Nat), k < iX l -> l[k]? = some true
 | [], k, h => absurd h (Nat.not_lt_zero _)
 | true :: l, 0, _ => rfl
 | true :: l, k + 1, h => by rw [getElem?_cons_succ]; exact te l k (by rw [iX] at h; omega)
 | false :: l, k, h => absurd h (Nat.not_lt_zero _)
theorem tf : ∀ l : List Bool, l[iX l]? ≠ some true
 | [] => by simp
 | true :: l => by rw [iX, getElem?_cons_succ]; exact tf l
 | false :: l => by simp [iX]
def NC (s : Int) (M : List Bool) (p : Nat) (ops : List bO) : Prop := ∃ f, dV s (M.length + 1) M 0 = ops ++ dV s f M p /\ M.length - p < f
theorem NC.stop {s : Int} {M : List Bool} {p : Nat} {ops : List bO} (h : NC s M p ops) (hp : M.length <= p) : dV s (M.length + 1) M 0 = ops := by
 obtain ⟨f, h1, h2⟩ := h
 cases f with
 | zero => omega
 | succ f => rw [h1, dV, if_pos hp, append_nil]
theorem NC.zero {s : Int} {M : List Bool} {p : Nat} {ops : List bO} (h : NC s M p ops) (hp : p < M.length) (hr : iX (M.drop p) = 0) : NC s M (p + 1) ops := by
 obtain ⟨f, h1, h2⟩ := h
 cases f with
 | zero => omega
 | succ f => exact ⟨f, by rw [h1, dV, if_neg (by omega), if_pos hr], by omega⟩
theorem NC.run {s : Int} {M : List Bool} {p : Nat} {ops : List bO} (h : NC s M p ops) (hp : p < M.length) (hr : iX (M.drop p) ≠ 0) : NC s M (p + iX (M.drop p) + 1) (ops ++ [dG (s + 16 + p) (List.replicate (iX (M.drop p)) aP)]) := by
 obtain ⟨f, h1, h2⟩ := h
 cases f with
 | zero => omega
 | succ f => exact ⟨f, by rw [h1, dV, if_neg (by omega), if_neg hr, append_assoc]; rfl, by omega⟩
theorem j5.app {bx : Nat} {cs : List CV} {a b : List (List CV)} {c d : List (List CV)} : j5 bx cs a b -> j5 bx cs c d -> j5 bx cs (a ++ c) (b ++ d)
 | .nil, h => h
 | .cons h t, g => .cons h (j5.app t g)
theorem Fk.run (b K : Nat) (tk : Tk) (ops : List bO) (at' : Int) : Fk b (aQ (List.replicate K aP)) (.sl tk 3 (ops.map fN ++ [[iv 0, iv at', .bsl b 0 K 8]])) (.sl tk 3 ((ops ++ [dG at' (List.replicate K aP)]).map fN)) := by
 rw [map_append];exact .slk _ _ (j5.app (j5.rfl' _ _ _) (.cons (.cons (.refl _) (.cons (.refl _) (.cons (Fy.zeros _ _) .nil))) .nil))
abbrev HM (H : Hp) (j : bW) (u : Int) (ct : List au) (M : List Bool) (n : Nat) (x1 x2 x3 lp : Option (List CV)) : Hp := H ++ (some (iu j u) :: some [aF ct] :: some (se M) :: some [.bsl (H.length + 2) 0 n 1] :: x1 :: x2 :: x3 :: lp :: [])
theorem BB (H : Hp) (V : List Nat) (j : bW) (ct : List au) (h : cE j = true) (hc : ct.length = (j.count - 16).toNat) : CC Tryz.prog 82 [.agg (iu j (ay j.sizes)), aF ct] H V (Pu (gp (oL j ct)) H V) := by
 refine CC.of_swp0 Tryz.func82 rfl (by kernel_rfl) (by rw [Tryz.ntmps82]; exact gu _ _ rfl) fun hok oH => ?_
 have hn := fI h
 have hsu := kN h
 have hva := kM h
 have hv := (aM _ _).1 hva
 have ht := sL h
 obtain ⟨n, hnn⟩ : ∃ n : Nat, j.count - 16 = (n : Int) := ⟨(j.count - 16).toNat, by omega⟩
 obtain ⟨f, hff⟩ : ∃ f : Nat, j.count - 16 - ay j.sizes = (f : Int) := ⟨(j.count - 16 - ay j.sizes).toNat, by omega⟩
 refine aw (aD (ab ?_))
 simp -implicitDefEqProofs [go_sem, ai]
 refine aw (aD (ab ?_))
 simp -implicitDefEqProofs [go_sem]
 refine CC.mono (b6 _ _ _ _ hva) ?_
 rintro _ _ _ ⟨rfl, rfl, rfl⟩
 simp -implicitDefEqProofs [go_sem, hnn]
 refine ⟨by omega, ?_⟩
 refine aL.join (α := Unit) (fun _ => ([(2, .ptr H.length 0), (5, .ptr (H.length + 3) 0)], H ++ [some (iu j (ay j.sizes)), some [aF ct], some (se (eD n j.tail (ax j) ct f)), some [.bsl (H.length + 2) 0 n 1]], V)) (fun _ => True) ?_ ?_
 · refine aw (aD (az [] [] (.s 0 .pl <| .s 1 .pl <| .s 2 .pl <| .s 3 .pl <| .s 4 .pl <| .s 5 .pl <| .s 6 .pl <| .s 7 .pl <| .n) ?_))
   simp -implicitDefEqProofs [go_sem]
   refine CC.mono (zD _ _ _ _ hva hsu.1 (by omega)) ?_
   rintro _ _ _ ⟨rfl, rfl, rfl⟩
   simp -implicitDefEqProofs [go_sem, hff]
   refine CC.mono (zC _ _ _ _ _ _) ?_
   rintro _ _ _ ⟨rfl, rfl, rfl⟩
   simp -implicitDefEqProofs [go_sem]
   refine aL.block (aL.range [(2, .ptr H.length 0), (3, .ptr (H.length + 1) 0), (5, .ptr (H.length + 3) 0)] rfl (by simp [go_sem]) ?_)
   simp -implicitDefEqProofs [go_sem]
   generalize hbd : Code.block 1 _ = bd
   generalize has : Code.region 3 _ _ = asg
   refine CC.mono (vD _ V _ _ _ _ j.start j.count j.tail f hva ht.1 (by omega) (by omega) (fun i G V' => V = V' /\ G = HM H j (ay j.sizes) ct (eD n j.tail (ax j) ct i) n (some [iv j.start, iv j.count]) (some [iv j.tail]) (some [iv f]) (some [fQ 79 #[22] asg bd [(2, .ptr H.length 0), (3, .ptr (H.length + 1) 0), (5, .ptr (H.length + 3) 0)] .ready none]))
    ⟨rfl, by simp [eD, se]⟩ ?_ ?_) ?_
   · rintro i _ V' ⟨rfl, rfl⟩
     exact ⟨aC _ _ 6, aC _ _ 5, aC _ _ 4⟩
   · rintro i hi _ V' ⟨rfl, rfl⟩
     refine YC.of_round (n := 79) (ps := #[22]) (bd := bd) (T := [(2, .ptr H.length 0), (3, .ptr (H.length + 1) 0), (5, .ptr (H.length + 3) 0)]) (aC _ _ 7) rfl (by decide) ?_
     subst hbd has
     rw [hnn]
     have hq1 := Int.emod_nonneg (j.tail + (i : Int)) (show (n : Int) ≠ 0 by omega)
     have hq2 := Int.emod_lt_of_pos (j.tail + (i : Int)) (show 0 < (n : Int) by omega)
     have hM := jh n j.tail (ax j) ct i
     have hmx : eD n j.tail (ax j) ct (i + 1) = (eD n j.tail (ax j) ct i).set ((j.tail + i) % (n : Int)).toNat (decide (ax j <= (gn (ct.getD ((j.tail + i) % (n : Int)).toNat aP) : Int))) := rfl
     rw [hmx]
     generalize eD n j.tail (ax j) ct i = M at hM ⊢
     obtain ⟨q, hqq⟩ : ∃ q : Nat, (j.tail + (i : Int)) % (n : Int) = (q : Int) := ⟨((j.tail + (i : Int)) % (n : Int)).toNat, by omega⟩
     rw [hqq] at hq1 hq2 ⊢
     rw [Int.toNat_natCast]
     have hqc : q < ct.length := by omega
     have hqn : q < n := by omega
     have hgd : ct.getD q aP = ct[q] := by rw [getD_eq_getElem?_getD, getElem?_eq_getElem hqc]; rfl
     rw [hgd]
     refine ab ?_
     simp -implicitDefEqProofs [go_sem, yD]
     refine af ?_
     generalize hlp : fQ 79 #[22] _ _ _ LoopState.busy none = lp
     generalize hqqq : RQ 79 #[22] _ _ _ _ _ = QQ
     refine az [] [11] (.s 0 .pl <| .s 1 .pl <| .s 2 .pl <| .s 3 .pl <| .s 4 .pl <| .s 5 .pl <| .s 7 .pl <| .s 6 .pl <| .s 8 .pl <| .s 9 .pl <| .s 10 .pl <| .s 11 .st <| .n) ?_
     simp -implicitDefEqProofs [go_sem, hqc, hqn]
     refine CC.mono (xt _ _ ct[q]) ?_
     rintro _ _ _ ⟨rfl, rfl, rfl⟩
     simp -implicitDefEqProofs [go_sem]
     refine CC.mono (mB _ _ j _ hn.1 hn.2) ?_
     rintro _ _ _ ⟨rfl, rfl, rfl⟩
     have hMn : M.length = n := by simpa using hM
     simp -implicitDefEqProofs [go_sem, hqn, hMn]
     rw [KJ _ _ _ (by omega), <- hqqq, <- hlp]
     exact ⟨by omega, aC _ _ 7, rfl, rfl, by simp⟩
   · rintro _ _ V' ⟨rfl, rfl⟩
     refine .inl ⟨aC _ _ 7, ?_⟩
     refine Sh.trim (L := [some (iu j (ay j.sizes)), some [aF ct], some (se (eD n j.tail (ax j) ct f)), some [.bsl (H.length + 2) 0 n 1]]) (by simp [go_sem]) (by simp [go_sem]) oH (by simp [go_sem]) (le_refl _) (by simp) (by simp)
 rintro _ -
 dsimp only
 have hM := jh n j.tail (ax j) ct f
 have hR : oL j ct = if dV j.start ((eD n j.tail (ax j) ct f).length + 1) (eD n j.tail (ax j) ct f) 0 = [] then [] else dV j.start ((eD n j.tail (ax j) ct f).length + 1) (eD n j.tail (ax j) ct f) 0 ++ [cO] := by
  rw [oL, gB, hff, hnn, Int.toNat_natCast]
 generalize eD n j.tail (ax j) ct f = M at hM hR ⊢
 have hMn : M.length = n := by simpa using hM
 obtain ⟨B, hB⟩ : ∃ B : Hp, B = [some (iu j (ay j.sizes)), some [aF ct], some (se M), some [.bsl (H.length + 2) 0 n 1]] := ⟨_, rfl⟩
 have hBok : wD (H.length + B.length) V.length B := by rw [hB]; simp [go_sem]
 have hBok' : ∀ k, V.length <= k -> wD (H.length + 4) k [some (iu j (ay j.sizes)), some [aF ct], some (se M), some [.bsl (H.length + 2) 0 n 1]] := fun k _ => by simp [go_sem]
 refine aw (aD (ab ?_))
 simp -implicitDefEqProofs [go_sem]
 refine aD ?_
 refine am (α := List bO × Nat) (fun x => ([(7, .sl (.own V.length x.2) 3 (x.1.map fN))], H, V ++ [x.2])) (fun x => dV j.start (M.length + 1) M 0 = x.1 /\ x.1.length <= 1000000) ?_ ?_
 · refine aa (ab ?_)
   simp -implicitDefEqProofs [go_sem]
   refine af ?_
   refine al (α := Nat × List bO × Nat) (fun x => ([(2, .ptr H.length 0), (5, .ptr (H.length + 3) 0), (7, .sl (.own V.length x.2.2) 3 (x.2.1.map fN)), (8, ci x.1)], H ++ B, V ++ [x.2.2])) (fun x => NC j.start M x.1 x.2.1 /\ x.2.1.length <= x.1 /\ x.1 <= n + 1) (fun x => n + 1 - x.1) (0, [], 0) ⟨⟨M.length + 1, rfl, by omega⟩, by simp, by omega⟩ (Sh.tokT (by simp [go_sem]) (by rw [hB]) rfl) ?_
   rintro ⟨p, ops, v⟩ ⟨hI, hol, hpn⟩
   dsimp only at hI hol hpn ⊢
   refine aa (aa (ab ?_))
   subst hB
   by_cases hp : p < n
   case neg =>
    simp -implicitDefEqProofs [go_sem, hp]
    refine ab ?_
    simp -implicitDefEqProofs [go_sem]
    refine ⟨ops, ⟨hI.stop (by omega), by omega⟩, v, Sh.trim0 (by simp [go_sem]) (by simp [go_sem]) oH (by simp) (by simp) (by simp)⟩
   simp -implicitDefEqProofs [go_sem, hp]
   refine ab ?_
   simp -implicitDefEqProofs [go_sem]
   refine aa (af (aa (ab ?_)))
   simp -implicitDefEqProofs [go_sem]
   obtain ⟨K, hK⟩ : ∃ K, K = iX (M.drop p) := ⟨_, rfl⟩
   have hKl : p + K <= n := by have := oY (M.drop p); rw [length_drop, <- hK] at this; omega
   refine am (α := Unit) (fun _ => ([(2, .ptr H.length 0), (5, .ptr (H.length + 3) 0), (7, .sl (.own V.length v) 3 (ops.map fN)), (8, ci p), (9, ci K)], H ++ [some (iu j (ay j.sizes)), some [aF ct], some (se M), some [.bsl (H.length + 2) 0 n 1]], V ++ [v])) (fun _ => True) ?_ ?_
   · refine af ?_
     refine al (α := Nat) (fun k => ([(2, .ptr H.length 0), (5, .ptr (H.length + 3) 0), (7, .sl (.own V.length v) 3 (ops.map fN)), (8, ci p), (9, ci k)], H ++ [some (iu j (ay j.sizes)), some [aF ct], some (se M), some [.bsl (H.length + 2) 0 n 1]], V ++ [v])) (fun k => k <= K) (fun k => K - k) 0 (zero_le _) (ae (by simp [go_sem]) rfl rfl) ?_
     intro k hk
     dsimp only
     have w1 : IntKind.i64.wrap ((p : Int) + (k : Int)) = (p : Int) + (k : Int) := IntWalk.i64_in _ ⟨by omega, by omega⟩
     refine aa (aa (ab ?_))
     by_cases hpk : p + k < n
     case neg =>
      have hpk' : ¬ (p : Int) + (k : Int) < (n : Int) := by omega
      simp -implicitDefEqProofs [go_sem, w1, hpk']
      refine ab ?_
      simp -implicitDefEqProofs [go_sem]
      obtain rfl : k = K := by omega
      exact ae (by simp [go_sem]) rfl rfl
     have hpk' : (p : Int) + (k : Int) < (n : Int) := by omega
     have hpm : p + k < M.length := by omega
     have hgt : M[p + k]? = (M.drop p)[k]? := by rw [getElem?_drop]
     have et : ((p : Int) + (k : Int)).toNat = p + k := by omega
     by_cases hkK : k < K
     · have hm : M[p + k] = true := by
        have := te (M.drop p) k (by omega)
        rw [<- hgt, getElem?_eq_getElem hpm] at this
        exact Option.some.inj this
       simp -implicitDefEqProofs [go_sem, w1, hpk', hpk, hMn, et]
       refine ⟨by omega, ?_⟩
       rw [hm]
       refine ab ?_
       simp -implicitDefEqProofs [go_sem]
       refine af (ab ?_)
       simp -implicitDefEqProofs [go_sem]
       refine ⟨k + 1, by omega, by omega, ae ?_ rfl rfl⟩
       simp [go_sem, aq (show k <= 1000000000 by omega)]
     · obtain rfl : k = K := by omega
       have hm : M[p + k] = false := by
        have := tf (M.drop p)
        rw [<- hK, <- hgt, getElem?_eq_getElem hpm] at this
        simpa using this
       simp -implicitDefEqProofs [go_sem, w1, hpk', hpk, hMn, et]
       refine ⟨by omega, ?_⟩
       rw [hm]
       refine ab ?_
       simp -implicitDefEqProofs [go_sem]
       exact ae (by simp [go_sem]) rfl rfl
   rintro _ -
   dsimp only
   refine aa (ab ?_)
   simp -implicitDefEqProofs [go_sem]
   by_cases hK0 : K = 0
   · simp -implicitDefEqProofs [go_sem, hK0]
     refine ab ?_
     simp -implicitDefEqProofs [go_sem]
     refine ab ?_
     simp -implicitDefEqProofs [go_sem]
     refine ⟨p + 1, ops, ⟨hI.zero (by omega) (by omega), by omega, by omega⟩, by omega, v, ae ?_ rfl rfl⟩
     simp [go_sem, aq (show p <= 1000000000 by omega)]
   have hK0' : 0 < K := by omega
   simp -implicitDefEqProofs [go_sem, hK0']
   refine ac.condT (by simp [go_sem]) ?_
   have w1 : IntKind.i64.wrap ((p : Int) + (K : Int)) = (p : Int) + (K : Int) := IntWalk.i64_in _ ⟨by omega, by omega⟩
   refine aa (az [] [] (.s 0 .pl <| .s 1 .pl <| .s 2 .pl <| .s 3 .pl <| .s 5 .pl <| .c 4 <| .s 6 .pl <| .s 7 .pl <| .s 8 .pl <| .s 9 .pl <| .s 10 .pl <| .n) ?_)
   simp -implicitDefEqProofs [go_sem]
   refine ⟨_, fun H V => kV H V j.start j.count p hva (by omega) (by omega), ?_⟩
   simp -implicitDefEqProofs [go_sem, -List.reduceReplicate]
   refine ⟨by omega, by omega, ?_⟩
   have hz := eG K
   simp only [map_cons, map_nil] at hz
   rw [hz]
   have w2 : IntKind.i64.wrap ((p : Int) + (K : Int) + 1) = (p : Int) + (K : Int) + 1 := IntWalk.i64_in _ ⟨by omega, by omega⟩
   refine ab ?_
   simp -implicitDefEqProofs [go_sem, w1]
   refine ab ?_
   simp -implicitDefEqProofs [go_sem, w2]
   have hI' := hI.run (by omega) (show iX (M.drop p) ≠ 0 by omega)
   rw [<- hK] at hI'
   refine ⟨p + K + 1, _, ⟨hI', by simp; omega, by omega⟩, by omega, v + 1, ?_⟩
   refine cL.trans (T' := [(2, .ptr H.length 0), (5, .ptr (H.length + 3) 0), (7, .sl (.own V.length (v + 1)) 3 ((ops ++ [dG (j.start + 16 + p) (List.replicate K aP)]).map fN)), (8, ci (p + K + 1 : Nat))]) (cL.freezeK (b := H.length + 4) (cs := aQ (List.replicate K aP)) (by rw [aC]; rfl) (OZ.get ⟨by simp [go_sem], by simp [go_sem], Fk.run _ _ _ _ _, by simp [go_sem], trivial⟩)) ?_
   exact Sh.trim (L := [some (iu j (ay j.sizes)), some [aF ct], some (se M), some [.bsl (H.length + 2) 0 n 1]]) (by simp [go_sem]) (by simp [go_sem, -map_append]) oH (hBok' _ (by simp)) (by simp) (by simp) (by simp)
 rintro ⟨ops, v⟩ ⟨hx, hl⟩
 dsimp only at hx hl ⊢
 rw [hx] at hR
 rw [hR]
 refine aa (aa (ab ?_))
 by_cases ho : ops = []
 · subst ho
   simp -implicitDefEqProofs [go_sem]
   refine ab ?_
   simp -implicitDefEqProofs [go_sem]
   refine ab ?_
   simp -implicitDefEqProofs [go_sem]
   exact ao.pu (.sh _ _ _) (by rw [gq, eF]; trivial) oH (by simp) (by simp)
 have ho' : 0 < ops.length := length_pos_iff.2 ho
 have ho2 : ¬ (ops.length : Int) = 0 := by omega
 simp -implicitDefEqProofs [go_sem, ho']
 refine ab ?_
 simp -implicitDefEqProofs [go_sem]
 refine ⟨by omega, ab ?_⟩
 simp -implicitDefEqProofs [go_sem]
 rw [if_neg ho]
 exact ao.pu (.sle _ _ (y6 ops)) (by rw [gq, eF]; trivial) oH (by simp) (by simp)
end Go.Proofs.YtfflhepmkhlppaaGreatDoor
