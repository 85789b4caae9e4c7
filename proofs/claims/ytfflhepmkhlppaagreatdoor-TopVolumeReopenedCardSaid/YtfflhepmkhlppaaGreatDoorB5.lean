import Derived.Test.YtfflhepmkhlppaaGreatDoorB4
import Derived.Test.YtfflhepmkhlppaaGreatDoorB3
set_option linter.unusedSimpArgs false
set_option linter.unusedVariables false
set_option linter.unusedSectionVars false
set_option maxRecDepth 8000
set_option maxHeartbeats 4000000
open List (all_append all_cons all_eq_true all_map any_eq_true append_assoc append_nil cons_append contains_iff_mem drop_append_of_le_length drop_drop drop_eq_getElem_cons drop_eq_nil_of_le drop_of_length_le drop_one drop_succ_cons drop_take drop_zero eq_nil_of_length_eq_zero ext_getElem ext_getElem? filter_cons flatMap_append flatMap_cons flatMap_nil flatten_append flatten_cons flatten_nil foldl_append foldl_cons getD_eq_getElem?_getD getElem?_append getElem?_append_left getElem?_append_right getElem?_cons_succ getElem?_cons_zero getElem?_drop getElem?_eq_getElem getElem?_eq_none getElem?_map getElem?_of_mem getElem?_replicate getElem?_set getElem?_set_ne getElem?_set_self getElem?_take getElem?_toArray getElem_drop getElem_map getElem_mem getElem_of_mem getElem_set length_append length_cons length_drop length_eq_zero_iff length_map length_nil length_pos_iff length_range length_replicate length_set length_singleton length_take mapM_cons map_append map_congr_left map_cons map_drop map_map map_nil map_set map_take mem_append mem_append_left mem_cons mem_cons_of_mem mem_cons_self mem_flatten mem_map mem_of_getElem? mem_of_mem_drop mem_of_mem_take mem_range mem_replicate mem_singleton nil_append not_mem_nil prefix_refl range_succ replicate_succ replicate_succ' set_append_left set_append_right set_eq_take_append_cons_drop set_getElem_self set_set size_toArray take_append take_append_drop take_append_of_le_length take_left take_length take_of_length_le take_set_of_le take_succ_cons take_succ_eq_append_getElem take_take take_zero zip_cons_cons)
open Nat (le_refl zero_le)
namespace Go.Proofs.YtfflhepmkhlppaaGreatDoor
open Go.Proofs
def ij (l : bX) (ws : List Wr) : bX × Nat × Nat := if aN (aB l) ≠ 0 then ([], 0, aN (aB l)) else t6 l ws 0
def OW (x : bX × Nat × Nat) : CV := .tup [F9 x.1, ci x.2.1, er x.2.2]
theorem zb (i j : Nat) (x : bX × Nat × Nat) : aK i j (OW x) := by
 rw [OW, aK, okL, okL, okL, okL];simp [go_sem, okL, aK]
theorem zu (H : Hp) (k : bX) (j : Nat) (h : j < k.length) : (H ++ rE k)[H.length + j]? = some (some (aQ k[j])) := by
 rw [aC, rE, getElem?_map, getElem?_eq_getElem h]; rfl
theorem nl {l : bX} (h : aN (aB l) = 0) : l.length <= 8 /\ ∀ v ∈ l, v ≠ [] /\ v.length <= 4096 := by
 obtain ⟨s1, s2, s3⟩ := dj h;rw [aB, length_map] at s2;refine ⟨by omega, fun v hv => ?_⟩;have := s3 (v.length : Int) (mem_map.2 ⟨v, hv, rfl⟩);refine ⟨fun e => ?_, by omega⟩;rw [e] at this; simp at this
theorem pg {k : bX} {w : Wr} (h : aS (aB k) w = 0) : ∃ n : Nat, w.volume = (n : Int) /\ ∃ hn : n < k.length, w.data.length ≠ 0 /\ ∃ p : Nat, w.start = (p : Int) /\ p + w.data.length <= k[n].length := by
 unfold aS at h;rw [aB, length_map] at h
 split at h
 · cases h
 · rename_i h1
   split at h
   · cases h
   · rename_i h2
     split at h
     · cases h
     · rename_i h3
       obtain ⟨n, hn⟩ := Int.eq_ofNat_of_zero_le (show 0 <= w.volume by omega);obtain ⟨p, hp⟩ := Int.eq_ofNat_of_zero_le (show 0 <= w.start by omega);have hnk : n < k.length := by omega
       have hg := jW k n hnk;rw [aB] at hg;rw [hn, Int.toNat_natCast, hg] at h3;exact ⟨n, hn, hnk, h2, p, hp, by omega⟩
theorem zW (k : bX) (w : Wr) : (j3 k w).length = k.length := length_set ..
theorem t8 {k : bX} {w : Wr} (h : aS (aB k) w = 0) : (j3 k w).map List.length = k.map List.length := by
 obtain ⟨n, hvn, hnk, hd0, p, hpn, hpl⟩ := pg h;rw [j3, hvn, hpn, Int.toNat_natCast, Int.toNat_natCast, getD_eq_getElem?_getD, getElem?_eq_getElem hnk, Option.getD_some, map_set, E5 hpl];apply ext_getElem
 · simp
 · intro i h1 h2
   by_cases e : n = i
   · subst e; simp
   · simp [List.getElem_set_ne e]
theorem FI (b : Nat) (k : bX) (jb jv : Nat) (h : b + k.length <= jb) : fO jb jv (ln b k) := pa jb jv b k h
theorem zg (i j : Nat) : ∀ l : bX, wD i j (rE l)
 | [] => trivial
 | v :: l => ⟨by rw [nD]; trivial, zg i j l⟩
theorem KY (H : Hp) (k : bX) (n : Nat) (v : List au) : (H ++ rE k).set (H.length + n) (some (aQ v)) = H ++ rE (k.set n v) := by
 rw [set_append_right _ _ (by omega), Nat.add_sub_cancel_left, rE, rE, map_set]
theorem ki.rflI (b : Nat) (cs : List CV) : ∀ l : List CV, ki b cs l l
 | [] => .nil
 | c :: l => .cons (.refl c) (ki.rflI b cs l)
theorem j5.rflI (b : Nat) (cs : List CV) : ∀ l : List (List CV), j5 b cs l l
 | [] => .nil
 | c :: l => .cons (ki.rflI b cs c) (j5.rflI b cs l)
theorem j5.appI {bx : Nat} {cs : List CV} {a b : List (List CV)} {c d : List (List CV)} : j5 bx cs a b -> j5 bx cs c d -> j5 bx cs (a ++ c) (b ++ d)
 | .nil, h => h
 | .cons h t, g => .cons h (j5.appI t g)
theorem zv {n nb nv b : Nat} {V : List Nat} {cs : List CV} : ∀ (l d : bX) (H : Hp) (tk : Tk), (∀ j (h : j < l.length), H[b + d.length + j]? = some (some (aQ l[j]))) →
 ∃ H' : Hp, H'.take b = H.take b /\ cL n nb nv [(0, .tup (.sl tk 1 (d.map eB ++ ln (b + d.length) l) :: cs))] H V [(0, .tup (.sl .sh 1 ((d ++ l).map eB) :: cs))] H' V
 | [], d, H, tk, h => ⟨H, rfl, cL.forget fun p hp => by
  obtain rfl : p = _ := by simpa using hp
  simp only [bt, if_pos, ln, append_nil];exact .tup (.cons (.sh _ _ _) (jD.refl cs))⟩
 | v :: l, d, H, tk, h => by
  have h0 : H[b + d.length]? = some (some (aQ v)) := h 0 (by simp);obtain ⟨H', h1, h2⟩ := zv (n := n) (nb := nb) (nv := nv) (b := b) (V := V) (cs := cs) l (d ++ [v]) (H.set (b + d.length) none) .sh (fun j hj => by
   rw [length_append, length_singleton, getElem?_set_ne (by omega)];have := h (j + 1) (by simpa using hj);rw [show b + (d.length + 1) + j = b + d.length + (j + 1) by omega, this]
   rfl)
  refine ⟨H', by rw [h1, take_set_of_le (by omega)], cL.trans (T' := [(0, .tup (.sl .sh 1 (d.map eB ++ (eB v :: ln (b + d.length + 1) l)) :: cs))]) (cL.freezeY h0 fun p hp => ?_) ?_⟩
  · obtain rfl : p = _ := by simpa using hp
    simp only [bt, if_pos, ln];have := Fy.bsl (b := b + d.length) (cs := aQ v) 0 v.length 8 (by rw [AU]; omega);rw [drop_zero, cU] at this;exact .tup (.cons (.sl _ _ (j5.appI (j5.rflI _ _ _) (.cons (.cons this .nil) (j5.rflI _ _ _)))) (ki.rflI _ _ _))
  · have e1 : d.map eB ++ (eB v :: ln (b + d.length + 1) l) = (d ++ [v]).map eB ++ ln (b + (d ++ [v]).length) l := by simp [Nat.add_assoc]
    rw [e1];rw [append_assoc] at h2;exact h2
theorem LX {H : Hp} {V V' : List Nat} {tk : Tk} {k : bX} {a b : Nat} (oH : ∀ (b : Nat) cs, H[b]? = some (some cs) -> okL H.length V.length cs) (hV : V'.take V.length = V) :
 ao H.length V.length (Pu (OW (k, a, b)) H V) (.tup [.sl tk 1 (ln H.length k), ci a, er b]) (H ++ rE k) V' := by
 obtain ⟨H', h1, h2⟩ := zv (n := 1) (nb := H.length) (nv := V.length) (b := H.length) (V := V') (cs := [ci a, er b]) k [] (H ++ rE k) tk (fun j hj => zu H k j hj);refine ⟨_, H, V, cL.trans h2 ?_, ⟨rfl, rfl, rfl⟩⟩;rw [take_left] at h1;have := cL.cut (n := 1) (nb := H.length) (nv := V.length) (T := [(0, OW (k, a, b))]) (H := H') (V := V') H.length V.length (le_refl _) (le_refl _) (fun p hp => by simp at hp; subst hp; exact zb _ _ _) (by rw [h1]; exact oH)
 rwa [h1, hV] at this
theorem qu (H : Hp) (V : List Nat) (tk : Tk) (l : bX) (ws : List Wr) (hl : l.length <= 1000000000) (hn : ws.length <= 1000000000) (hw : ∀ w ∈ ws, w.data.length <= 1000000000) : CC Tryz.prog 68 [.sl tk 1 (l.map eB), .sl .sh 3 (ws.map bq)] H V (Pu (OW (ij l ws)) H V) := by
 refine aj Tryz.func68 rfl fun hok oH => ?_
 clear hok
 have bad : ∀ (i e : Nat) (H' : Hp) (V' : List Nat), ij l ws = ([], i, e) -> H'.take H.length = H -> V'.take V.length = V -> ao H.length V.length (Pu (OW (ij l ws)) H V) (.tup [.v (.slice none 0 0), ci i, er e]) H' V' := fun i e H' V' h1 h2 h3 => by
  rw [h1]
  exact ao.pu (.tup (.cons (.nil 1 (by decide)) (.cons (.refl _) (.cons (.refl _) .nil)))) (zb _ _ _) oH h2 h3
 refine aa (ab ?_)
 simp -implicitDefEqProofs [go_sem, ai]
 refine aa (aa (ab ?_))
 simp -implicitDefEqProofs [go_sem]
 refine CC.mono (sv _ _ tk l hl) ?_
 rintro _ _ _ ⟨rfl, rfl, rfl⟩
 simp -implicitDefEqProofs [go_sem]
 refine aa (ab ?_)
 by_cases h0 : aN (aB l) = 0
 case neg =>
  simp -implicitDefEqProofs [go_sem, h0]
  refine ab ?_
  simp -implicitDefEqProofs [go_sem]
  exact bad 0 _ _ _ (by rw [ij, if_pos h0]) (by simp) (by simp)
 have e0 : ij l ws = t6 l ws 0 := by rw [ij, if_neg (by simp [h0])]
 simp -implicitDefEqProofs [go_sem, h0]
 refine ab ?_
 simp -implicitDefEqProofs [go_sem]
 obtain ⟨hl8, hvs⟩ := nl h0
 refine aa (ab ?_)
 simp -implicitDefEqProofs [go_sem]
 refine CC.mono (vo _ _ tk l (by omega) (fun v hv => ⟨(hvs v hv).1, by have := (hvs v hv).2; omega⟩)) ?_
 rintro _ _ _ ⟨rfl, rfl, rfl⟩
 simp -implicitDefEqProofs [go_sem]
 refine am (α := bX) (fun k => ([(8, .sl (.own V.length l.length) 1 (ln H.length l))], H ++ rE k, V ++ [l.length])) (fun k => k.map List.length = l.map List.length /\ t6 l ws 0 = (k, 0, 0)) ?_ ?_
 · refine aa (ab ?_)
   simp -implicitDefEqProofs [go_sem]
   refine af ?_
   refine al (α := Nat × bX) (fun x => ([(8, .sl (.own V.length l.length) 1 (ln H.length l)), (19, .sl .sh 3 (ws.map bq)), (20, ci ws.length), (21, ci x.1)], H ++ rE x.2, V ++ [l.length])) (fun x => x.1 <= ws.length /\ x.2.map List.length = l.map List.length /\ t6 l ws 0 = t6 x.2 (ws.drop x.1) x.1) (fun x => ws.length - x.1) (0, l) ⟨zero_le _, rfl, rfl⟩ (ae (by simp [go_sem]) rfl rfl) ?_
   rintro ⟨i, k⟩ ⟨hi, hk, hap⟩
   dsimp only at hi hk hap ⊢
   refine aa (ab ?_)
   simp -implicitDefEqProofs [go_sem]
   refine aa (ab ?_)
   simp -implicitDefEqProofs [go_sem]
   have hkl : k.length = l.length := by have := congrArg List.length hk; simpa using this
   refine ⟨fun h => ?_, fun h => ?_⟩
   case refine_2 =>
    rw [drop_of_length_le h] at hap
    exact ⟨k, ⟨hk, hap⟩, ae (by simp [go_sem]) rfl rfl⟩
   rw [drop_eq_getElem_cons h] at hap
   have hbxe := ya H.length hk
   have hkn : ∀ v ∈ k, v.length <= 4096 := fun v hv => by
    have : v.length ∈ k.map List.length := mem_map.2 ⟨v, hv, rfl⟩
    rw [hk] at this
    obtain ⟨u, hu, he⟩ := mem_map.1 this
    have := (hvs u hu).2; omega
   have hdw := hw _ (getElem_mem h)
   obtain ⟨G, hG⟩ : ∃ G, G = H ++ rE k := ⟨_, rfl⟩
   have hGl : G.length = H.length + l.length := by rw [hG]; simp [hkl]
   have hGH : G.take H.length = H := by rw [hG]; simp
   rw [<- hG]
   rw [<- hbxe]
   refine aa (af (aa (ab ?_)))
   simp -implicitDefEqProofs [go_sem, h]
   refine aa (aa (ab ?_))
   simp -implicitDefEqProofs [go_sem]
   refine CC.mono (G3 _ _ _ H.length k ws[i] (by omega) (fun v hv => by have := hkn v hv; omega) hdw (by simp [hGl, hkl])) ?_
   rintro _ _ _ ⟨rfl, rfl, rfl⟩
   simp -implicitDefEqProofs [go_sem]
   refine aa (ab ?_)
   by_cases hf : aS (aB k) ws[i] = 0
   case neg =>
    simp -implicitDefEqProofs [go_sem, hf]
    refine ab ?_
    simp -implicitDefEqProofs [go_sem]
    refine bad i _ _ _ (by rw [e0, hap, t6, if_pos hf]) ?_ (by simp)
    rw [take_append_of_le_length (by omega)]; exact hGH
   rw [t6, if_neg (by simp [hf])] at hap
   simp -implicitDefEqProofs [go_sem, hf]
   refine ab ?_
   simp -implicitDefEqProofs [go_sem]
   obtain ⟨n, hvn, hnk, hd0, p, hpn, hpl⟩ := pg hf
   have hGn : G[H.length + n]? = some (some (aQ k[n])) := by rw [hG]; exact zu H k n hnk
   have hkl4 := hkn _ (getElem_mem hnk)
   refine az [G.length] [10] (.s 0 .pl <| .s 1 .pl <| .s 2 .ld <| .s 3 .pl <| .s 4 .ld <| .s 5 .pl <| .s 6 .ld <| .s 7 .pl <| .s 8 .pl <| .s 9 .pl <| .s 10 .st <| .n) ?_
   have hX : ∀ (z : List CV) (K : List CV -> Prop), dN (G ++ [some z]) (H.length + n) K = K (aQ k[n]) := fun z K => ak (by rw [getElem?_append_left (by omega)]; exact hGn) K
   simp -implicitDefEqProofs [go_sem, hvn, hpn, hnk, hX]
   refine ⟨by omega, by omega, AV _, by omega, Kp.keep fun b hb => ?_, ab ?_⟩
   · obtain rfl : b = G.length := by simpa using hb
     rw [getElem?_set_ne (by omega)]
   simp -implicitDefEqProofs [go_sem, aq (show i <= 1000000000 by omega)]
   refine ⟨i + 1, j3 k ws[i], ⟨by omega, (t8 hf).trans hk, hap⟩, by omega, ?_⟩
   refine Sh.trim (L := rE (j3 k ws[i])) (by simp [go_sem]) (by simp [go_sem, FI H.length k, zW]) oH (zg _ _ _) (by simp) ?_ (by simp)
   rw [KZ, zW, hkl, set_append_left _ _ (by omega), take_append_of_le_length (by simp; omega), take_of_length_le (by simp; omega), hG]
   rw [show List.take (p * 8) (aQ k[n]) ++ ((List.map aE ws[i].data).flatten ++ List.drop (p * 8 + ws[i].data.length * 8) (aQ k[n])) = aQ (uU k[n] p ws[i].data) from by
    rw [<- Nat.add_mul, lI, lJ, uU, nn, nn, append_assoc]; rfl]
   rw [KY, j3, hvn, hpn, Int.toNat_natCast, Int.toNat_natCast, getD_eq_getElem?_getD, getElem?_eq_getElem hnk, Option.getD_some]
 rintro k ⟨hk, hap⟩
 dsimp only
 have hkl : k.length = l.length := by have := congrArg List.length hk; simpa using this
 rw [<- ya H.length hk]
 refine ab ?_
 simp -implicitDefEqProofs [go_sem]
 rw [e0, hap]
 exact LX oH (by simp)
theorem kL (H : Hp) (V : List Nat) (tk : Tk) (xs : List (List CV)) (hx : xs.length <= 1000000000) : CC Tryz.prog 112 [.sl tk 1 xs] H V (Fr 1 xs H V) := by
 refine aj Tryz.func112 rfl fun hok oH => ab ?_;simp [go_sem, ai];simp [okL, aK] at hok;refine ⟨⟨by omega, ?_⟩, fun h => ?_⟩
 · exact ao.fr hok.2 oH (by simp)
 · exact ao.frtok (by omega) (.inl ⟨rfl, h⟩) hok.2 oH (by simp) (by simp)
theorem iA {n : Nat} (h : n < 128) : lX n = [UInt8.ofNat n] := by rw [lX, dif_pos h]
theorem lg {n : Nat} (h : 128 <= n) : lX n = UInt8.ofNat (n % 128 + 128) :: lX (n / 128) := by rw [lX, dif_neg (by omega)]
theorem PG : (List.range 128).all (fun n => cr .or .u8 (n : Int) 128 == (n : Int) + 128) = true := by decide +kernel
theorem W9 (n : Nat) : cr .or .u8 (IntKind.u8.wrap ((n : Int).tmod 128)) 128 = ((UInt8.ofNat (n % 128 + 128)).toNat : Int) := by
 have h := all_eq_true.1 PG (n % 128) (by simp; omega);simp at h;have e : IntKind.u8.wrap ((n : Int).tmod 128) = ((n % 128 : Nat) : Int) := by
  rw [IntKind.wrap_u8, Int.tmod_eq_emod_of_nonneg (by omega)]; omega
 rw [e, UInt8.toNat_ofNat'];have h2 : ((n % 128 : Nat) : Int) = (n : Int) % 128 := by omega
 rw [h2, h];omega
theorem tA (n : Int) : jf n <= 9007199254740991 := by unfold jf; split <;> omega
theorem PE (n : Nat) (h : n <= 9007199254740991) : IntKind.i64.wrap ((n : Int) / 128) = ((n / 128 : Nat) : Int) := by
 rw [IntWalk.i64_in _ ⟨by omega, by omega⟩]; omega
theorem MZ (n : Nat) : wH (n : Int) = UInt8.ofNat n := by
 apply UInt8.toNat_inj.1;have h := fJ (n : Int);rw [UInt8.toNat_ofNat'];omega
theorem ES {V : List Nat} {k v : Nat} (h : V[k]? = some v) : V.set k v = V := by
 obtain ⟨h1, h2⟩ := List.getElem?_eq_some_iff.1 h;rw [<- h2]; exact set_getElem_self h1
theorem vJ : ∀ (k n : Nat), n < 128 ^ (k + 1) -> (lX n).length <= k + 1
 | 0, n, h => by rw [iA (by simpa using h)]; simp
 | k + 1, n, h => by
  by_cases hn : n < 128
  · rw [iA hn]; simp
  · rw [lg (by omega), length_cons]
    have := vJ k (n / 128) (by rw [Nat.div_lt_iff_lt_mul (by omega)]; rwa [<- Nat.pow_succ]);omega
theorem dA (n : Int) : (dP n).length <= 8 := vJ 7 _ (Nat.lt_of_le_of_lt (tA n) (by decide))
theorem JJ (l : List UInt8) (n : Nat) : bs l ++ [[CV.v (.int .u8 (cr .or .u8 (IntKind.u8.wrap ((n : Int).tmod 128)) 128))]] = bs (l ++ [UInt8.ofNat (n % 128 + 128)]) := by
 rw [W9, bs, bs, map_append]; rfl
theorem ja (H : Hp) (V : List Nat) (k v : Nat) (l : List UInt8) (n : Int) (hv : V[k]? = some v) (hl : l.length <= 1000000000) :
 CC Tryz.prog 147 [.sl (.own k v) 1 (bs l), .v (.int .i64 n)] H V (Ow k 1 (bs (l ++ dP n)) H V) := by
 have hk : k < V.length := (List.getElem?_eq_some_iff.1 hv).1;have hel := dA n;refine aj Tryz.func147 rfl fun hok oH => ?_;clear hok;refine aa (ab ?_);simp [go_sem, ai];refine am (α := Unit) (fun _ => ([(0, .sl (.own k v) 1 (bs l)), (1, .v (.int .i64 (jf n)))], H, V)) (fun _ => True) ?_ ?_
 · refine ab ?_
   simp [go_sem];refine ⟨fun h1 => ⟨fun h2 => ?_, fun h2 => ?_⟩, fun h1 => ?_⟩
   all_goals exact ae (by simp [go_sem]; exact .int (by unfold jf; split <;> omega)) rfl rfl
 · rintro _ -
   refine am (α := Nat × List UInt8 × Nat) (fun x => ([(0, .sl (.own k x.1) 1 (bs x.2.1)), (1, .v (.int .i64 x.2.2))], H, V.set k x.1)) (fun x => x.2.2 < 128 /\ x.2.1 ++ lX x.2.2 = l ++ dP n) ?_ ?_
   · refine af ?_
     refine al (α := Nat × List UInt8 × Nat) (fun x => ([(0, .sl (.own k x.1) 1 (bs x.2.1)), (1, .v (.int .i64 x.2.2))], H, V.set k x.1)) (fun x => x.2.2 <= 9007199254740991 /\ x.2.1 ++ lX x.2.2 = l ++ dP n) (fun x => x.2.2) (v, l, jf n) ⟨tA n, rfl⟩ (ae (by simp [go_sem]) rfl (ES hv).symm) ?_;rintro ⟨v1, l1, n1⟩ ⟨hb, h4⟩;dsimp only at hb h4;have aT := congrArg List.length h4;simp only [length_append] at aT;refine ab ?_;simp [go_sem, hk, PE n1 hb, JJ];refine ⟨fun h => ⟨by omega, v1 + 1, l1 ++ [UInt8.ofNat (n1 % 128 + 128)], n1 / 128, ⟨by omega, ?_⟩, by omega, ae (by simp [go_sem]) rfl rfl⟩, fun h => ⟨v1, l1, n1, ⟨by omega, h4⟩, ae (by simp [go_sem]) rfl rfl⟩⟩;rw [<- h4, lg (n := n1) (by omega)]; simp
   · rintro ⟨v1, l1, n1⟩ ⟨h1, h3⟩
     dsimp only at h1 h3;have aT := congrArg List.length h3;simp only [length_append] at aT;refine ab ?_;simp [go_sem, hk, MZ];exact ⟨by omega, ao.ownB hk (by rw [<- h3, iA h1]) oH (by simp)⟩
theorem sV (H : Hp) (V : List Nat) (tk : Tk) (l : List UInt8) (n : Int) (hl : l.length <= 1000000000) :
 CC Tryz.prog 135 [.sl tk 1 (bs l), .v (.int .i64 n)] H V (Fr 1 (bs (l ++ dP n)) H V) := by
 refine aj Tryz.func135 rfl fun hok oH => ab ?_;simp [go_sem, ai];refine CC.mono (kL _ _ _ _ (by simpa using hl)) ?_;rintro _ _ _ ⟨v, rfl, rfl, rfl⟩
 try simp [go_sem]
 refine CC.mono (ja _ _ _ _ _ _ (by simp) hl) ?_;rintro _ _ _ ⟨v', rfl, rfl, rfl⟩;simp [go_sem];exact ao.freshB rfl oH (by simp)
theorem vF {α : Type} {f : α -> List UInt8} {c : Nat} (h : ∀ x, (f x).length <= c) : ∀ xs : List α, (xs.flatMap f).length <= c * xs.length
 | [] => by simp
 | x :: xs => by
  rw [flatMap_cons, length_append, length_cons, Nat.mul_succ];have := vF h xs;have := h x;omega
theorem nR {α : Type} {f : α -> List UInt8} {xs : List α} {i : Nat} (h : i < xs.length) : (xs.take (i + 1)).flatMap f = (xs.take i).flatMap f ++ f xs[i] := by
 rw [take_succ_eq_append_getElem h, flatMap_append]; simp
theorem tn (H : Hp) (V : List Nat) (k v : Nat) (l : List UInt8) (s : au) (hv : V[k]? = some v) (hl : l.length <= 1000000000) :
 CC Tryz.prog 149 [.sl (.own k v) 1 (bs l), .agg (aE s)] H V (Ow k 1 (bs (l ++ s.val)) H V) := by
 have hk : k < V.length := (List.getElem?_eq_some_iff.1 hv).1;refine aj Tryz.func149 rfl fun hok oH => ab ?_;clear hok;simp [go_sem, ai, hv];have := s.len;exact ⟨by omega, ao.ownB hk rfl oH (by simp)⟩
theorem LR {α : Type} {f : α -> List UInt8} {xs : List α} {i : Nat} (h : i < xs.length) : ((xs.take i).flatMap f).length + (f xs[i]).length <= (xs.flatMap f).length := by
 have h1 := nR (f := f) h;have h2 : xs.flatMap f = (xs.take (i + 1)).flatMap f ++ (xs.drop (i + 1)).flatMap f := by rw [<- flatMap_append, take_append_drop]
 rw [h2, h1];simp only [length_append]; omega
theorem uC : ∀ l : List au, (l.flatMap au.val).length = 8 * l.length
 | [] => rfl
 | s :: l => by rw [flatMap_cons, length_append, uC l, s.len, length_cons]; omega
theorem kI (l : List au) : (gM l).length = (dP l.length).length + 8 * l.length := by rw [gM, length_append, uC]
theorem xi (H : Hp) (V : List Nat) (k v : Nat) (tk : Tk) (l : List UInt8) (xs : List au) (hv : V[k]? = some v) (hl : l.length + 8 * xs.length <= 900000000) :
 CC Tryz.prog 148 [.sl (.own k v) 1 (bs l), .sl tk 8 (xs.map aE), .fn 149 []] H V (Ow k 1 (bs (l ++ gM xs)) H V) := by
 have hk : k < V.length := (List.getElem?_eq_some_iff.1 hv).1;have hel := dA xs.length;refine aj Tryz.func148 rfl fun hok oH => ?_;simp [go_sem, fh] at hok;refine aa (ab ?_);simp [go_sem, ai];refine aa (ab ?_);simp [go_sem];refine CC.mono (ja _ _ _ _ _ _ hv (by omega)) ?_;rintro _ _ _ ⟨v', rfl, rfl, rfl⟩
 try simp [go_sem]
 refine am (α := Nat) (fun v => ([(0, .sl (.own k v) 1 (bs (l ++ gM xs)))], H, V.set k v)) (fun _ => True) ?_ ?_
 · refine aa (ab ?_)
   simp [go_sem];refine af ?_;refine al (α := Nat × Nat) (fun x => ([(0, .sl (.own k x.1) 1 (bs (l ++ dP xs.length ++ (xs.take x.2).flatMap au.val))), (2, .fn 149 []), (13, .sl tk 8 (xs.map aE)), (14, ci xs.length), (15, ci x.2)], H, V.set k x.1)) (fun x => x.2 <= xs.length) (fun x => xs.length - x.2) (v', 0) (zero_le _) (ae (by simp [go_sem]) rfl rfl) ?_;rintro ⟨v1, i⟩ hi;dsimp only at hi ⊢;have aT := vF (f := au.val) (fun x => Nat.le_of_eq x.len) (xs.take i);rw [length_take] at aT;refine ab ?_;simp [go_sem];refine ⟨fun h => ⟨h, ?_⟩, fun h => ⟨v1, ae ?_ rfl rfl⟩⟩
   · refine CC.mono (tn _ _ _ _ _ _ (by simp [hk]) (by simp only [length_append]; omega)) ?_
     rintro _ _ _ ⟨v2, rfl, rfl, rfl⟩;simp [go_sem];refine ⟨v2, i + 1, by omega, by omega, Sh.back ?_ rfl (by simp) (by simp [go_sem, fh, hok]) (by simpa using oH) (by simp) (by simp)⟩;simp [go_sem, aq (show i <= 1000000000 by omega), nR h]
   · simp [go_sem, gM]
     rw [take_of_length_le h]; exact .refl _
 · rintro v1 -
   refine ab ?_;simp [go_sem];exact ao.ownB hk rfl oH (by simp)
theorem uT (H : Hp) (V : List Nat) (k v : Nat) (l : List UInt8) (x : Wr) (hv : V[k]? = some v) (hl : l.length + (iz x).length <= 900000000) :
 CC Tryz.prog 113 [.sl (.own k v) 1 (bs l), .agg (bq x)] H V (Ow k 1 (bs (l ++ iz x)) H V) := by
 have hk : k < V.length := (List.getElem?_eq_some_iff.1 hv).1;simp only [iz, length_append, kI] at hl;refine aj Tryz.func113 rfl fun hok oH => ?_;clear hok;refine aa (ab ?_);simp [go_sem, ai];refine aa (ac.drawnL [0, 1, 2, 4, 5, 7, 8, 3, 6, 9, 10] (by kernel_rfl) (by kernel_rfl) rfl ?_);simp [go_sem];refine CC.mono (ja _ _ _ _ _ _ hv (by omega)) ?_;rintro _ _ _ ⟨v', rfl, rfl, rfl⟩
 try simp [go_sem]
 refine CC.mono (ja _ _ _ _ _ _ (by simp [hk]) (by simp only [length_append]; omega)) ?_;rintro _ _ _ ⟨v', rfl, rfl, rfl⟩
 try simp [go_sem]
 refine CC.mono (xi _ _ _ _ _ _ _ (by simp [hk]) (by simp only [length_append]; omega)) ?_;rintro _ _ _ ⟨v', rfl, rfl, rfl⟩;simp [go_sem];refine ab ?_;simp [go_sem];exact ao.ownB hk (by simp [iz]) oH (by simp)
theorem tj (H : Hp) (V : List Nat) (k v : Nat) (tk : Tk) (l : List UInt8) (xs : List Wr) (hv : V[k]? = some v) (hx : xs.length <= 900000000) (hl : l.length + (bi xs).length <= 900000000) :
 CC Tryz.prog 111 [.sl (.own k v) 1 (bs l), .sl tk 3 (xs.map bq), .fn 113 []] H V (Ow k 1 (bs (l ++ bi xs)) H V) := by
 have hk : k < V.length := (List.getElem?_eq_some_iff.1 hv).1;have hel := dA xs.length;simp only [bi, length_append] at hl;refine aj Tryz.func111 rfl fun hok oH => ?_;simp [go_sem, fh] at hok;refine aa (ab ?_);simp [go_sem, ai];refine aa (ab ?_);simp [go_sem];refine CC.mono (ja _ _ _ _ _ _ hv (by omega)) ?_;rintro _ _ _ ⟨v', rfl, rfl, rfl⟩
 try simp [go_sem]
 refine am (α := Nat) (fun v => ([(0, .sl (.own k v) 1 (bs (l ++ bi xs)))], H, V.set k v)) (fun _ => True) ?_ ?_
 · refine aa (ab ?_)
   simp [go_sem];refine af ?_;refine al (α := Nat × Nat) (fun x => ([(0, .sl (.own k x.1) 1 (bs (l ++ dP xs.length ++ (xs.take x.2).flatMap iz))), (2, .fn 113 []), (13, .sl tk 3 (xs.map bq)), (14, ci xs.length), (15, ci x.2)], H, V.set k x.1)) (fun x => x.2 <= xs.length) (fun x => xs.length - x.2) (v', 0) (zero_le _) (ae (by simp [go_sem]) rfl rfl) ?_;rintro ⟨v1, i⟩ hi;dsimp only at hi ⊢;refine ab ?_;simp [go_sem];refine ⟨fun h => ⟨h, ?_⟩, fun h => ⟨v1, ae ?_ rfl rfl⟩⟩
   · have hone := LR (f := iz) h
     refine CC.mono (uT _ _ _ _ _ _ (by simp [hk]) (by simp only [length_append]; omega)) ?_;rintro _ _ _ ⟨v2, rfl, rfl, rfl⟩;simp [go_sem];refine ⟨v2, i + 1, by omega, by omega, Sh.back ?_ rfl (by simp) (by simp [go_sem, fh, hok]) (by simpa using oH) (by simp) (by simp)⟩;simp [go_sem, aq (show i <= 1000000000 by omega), nR h]
   · simp [go_sem, bi]
     rw [take_of_length_le h]; exact .refl _
 · rintro v1 -
   refine ab ?_;simp [go_sem];exact ao.ownB hk rfl oH (by simp)
section
section
variable {P : Program} {H : Hp} {V : List Nat}
end
end
section
theorem RM (x : UInt8) : cr .and .u8 (x.toNat : Int) 127 = ((x.toNat % 128 : Nat) : Int) := by
 have h : (List.range 256).all (fun n => cr .and .u8 (n : Int) 127 == ((n % 128 : Nat) : Int)) = true := by decide +kernel
 have h1 := all_eq_true.1 h x.toNat (mem_range.2 x.toNat_lt);exact eq_of_beq h1
theorem RL (x : UInt8) : cr .and .u8 (x.toNat : Int) 128 = if x.toNat < 128 then 0 else 128 := by
 have h : (List.range 256).all (fun n => cr .and .u8 (n : Int) 128 == if n < 128 then 0 else 128) = true := by decide +kernel
 have h1 := all_eq_true.1 h x.toNat (mem_range.2 x.toNat_lt);exact eq_of_beq h1
theorem pn {n : Nat} (h : n < 9223372036854775808) : IntKind.i64.wrap (n : Int) = (n : Int) := IntWalk.i64_in _ ⟨by omega, by omega⟩
theorem xj (i : Nat) : 128 ^ i = 2 ^ (7 * i) := by rw [Nat.pow_mul]
theorem JW {a i : Nat} (hi : i < 8) (ha : a < 128) : a * 128 ^ i < 72057594037927936 := by
 have h2 : 128 ^ i <= 128 ^ 7 := Nat.pow_le_pow_right (by omega) (by omega);have h3 : a * 128 ^ i <= 127 * 128 ^ 7 := Nat.mul_le_mul (by omega) h2;have h4 : 127 * 128 ^ 7 < 72057594037927936 := by decide
 omega
theorem E9 {n a i : Nat} (hi : i < 8) (hn : n < 128 ^ i) (ha : a < 128) : cr .or .i64 (n : Int) (shl .i64 (a : Int) (IntKind.i64.wrap (7 * (i : Int)))) = ((n + a * 128 ^ i : Nat) : Int) := by
 have h1 := JW hi ha;have h2 : 128 ^ i <= 128 ^ 7 := Nat.pow_le_pow_right (by omega) (by omega);have h3 : (128 : Nat) ^ 7 = 562949953421312 := by decide
 have e0 : IntKind.i64.wrap (7 * (i : Int)) = ((7 * i : Nat) : Int) := by rw [IntWalk.i64_in _ ⟨by omega, by omega⟩]; omega
 have e1 : shl .i64 (a : Int) (IntKind.i64.wrap (7 * (i : Int))) = ((a * 128 ^ i : Nat) : Int) := by
  rw [e0, shl];have hb : min ((7 * i : Nat) : Int).toNat IntKind.i64.bits = 7 * i := by
   have : IntKind.i64.bits = 64 := rfl;omega
  rw [hb];have hc : ((a : Int) * 2 ^ (7 * i)) = ((a * 128 ^ i : Nat) : Int) := by rw [xj]; simp
  rw [hc, pn (by omega)]
 rw [e1];have e2 : (BitVec.ofInt 64 (n : Int) ||| BitVec.ofInt 64 ((a * 128 ^ i : Nat) : Int)).toNat = n + a * 128 ^ i := by
  rw [BitVec.toNat_or, BitVec.ofInt_natCast, BitVec.ofInt_natCast, BitVec.toNat_ofNat, BitVec.toNat_ofNat, Nat.mod_eq_of_lt (by omega), Nat.mod_eq_of_lt (by omega), Nat.or_comm, xj, <- Nat.shiftLeft_eq, <- Nat.shiftLeft_add_eq_or_of_lt (by rw [<- xj]; exact hn), Nat.add_comm]
 have e3 : cr .or .i64 (n : Int) ((a * 128 ^ i : Nat) : Int) = IntKind.i64.wrap ((BitVec.ofInt 64 (n : Int) ||| BitVec.ofInt 64 ((a * 128 ^ i : Nat) : Int)).toNat : Int) := rfl;rw [e3, e2, pn (by omega)]
def iK : Nat -> Nat -> Nat -> List UInt8 -> Except Nat (Nat × List UInt8)
 | 0, _, _, _ => .error 3
 | _ + 1, _, _, [] => .error 10
 | f + 1, i, n, b :: r =>
  if b.toNat < 128 then
   if (b.toNat = 0 /\ 0 < i) \/ 9007199254740991 < n + b.toNat * 128 ^ i then .error 3 else .ok (n + b.toNat * 128 ^ i, r)
  else iK f (i + 1) (n + b.toNat % 128 * 128 ^ i) r
def bZ (src : List UInt8) : Except Nat (Nat × List UInt8) := iK 8 0 0 src
def Cur {α : Type} (b : Nat) (tk : Tk) (val : α -> CV) (zero : CV) (x : Except Nat (α × List UInt8)) (H : Hp) (V : List Nat) : CV -> Hp -> List Nat -> Prop := fun r H' V' =>
 match x with
 | .ok (a, s) => r = .tup [val a, Go.Proofs.YtfflhepmkhlppaaGreatDoor.er 0] /\ H.set b (some [.sl tk 1 (bs s)]) = H' /\ V = V'
 | .error e => r = .tup [zero, Go.Proofs.YtfflhepmkhlppaaGreatDoor.er e] /\ H = H' /\ V = V'
section
variable {H : Hp} {V : List Nat} {b : Nat} {tk : Tk} {src : List UInt8}
theorem ao.curErr {α : Type} {val : α -> CV} {zero z c : CV} {x : Except Nat (α × List UInt8)} {e : Nat} (hx : x = .error e) (hz : aK H.length V.length zero) (h1 : z = zero) (h2 : c = Go.Proofs.YtfflhepmkhlppaaGreatDoor.er e) (oH : ∀ (b : Nat) cs, H[b]? = some (some cs) -> okL H.length V.length cs) {H' : Hp} {V' : List Nat} (hH : H'.take H.length = H) (hV : V'.take V.length = V) :
 ao H.length V.length (Cur b tk val zero x H V) (.tup [z, c]) H' V' := by
 subst hx h1 h2;exact ao.pure (by exact ⟨rfl, rfl, rfl⟩) hH hV (.refl _) (by simp [go_sem, hz]) oH
theorem nC {jb jv : Nat} {c : List CV} (hc : okL jb jv c) (oH : ∀ (b : Nat) cs, H[b]? = some (some cs) -> okL jb jv cs) (b' : Nat) (cs : List CV) (h : (H.set b (some c))[b']? = some (some cs)) : okL jb jv cs := by
 by_cases hb : b = b'
 · subst hb
   by_cases hl : b < H.length
   · rw [getElem?_set_self hl] at h; cases h; exact hc
   · rw [List.set_eq_of_length_le (by omega)] at h; exact oH _ _ h
 · rw [getElem?_set_ne hb] at h; exact oH _ _ h
theorem dI {n m sz : Nat} {xs : List (List CV)} {r : List CV} (hb : H[b]? = some (some (.sl tk sz xs :: r))) (oH : ∀ (b : Nat) cs, H[b]? = some (some cs) -> okL n m cs) : gr m tk := by
 have := oH b _ hb;rw [okL, aK] at this; exact this.1.1
theorem ao.curOk {α : Type} {val : α -> CV} {zero z c : CV} {x : Except Nat (α × List UInt8)} {a : α} {s : List UInt8} (hx : x = .ok (a, s)) (hz : aK H.length V.length (val a)) (h1 : Le z (val a)) (h2 : c = Go.Proofs.YtfflhepmkhlppaaGreatDoor.er 0) (ht : gr V.length tk) (oH : ∀ (b : Nat) cs, H[b]? = some (some cs) -> okL H.length V.length cs) {H' : Hp} {V' : List Nat} (hH : H'.take H.length = H.set b (some [.sl tk 1 (bs s)])) (hV : V'.take V.length = V) :
 ao H.length V.length (Cur b tk val zero x H V) (.tup [z, c]) H' V' := by
 subst hx h2;exact ao.pure (r' := .tup [val a, Go.Proofs.YtfflhepmkhlppaaGreatDoor.er 0]) (by exact ⟨rfl, rfl, rfl⟩) hH hV (.tup (.cons h1 (.cons (.refl _) .nil))) (by simp [go_sem, hz]) (nC (by simp [go_sem, fh, ht]) oH)
end
theorem r8 (H : Hp) (V : List Nat) (b : Nat) (tk : Tk) (src : List UInt8) (hb : H[b]? = some (some [.sl tk 1 (bs src)])) :
 CC Tryz.prog 155 [.ptr b 0] H V (Cur b tk (fun n : Nat => ci n) (ci 0) (bZ src) H V) := by
 refine aj Tryz.func155 rfl fun hok oH => ?_;refine aa (ab ?_);simp [go_sem, ai];refine aa (ab ?_);simp [go_sem];refine am (α := Unit) (fun _ => ([], H, V)) (fun _ => bZ src = .error 3) ?_ ?_
 · refine aa (ab ?_)
   simp [go_sem];refine af ?_;refine al (α := Nat × Nat) (fun x => ([(0, .ptr b 0), (4, ci x.1), (7, ci x.2)], H, V)) (fun x => x.2 <= 8 /\ x.1 < 128 ^ x.2 /\ iK (8 - x.2) x.2 x.1 (src.drop x.2) = bZ src) (fun x => 8 - x.2) (0, 0) ⟨by omega, by simp, rfl⟩ (ae (by simp [go_sem]) rfl rfl) ?_;rintro ⟨n, i⟩ ⟨hi, hn, h⟩;dsimp only at hi hn h ⊢
   by_cases h8 : i < 8
   · by_cases hs : i < src.length
     · rw [show 8 - i = (7 - i) + 1 by omega, drop_eq_getElem_cons hs, iK] at h
       have e' : IntKind.i64.wrap ((src[i].toNat : Int) % 128) = ((src[i].toNat % 128 : Nat) : Int) := by
        rw [show (src[i].toNat : Int) % 128 = ((src[i].toNat % 128 : Nat) : Int) by omega]; exact pn (by omega)
       have e : cr .or .i64 n (shl .i64 (IntKind.i64.wrap ((src[i].toNat : Int) % 128)) (IntKind.i64.wrap (7 * (i : Int)))) = ((n + src[i].toNat % 128 * 128 ^ i : Nat) : Int) := by
        rw [e']; exact E9 h8 hn (by omega)
       have e7 : 0 <= IntKind.i64.wrap (7 * (i : Int)) := by rw [IntWalk.i64_in _ ⟨by omega, by omega⟩]; omega
       have hlt : n + src[i].toNat % 128 * 128 ^ i < 128 ^ (i + 1) := by
        have h1 : src[i].toNat % 128 * 128 ^ i <= 127 * 128 ^ i := Nat.mul_le_mul_right _ (by omega);rw [Nat.pow_succ]; omega
       have hmod : src[i].toNat < 128 -> src[i].toNat % 128 = src[i].toNat := fun h => Nat.mod_eq_of_lt h;generalize hN : n + src[i].toNat % 128 * 128 ^ i = N at *;refine ab ?_;simp [go_sem, gb hb, RM, RL, e, e7, hs, aq (show i <= 1000000000 by omega), show (i : Int) < 8 by omega];have hT := dI hb oH;refine ⟨fun hq => absurd hq (by omega), fun h1 => ?_, fun h1 => ⟨fun h2 => ⟨fun h3 => ⟨fun h4 => ?_, fun h4 => ⟨by omega, by omega, ?_⟩⟩, fun h3 => ?_⟩, fun h2 => ⟨fun h4 => ?_, fun h4 => ⟨by omega, by omega, ?_⟩⟩⟩⟩
       · rw [if_neg (by omega)] at h
         refine ⟨N, i + 1, ⟨by omega, hlt, ?_⟩, by omega, ae (by simp [go_sem]) rfl rfl⟩;rw [show 8 - (i + 1) = 7 - i by omega]; exact h
       all_goals
        rw [if_pos h1, <- hmod h1, hN] at h
       · rw [if_pos (by omega)] at h
         exact ao.curErr h.symm (by simp [go_sem]) rfl rfl oH (by simp) (by simp)
       · rw [if_neg (by omega)] at h
         exact ao.curOk h.symm (by simp [go_sem]) (.refl _) rfl hT oH (by simp) (by simp)
       · rw [if_pos (by have := hmod h1; omega)] at h
         exact ao.curErr h.symm (by simp [go_sem]) rfl rfl oH (by simp) (by simp)
       · rw [if_pos (by omega)] at h
         exact ao.curErr h.symm (by simp [go_sem]) rfl rfl oH (by simp) (by simp)
       · rw [if_neg (by have := hmod h1; omega)] at h
         exact ao.curOk h.symm (by simp [go_sem]) (.refl _) rfl hT oH (by simp) (by simp)
     · rw [show 8 - i = (7 - i) + 1 by omega, drop_eq_nil_of_le (by omega), iK] at h
       refine ab ?_;simp [go_sem, gb hb, show (i : Int) < 8 by omega, show src.length <= i by omega];exact ao.curErr h.symm (by simp [go_sem]) rfl rfl oH (by simp) (by simp)
   · rw [show 8 - i = 0 by omega, iK] at h
     refine ab ?_;simp [go_sem, show ¬ ((i : Int) < 8) by omega];exact ⟨h.symm, ae (by simp [go_sem]) rfl rfl⟩
 · rintro _ he
   refine ab ?_;simp [go_sem];exact ao.curErr he (by simp [go_sem]) rfl rfl oH (by simp) (by simp)
end
def ug {α : Type} (val : α -> CV) (zero : CV) : Except Nat (α × List UInt8) -> CV
 | .ok (a, s) => .tup [val a, .sl .sh 1 (bs s), Go.Proofs.YtfflhepmkhlppaaGreatDoor.er 0]
 | .error e => .tup [zero, .v (.slice none 0 0), Go.Proofs.YtfflhepmkhlppaaGreatDoor.er e]
theorem jU : ∀ (f i n : Nat) (src : List UInt8) {m : Nat} {r : List UInt8}, iK f i n src = .ok (m, r) -> r.length <= src.length
 | 0, _, _, _, _, _, h => by rw [iK] at h; cases h
 | f + 1, _, _, [], _, _, h => by rw [iK] at h; cases h
 | f + 1, i, n, b :: s, m, r, h => by
  rw [iK] at h
  split at h
  · split at h
    · cases h
    · cases h; simp
  · have := jU f _ _ s h
    rw [length_cons]; omega
theorem lP : ∀ (f i n : Nat) (src : List UInt8) {e : Nat}, iK f i n src = .error e -> e = 3 \/ e = 10
 | 0, _, _, _, _, h => by rw [iK] at h; cases h; simp
 | f + 1, _, _, [], _, h => by rw [iK] at h; cases h; simp
 | f + 1, i, n, b :: s, e, h => by
  rw [iK] at h
  split at h
  · split at h
    · cases h; simp
    · cases h
  · exact lP f _ _ s h
theorem xg (H : Hp) (V : List Nat) (tk : Tk) (src : List UInt8) (hl : src.length <= 1000000000) :
 CC Tryz.prog 154 [.sl tk 1 (bs src), .fn 155 []] H V (Pu (ug (fun n : Nat => ci n) (ci 0) (bZ src)) H V) := by
 refine aj Tryz.func154 rfl fun hok oH => ab ?_;simp [go_sem, ai];refine CC.mono (r8 _ _ _ _ _ (fL _ _)) ?_;intro r H' V' h;unfold Cur at h;rcases hn : bZ src with e | ⟨n, s⟩
 · rw [hn] at h
   obtain ⟨rfl, rfl, rfl⟩ := h;have he : ¬ e = 0 := by rcases lP _ _ _ _ hn with rfl | rfl <;> decide
   simp [go_sem, he];exact ao.pu (.refl _) (by simp [go_sem, ug]) oH (by simp) (by simp)
 · rw [hn] at h
   obtain ⟨rfl, rfl, rfl⟩ := h;simp [go_sem];refine CC.mono (kL _ _ _ _ (by have := jU _ _ _ _ hn; simp only [qV]; omega)) ?_;rintro _ _ _ ⟨v', rfl, rfl, rfl⟩
   try simp [go_sem]
   exact ao.pu (.tup (.cons (.refl _) (.cons (.sh ..) (.cons (.refl _) .nil)))) (by simp [go_sem, ug]) oH (by simp) (by simp)
theorem IQ (H : Hp) (V : List Nat) (tk : Tk) (src : List UInt8) (hl : src.length <= 1000000000) :
 CC Tryz.prog 125 [.sl tk 1 (bs src)] H V (Pu (ug (fun n : Nat => ci n) (ci 0) (bZ src)) H V) := by
 refine aj Tryz.func125 rfl fun hok oH => ab ?_;simp [go_sem, ai];refine ah (xg _ _ _ _ hl) ?_;rcases hn : bZ src with e | ⟨n, s⟩
 · simp [go_sem, ug]
   exact ao.pu (.refl _) (by simp [go_sem]) oH (by simp) (by simp)
 · simp [go_sem, ug]
   exact ao.pu (.refl _) (by simp [go_sem]) oH (by simp) (by simp)
abbrev Pr (α : Type) := List UInt8 -> Except Nat (α × List UInt8)
def cT : Pr Nat := fun s =>
 match bZ s with
 | .error e => .error e
 | .ok (n, r) => if 65536 < n then .error 5 else .ok (n, r)
def mh (n : Nat) : Pr (List UInt8) := fun s => if s.length < n then .error 10 else .ok (s.take n, s.drop n)
def lj : Pr au := fun s => if h : s.length < 8 then .error 10 else .ok (⟨s.take 8, by rw [length_take]; omega⟩, s.drop 8)
def gY : Pr (Nat × Nat) := fun s =>
 match bZ s with
 | .error e => .error e
 | .ok (a, r) =>
  match bZ r with
  | .error e => .error e
  | .ok (b, r') => .ok ((a, b), r')
def ahu : Pr wA := fun s =>
 match gY s with
 | .error e => .error e
 | .ok ((a, b), r) => .ok (⟨a, b⟩, r)
def gG {α : Type} (p : Pr α) : Nat -> Pr (List α)
 | 0, s => .ok ([], s)
 | n + 1, s =>
  match p s with
  | .error e => .error e
  | .ok (a, r) =>
   match gG p n r with
   | .error e => .error e
   | .ok (l, r') => .ok (a :: l, r')
def cq {α : Type} (p : Pr α) : Pr (List α) := fun s =>
 match cT s with
 | .error e => .error e
 | .ok (n, r) => gG p n r
def po : Pr Wr := fun s =>
 match gY s with
 | .error e => .error e
 | .ok ((a, b), r) =>
  match cq lj r with
  | .error e => .error e
  | .ok (l, r') => .ok (⟨a, b, l⟩, r')
def ahead {α : Type} (xs : List α) : Except Nat (List α × List UInt8) -> Except Nat (List α × List UInt8)
 | .error e => .error e
 | .ok (l, r) => .ok (xs ++ l, r)
theorem sT {α : Type} (x : Except Nat (List α × List UInt8)) : ahead [] x = x := by cases x <;> rfl
theorem E3 {α : Type} {p : Pr α} {n : Nat} {s r : List UInt8} {a : α} {xs : List α} (h : p s = .ok (a, r)) : ahead xs (gG p (n + 1) s) = ahead (xs ++ [a]) (gG p n r) := by
 rw [gG, h];dsimp only
 cases gG p n r with
 | error e => rfl
 | ok q => simp [ahead]
theorem yT {α : Type} {p : Pr α} {n e : Nat} {s : List UInt8} {xs : List α} (h : p s = .error e) : ahead xs (gG p (n + 1) s) = .error e := by
 rw [gG, h]; rfl
def DU {α : Type} (p : Pr α) : Prop := ∀ s e, p s = .error e -> e ≠ 0
theorem dW : DU bZ := fun s e h => by rcases lP _ _ _ _ h with rfl | rfl <;> decide
theorem lR : DU cT := fun s e h => by
 unfold cT at h
 split at h
 · rename_i h1; cases h; exact dW _ _ h1
 · split at h
   · cases h; decide
   · cases h
theorem FN (n : Nat) : DU (mh n) := fun s e h => by
 unfold mh at h
 split at h
 · cases h; decide
 · cases h
theorem zk : DU lj := fun s e h => by
 unfold lj at h
 split at h
 · cases h; decide
 · cases h
theorem vc : DU gY := fun s e h => by
 unfold gY at h
 split at h
 · rename_i h1; cases h; exact dW _ _ h1
 · split at h
   · rename_i h1; cases h; exact dW _ _ h1
   · cases h
theorem zl {α : Type} {p : Pr α} (hp : DU p) : ∀ n, DU (gG p n)
 | 0, s, e, h => by rw [gG] at h; cases h
 | n + 1, s, e, h => by
  rw [gG] at h
  split at h
  · rename_i h1; cases h; exact hp _ _ h1
  · split at h
    · rename_i h1; cases h; exact zl hp n _ _ h1
    · cases h
theorem vd {α : Type} {p : Pr α} (hp : DU p) : DU (cq p) := fun s e h => by
 unfold cq at h
 split at h
 · rename_i h1; cases h; exact lR _ _ h1
 · exact zl hp _ _ _ h
theorem FM : DU po := fun s e h => by
 unfold po at h
 split at h
 · rename_i h1; cases h; exact vc _ _ h1
 · split at h
   · rename_i h1; cases h; exact vd zk _ _ h1
   · cases h
def IL {α : Type} (p : Pr α) : Prop := ∀ s a r, p s = .ok (a, r) -> r.length <= s.length
theorem lG : IL bZ := fun _ _ _ h => jU _ _ _ _ h
theorem lH : IL cT := fun s a r h => by
 unfold cT at h
 split at h
 · cases h
 · rename_i h1
   split at h
   · cases h
   · cases h; exact lG _ _ _ h1
theorem sj {s r : List UInt8} {n : Nat} (h : cT s = .ok (n, r)) : n <= 65536 := by
 unfold cT at h
 split at h
 · cases h
 · split at h
   · cases h
   · cases h; omega
theorem yL : IL lj := fun s a r h => by
 unfold lj at h
 split at h
 · cases h
 · cases h; rw [length_drop]; omega
theorem uz : IL gY := fun s a r h => by
 unfold gY at h
 split at h
 · cases h
 · rename_i h1
   split at h
   · cases h
   · rename_i h2; cases h; exact Nat.le_trans (lG _ _ _ h2) (lG _ _ _ h1)
theorem yM {α : Type} {p : Pr α} (hp : IL p) : ∀ n, IL (gG p n)
 | 0, s, a, r, h => by rw [gG] at h; cases h; exact le_refl _
 | n + 1, s, a, r, h => by
  rw [gG] at h
  split at h
  · cases h
  · rename_i h1
    split at h
    · cases h
    · rename_i h2; cases h; exact Nat.le_trans (yM hp n _ _ _ h2) (hp _ _ _ h1)
theorem uA {α : Type} {p : Pr α} (hp : IL p) : IL (cq p) := fun s a r h => by
 unfold cq at h
 split at h
 · cases h
 · rename_i h1; exact Nat.le_trans (yM hp _ _ _ _ h) (lH _ _ _ h1)
theorem ER : IL po := fun s a r h => by
 unfold po at h
 split at h
 · cases h
 · rename_i h1
   split at h
   · cases h
   · rename_i h2; cases h; exact Nat.le_trans (uA yL _ _ _ h2) (uz _ _ _ h1)
section
def Rd {α : Type} (b : Nat) (tk : Tk) (val : α -> CV) (Z : CV -> Prop) (x : Except Nat (α × List UInt8)) (H : Hp) (V : List Nat) : CV -> Hp -> List Nat -> Prop := fun r H' V' =>
 match x with
 | .ok (a, s) => r = .tup [val a, Go.Proofs.YtfflhepmkhlppaaGreatDoor.er 0] /\ H.set b (some [.sl tk 1 (bs s)]) = H' /\ V = V'
 | .error e => ∃ z s, Z z /\ r = .tup [z, Go.Proofs.YtfflhepmkhlppaaGreatDoor.er e] /\ H.set b (some [.sl tk 1 (bs s)]) = H' /\ V = V'
def Rd3 (b : Nat) (tk : Tk) (x : Except Nat ((Nat × Nat) × List UInt8)) (H : Hp) (V : List Nat) : CV -> Hp -> List Nat -> Prop := fun r H' V' =>
 match x with
 | .ok ((m, n), s) => r = .tup [ci m, ci n, Go.Proofs.YtfflhepmkhlppaaGreatDoor.er 0] /\ H.set b (some [.sl tk 1 (bs s)]) = H' /\ V = V'
 | .error e => ∃ (m n : Int) (s : List UInt8), r = .tup [ci m, ci n, Go.Proofs.YtfflhepmkhlppaaGreatDoor.er e] /\ H.set b (some [.sl tk 1 (bs s)]) = H' /\ V = V'
section
variable {H : Hp} {V : List Nat} {b : Nat} {tk : Tk} {α : Type} {val : α -> CV} {Z : CV -> Prop}
theorem ao.rdOk {z c : CV} {x : Except Nat (α × List UInt8)} {a : α} {s : List UInt8} (hx : x = .ok (a, s)) (hz : aK H.length V.length (val a)) (h1 : Le z (val a)) (h2 : c = Go.Proofs.YtfflhepmkhlppaaGreatDoor.er 0) (ht : gr V.length tk) (oH : ∀ (b : Nat) cs, H[b]? = some (some cs) -> okL H.length V.length cs) {H' : Hp} {V' : List Nat} (hH : H'.take H.length = H.set b (some [.sl tk 1 (bs s)])) (hV : V'.take V.length = V) :
 ao H.length V.length (Rd b tk val Z x H V) (.tup [z, c]) H' V' := by
 subst hx h2;exact ao.pure (r' := .tup [val a, Go.Proofs.YtfflhepmkhlppaaGreatDoor.er 0]) (by exact ⟨rfl, rfl, rfl⟩) hH hV (.tup (.cons h1 (.cons (.refl _) .nil))) (by simp [go_sem, hz]) (nC (by simp [go_sem, fh, ht]) oH)
theorem ao.rd3Ok {m n c : CV} {x : Except Nat ((Nat × Nat) × List UInt8)} {a a' : Nat} {s : List UInt8} (hx : x = .ok ((a, a'), s)) (h0 : m = ci a) (h1 : n = ci a') (h2 : c = Go.Proofs.YtfflhepmkhlppaaGreatDoor.er 0) (ht : gr V.length tk) (oH : ∀ (b : Nat) cs, H[b]? = some (some cs) -> okL H.length V.length cs) {H' : Hp} {V' : List Nat} (hH : H'.take H.length = H.set b (some [.sl tk 1 (bs s)])) (hV : V'.take V.length = V) :
 ao H.length V.length (Rd3 b tk x H V) (.tup [m, n, c]) H' V' := by
 subst hx h0 h1 h2;exact ao.pure (by exact ⟨rfl, rfl, rfl⟩) hH hV (.refl _) (by simp [go_sem]) (nC (by simp [go_sem, fh, ht]) oH)
theorem ao.rd3Err {c : CV} {m n : Int} {x : Except Nat ((Nat × Nat) × List UInt8)} {e : Nat} {s : List UInt8} (hx : x = .error e) (h2 : c = Go.Proofs.YtfflhepmkhlppaaGreatDoor.er e) (ht : gr V.length tk) (oH : ∀ (b : Nat) cs, H[b]? = some (some cs) -> okL H.length V.length cs) {H' : Hp} {V' : List Nat} (hH : H'.take H.length = H.set b (some [.sl tk 1 (bs s)])) (hV : V'.take V.length = V) :
 ao H.length V.length (Rd3 b tk x H V) (.tup [ci m, ci n, c]) H' V' := by
 subst hx h2;exact ao.pure (by exact ⟨m, n, s, rfl, rfl, rfl⟩) hH hV (.refl _) (by simp [go_sem]) (nC (by simp [go_sem, fh, ht]) oH)
theorem ao.rdErr {z z' c : CV} {x : Except Nat (α × List UInt8)} {e : Nat} {s : List UInt8} (hx : x = .error e) (hZ : Z z') (hz : aK H.length V.length z') (h1 : Le z z') (h2 : c = Go.Proofs.YtfflhepmkhlppaaGreatDoor.er e) (ht : gr V.length tk) (oH : ∀ (b : Nat) cs, H[b]? = some (some cs) -> okL H.length V.length cs) {H' : Hp} {V' : List Nat} (hH : H'.take H.length = H.set b (some [.sl tk 1 (bs s)])) (hV : V'.take V.length = V) :
 ao H.length V.length (Rd b tk val Z x H V) (.tup [z, c]) H' V' := by
 subst hx h2;exact ao.pure (r' := .tup [z', Go.Proofs.YtfflhepmkhlppaaGreatDoor.er e]) (by exact ⟨z', s, hZ, rfl, rfl, rfl⟩) hH hV (.tup (.cons h1 (.cons (.refl _) .nil))) (by simp [go_sem, hz]) (nC (by simp [go_sem, fh, ht]) oH)
end
section
variable {H L : Hp} {b k : Nat} {c d : Option (List CV)} {cs : List CV} {K : List CV -> Prop}
@[go_sem] theorem afD (h : k = H.length) : dN (H ++ some cs :: L) k K = K cs := by subst h; exact LF H cs L K
theorem fU (h : b < H.length) : (H ++ L).set b d = H.set b d ++ L := set_append_left _ _ h
theorem cG : (H.set b d).take H.length = H.set b d := take_of_length_le (by simp)
theorem dh : (H.set b d ++ L).take H.length = H.set b d := by
 rw [take_append_of_le_length (by simp), take_of_length_le (by simp)]
end
theorem bP {H : Hp} {b : Nat} {x : Option (List CV)} (h : H[b]? = some x) : b < H.length := (List.getElem?_eq_some_iff.1 h).1
theorem mm {H : Hp} {b : Nat} {c : Option (List CV)} (h : H[b]? = some c) : H.set b c = H := by
 obtain ⟨h1, h2⟩ := List.getElem?_eq_some_iff.1 h;rw [<- h2]; exact set_getElem_self h1
theorem nE (H : Hp) (V : List Nat) (b : Nat) (tk : Tk) (src : List UInt8) (hb : H[b]? = some (some [.sl tk 1 (bs src)])) :
 CC Tryz.prog 155 [.ptr b 0] H V (Rd b tk (fun n : Nat => ci n) (· = ci 0) (bZ src) H V) := by
 refine CC.mono (r8 _ _ _ _ _ hb) fun r H' V' h => ?_;unfold Cur at h;unfold Rd;rcases hn : bZ src with e | ⟨n, s⟩ <;> rw [hn] at h
 · obtain ⟨h1, h2, h3⟩ := h
   exact ⟨_, src, rfl, h1, by rw [mm hb]; exact h2, h3⟩
 · exact h
theorem ao.rdErr0 {H : Hp} {V : List Nat} {b : Nat} {tk : Tk} {α : Type} {val : α -> CV} {Z : CV -> Prop} {z z' c : CV} {src : List UInt8} {x : Except Nat (α × List UInt8)} {e : Nat} (hb : H[b]? = some (some [.sl tk 1 (bs src)])) (hx : x = .error e) (hZ : Z z') (hz : aK H.length V.length z') (h1 : Le z z') (h2 : c = Go.Proofs.YtfflhepmkhlppaaGreatDoor.er e) (ht : gr V.length tk) (oH : ∀ (b : Nat) cs, H[b]? = some (some cs) -> okL H.length V.length cs) {H' : Hp} {V' : List Nat} (hH : H'.take H.length = H) (hV : V'.take V.length = V) :
 ao H.length V.length (Rd b tk val Z x H V) (.tup [z, c]) H' V' :=
 ao.rdErr hx hZ hz h1 h2 ht oH (by rw [hH, mm hb]) hV
theorem si (H : Hp) (V : List Nat) (b : Nat) (tk : Tk) (src : List UInt8) (hb : H[b]? = some (some [.sl tk 1 (bs src)])) :
 CC Tryz.prog 178 [.ptr b 0] H V (Rd b tk (fun n : Nat => ci n) (fun z => ∃ n, z = ci n) (cT src) H V) := by
 have hbl := bP hb;refine aj Tryz.func178 rfl fun hok oH => ?_;have ht := dI hb oH;refine aa (ab ?_);simp [go_sem, ai];refine aa (ab ?_);simp [go_sem];refine CC.mono (nE _ _ _ _ _ hb) ?_;intro r H' V' h;unfold Rd at h;rcases hn : bZ src with e | ⟨n, s⟩ <;> rw [hn] at h
 · obtain ⟨_, s, rfl, rfl, rfl, rfl⟩ := h
   have he := dW _ _ hn;simp [go_sem];refine ab ?_;simp [go_sem, he];exact ao.rdErr (by unfold cT; rw [hn]) ⟨0, rfl⟩ (by simp [go_sem]) (.refl _) rfl ht oH cG (by simp)
 · obtain ⟨rfl, rfl, rfl⟩ := h
   simp [go_sem];refine ab ?_;simp [go_sem];exact ⟨fun h => ao.rdErr (e := 5) (by unfold cT; rw [hn]; dsimp only; rw [if_pos (by omega)]) ⟨n, rfl⟩ (by simp [go_sem]) (.refl _) rfl ht oH cG (by simp), fun h => ao.rdOk (by unfold cT; rw [hn]; dsimp only; rw [if_neg (by omega)]) (by simp [go_sem]) (.refl _) rfl ht oH cG (by simp)⟩
theorem HY (H : Hp) (V : List Nat) (b : Nat) (tk : Tk) (src : List UInt8) (n : Nat) (hb : H[b]? = some (some [.sl tk 1 (bs src)])) :
 CC Tryz.prog 204 [.ptr b 0, ci n] H V (Rd b tk (fun s : List UInt8 => .sl .sh 1 (bs s)) (· = .v (.slice none 0 0)) (mh n src) H V) := by
 have hbl := bP hb;refine aj Tryz.func204 rfl fun hok oH => ?_;have ht := dI hb oH;refine aa (ab ?_);simp [go_sem, ai]
 by_cases hn : src.length < n
 · refine ab ?_
   simp [go_sem, gb hb, show (src.length : Int) < n by omega];exact ao.rdErr0 (e := 10) hb (by unfold mh; rw [if_pos hn]) (by exact rfl) (by simp [go_sem]) (.refl _) rfl ht oH (by simp) (by simp)
 · refine ab ?_
   simp [go_sem, gb hb, show ¬ (src.length : Int) < n by omega];exact ⟨by omega, ao.rdOk (by unfold mh; rw [if_neg hn]) (by simp [go_sem]) (.refl _) rfl ht oH cG (by simp)⟩
def Ag (n : Nat) (z : CV) : Prop := ∃ cs, z = .agg cs /\ cs.length = n /\ aJ cs = true /\ ∀ i j, okL i j cs
theorem D3 (s : au) : s.val.take 8 = s.val := take_of_length_le (by rw [s.len]; exact le_refl _)
theorem I9 (s : au) : s.val.length = 8 := s.len
theorem ET (s : au) : (bs s.val).flatten = aE s := by
 have : ∀ l : List UInt8, (bs l).flatten = l.map fun b => CV.v (.int .u8 (b.toNat : Int)) := by
  intro l
  induction l with
  | nil => rfl
  | cons b l ih => rw [bs, map_cons, flatten_cons, map_cons, <- ih]; rfl
 exact this _
theorem uD (src : List UInt8) : lj src = (match mh 8 src with
 | .error e => .error e
 | .ok (q, s) => if h : q.length = 8 then .ok (⟨q, h⟩, s) else .error 10) := by
 unfold lj mh
 by_cases h : src.length < 8
 · rw [dif_pos h, if_pos h]
 · rw [dif_neg h, if_neg h]; dsimp only; rw [dif_pos (by rw [length_take]; omega)]
theorem AQ (H : Hp) (V : List Nat) (b : Nat) (tk : Tk) (src : List UInt8) (hb : H[b]? = some (some [.sl tk 1 (bs src)])) :
 CC Tryz.prog 188 [.ptr b 0] H V (Rd b tk (fun s : au => .agg (aE s)) (Ag 8) (lj src) H V) := by
 have hbl := bP hb;refine aj Tryz.func188 rfl fun hok oH => ?_;have ht := dI hb oH;refine aa (ab ?_);simp [go_sem, ai];refine aa (ab ?_);simp [go_sem];refine CC.mono (HY _ _ _ _ _ 8 (by rw [getElem?_append_left hbl]; exact hb)) ?_;intro r H' V' h;unfold Rd at h;rcases hn : mh 8 src with e | ⟨q, s⟩ <;> rw [hn] at h
 · obtain ⟨_, s, rfl, rfl, rfl, rfl⟩ := h
   have he := FN _ _ _ hn;simp [go_sem, fU hbl];refine ab ?_;simp [go_sem, he];exact ao.rdErr (by rw [uD, hn]) (by exact ⟨_, rfl, rfl, rfl, fun i j => by simp [go_sem]⟩) (by simp [go_sem]) (.refl _) rfl ht oH dh (by simp)
 · obtain ⟨rfl, rfl, rfl⟩ := h
   obtain ⟨s0, rfl, hs0⟩ : ∃ s0 : au, q = s0.val /\ lj src = .ok (s0, s) := by
    rw [uD, hn];dsimp only;unfold mh at hn
    split at hn
    · cases hn
    · rename_i h8
      cases hn
      exact ⟨⟨_, by rw [length_take]; omega⟩, rfl, by rw [dif_pos (by rw [length_take]; omega)]⟩
   simp [go_sem, fU hbl];refine ab ?_;simp [go_sem, D3, I9, ET];exact ao.rdOk hs0 (by simp [go_sem]) (.refl _) rfl ht oH dh (by simp)
theorem JY (H : Hp) (V : List Nat) (b : Nat) (tk : Tk) (src : List UInt8) (hb : H[b]? = some (some [.sl tk 1 (bs src)])) :
 CC Tryz.prog 179 [.ptr b 0] H V (Rd3 b tk (gY src) H V) := by
 have hbl := bP hb;refine aj Tryz.func179 rfl fun hok oH => ?_;have ht := dI hb oH;refine aa (ab ?_);simp [go_sem, ai];refine aa (ab ?_);simp [go_sem];refine CC.mono (nE _ _ _ _ _ hb) ?_;intro r H' V' h;unfold Rd at h;rcases hn : bZ src with e | ⟨n, s⟩ <;> rw [hn] at h
 · obtain ⟨_, s, rfl, rfl, rfl, rfl⟩ := h
   have he := dW _ _ hn;simp [go_sem];refine ab ?_;simp [go_sem, he];exact ao.rd3Err (by unfold gY; rw [hn]) rfl ht oH cG (by simp)
 · obtain ⟨rfl, rfl, rfl⟩ := h
   simp [go_sem];refine ab ?_;simp [go_sem];refine CC.mono (nE _ _ _ _ _ (getElem?_set_self hbl)) ?_;intro r H' V' h;unfold Rd at h;rcases hm : bZ s with e | ⟨m, s'⟩ <;> rw [hm] at h
   · obtain ⟨_, s', rfl, rfl, rfl, rfl⟩ := h
     have he := dW _ _ hm;simp [go_sem];exact ao.rd3Err (by unfold gY; rw [hn]; dsimp only; rw [hm]) rfl ht oH cG (by simp)
   · obtain ⟨rfl, rfl, rfl⟩ := h
     simp [go_sem];exact ao.rd3Ok (by unfold gY; rw [hn]; dsimp only; rw [hm]) rfl rfl rfl ht oH cG (by simp)
end
def xl (o : Option Nat) (k sz : Nat) (xs : List (List CV)) : CV :=
 match o with
 | none => .v (.slice none 0 0)
 | some v => .sl (.own k v) sz xs
def uY (V : List Nat) : Option Nat -> List Nat
 | none => V
 | some v => V ++ [v]
@[go_sem] theorem SN (k sz : Nat) (xs : List (List CV)) : xl none k sz xs = .v (.slice none 0 0) := rfl
@[go_sem] theorem SM (v k sz : Nat) (xs : List (List CV)) : xl (some v) k sz xs = .sl (.own k v) sz xs := rfl
@[go_sem] theorem SL (V : List Nat) : uY V none = V := rfl
@[go_sem] theorem SK (V : List Nat) (v : Nat) : uY V (some v) = V ++ [v] := rfl
theorem k7 (V : List Nat) (o : Option Nat) : (uY V o).take V.length = V := by cases o <;> simp [uY]
theorem yZ {α : Type} {f : α -> List CV} (o : Option Nat) (k sz : Nat) (xs : List α) (h0 : 0 < sz) (h : o = none -> xs = []) : Le (xl o k sz (xs.map f)) (.sl .sh sz (xs.map f)) := by
 cases o with
 | none => rw [h rfl]; exact .nil sz h0
 | some v => exact .sh ..
theorem pb {i j : Nat} (xs ys : List (List CV)) : fO i j (xs ++ ys) = (fO i j xs /\ fO i j ys) := by
 simp only [tz, mem_append];exact propext ⟨fun h => ⟨fun e he => h e (.inl he), fun e he => h e (.inr he)⟩, fun ⟨h1, h2⟩ e he => he.elim (h1 e) (h2 e)⟩
theorem o9 {H : Hp} {V : List Nat} {b j : Nat} {tk : Tk} {s : List UInt8} (ht : gr V.length tk) (hj : V.length <= j) (oH : ∀ (b : Nat) cs, H[b]? = some (some cs) -> okL H.length V.length cs) (b' : Nat) (cs : List CV) (h : (H.set b (some [.sl tk 1 (bs s)]))[b']? = some (some cs)) : okL H.length j cs :=
 aO (le_refl _) hj (nC (by simp [go_sem, fh, ht]) oH b' cs h)
theorem xp (H : Hp) (V : List Nat) (b : Nat) (tk : Tk) (src : List UInt8) (g : Nat) (p : Pr au) (hp : DU p) (hs : IL p)
 (hg : ∀ (H : Hp) (V : List Nat) (b : Nat) (tk : Tk) (src : List UInt8), src.length <= 1000000000 -> H[b]? = some (some [.sl tk 1 (bs src)]) -> CC Tryz.prog g [.ptr b 0] H V (Rd b tk (fun a => .agg (aE a)) (Ag 8) (p src) H V))
 (hl : src.length <= 1000000000) (hb : H[b]? = some (some [.sl tk 1 (bs src)])) : CC Tryz.prog 187 [.ptr b 0, .fn g []] H V (Rd b tk (fun l : List au => .sl .sh 8 (l.map aE)) (· = .v (.slice none 0 0)) (cq p src) H V) := by
 have hbl := bP hb;refine aj Tryz.func187 rfl fun hok oH => ?_;have ht := dI hb oH;clear hok;refine aa (ab ?_);simp [go_sem, ai];refine aa (ab ?_);simp [go_sem];refine CC.mono (si _ _ _ _ _ hb) ?_;intro r H' V' h;unfold Rd at h;rcases hn : cT src with e | ⟨n, s⟩ <;> rw [hn] at h
 · obtain ⟨_, s, ⟨n, rfl⟩, rfl, rfl, rfl⟩ := h
   have he := lR _ _ hn;simp [go_sem];refine ab ?_;simp [go_sem, he];exact ao.rdErr (by unfold cq; rw [hn]) (by exact rfl) (by simp [go_sem]) (.refl _) rfl ht oH cG (by simp)
 · obtain ⟨rfl, rfl, rfl⟩ := h
   have hn5 := sj hn;have hls := lH _ _ _ hn;simp [go_sem];refine aa (ab ?_);simp [go_sem];refine aa (ab ?_);simp [go_sem];refine am (α := Option Nat × List au × List UInt8) (fun x => ([(8, xl x.1 V.length 8 (x.2.1.map aE))], H.set b (some [.sl tk 1 (bs x.2.2)]), uY V x.1)) (fun x => (x.1 = none -> x.2.1 = []) /\ cq p src = .ok (x.2.1, x.2.2)) ?_ ?_
   · refine aa (ab ?_)
     simp [go_sem];refine af ?_;refine al (α := Nat × Option Nat × List au × List UInt8) (fun x => ([(0, .ptr b 0), (1, .fn g []), (19, ci n), (20, ci x.1), (8, xl x.2.1 V.length 8 (x.2.2.1.map aE))], H.set b (some [.sl tk 1 (bs x.2.2.2)]), uY V x.2.1))
      (fun x => x.1 <= n /\ x.2.2.1.length = x.1 /\ (x.2.1 = none -> x.2.2.1 = []) /\ cq p src = ahead x.2.2.1 (gG p (n - x.1) x.2.2.2) /\ x.2.2.2.length <= 1000000000) (fun x => n - x.1) (0, none, [], s) ⟨zero_le _, rfl, fun _ => rfl, by unfold cq; rw [hn]; exact (sT _).symm, by dsimp only; omega⟩
      (ae (by simp [go_sem]) rfl rfl) ?_
     rintro ⟨i, o, xs, s⟩ ⟨hi, hx, ho, hL, hsl⟩;dsimp only at hi hx ho hL hsl ⊢;refine ab ?_;simp [go_sem];refine ⟨fun h => ?_, fun h => ?_⟩
     · refine CC.mono (hg _ _ _ _ s hsl (getElem?_set_self hbl)) ?_
       intro r H' V' hr;unfold Rd at hr;have hnn : n - i = (n - (i + 1)) + 1 := by omega
       rcases hq : p s with e | ⟨a, s'⟩ <;> rw [hq] at hr
       · have he := hp _ _ hq
         obtain ⟨_, s', ⟨cs, rfl, hcs, hall, hokc⟩, rfl, rfl, rfl⟩ := hr;simp [go_sem, hcs, hall, he];exact ao.rdErr (by rw [hL, hnn, yT hq]) (by exact rfl) (by simp [go_sem]) (.refl _) rfl ht oH dh (k7 _ _)
       · obtain ⟨rfl, rfl, rfl⟩ := hr
         have hs' := hs _ _ _ hq;have hL' := hL;rw [hnn, E3 hq] at hL';have hw := aq (show i <= 1000000000 by omega)
         cases o with
         | none =>
          obtain rfl := ho rfl;simp [go_sem];refine ⟨i + 1, some 0, [] ++ [a], s', ⟨by omega, by rw [length_append, hx]; rfl, by simp, hL', by omega⟩, by omega, Sh.cut H.length (V.length + 1) (by simp [go_sem, hw]) (le_refl _) (Nat.le_succ _) (by simp [go_sem, hbl, pb]) (o9 ht (Nat.le_succ _) oH) dh (take_of_length_le (by simp [go_sem]))⟩
         | some v =>
          simp [go_sem];refine ⟨by omega, i + 1, some (v + 1), xs ++ [a], s', ⟨by omega, by rw [length_append, hx]; rfl, by simp, hL', by omega⟩, by omega, Sh.cut H.length (V.length + 1) (by simp [go_sem, hw]) (le_refl _) (Nat.le_succ _) (by simp [go_sem, hbl, pb]) (o9 ht (Nat.le_succ _) oH) dh (take_of_length_le (by simp [go_sem]))⟩
     · exact ⟨o, xs, s, ⟨ho, by rw [hL, show n - i = 0 by omega, gG]; simp [ahead]⟩, ae (by simp [go_sem]) rfl rfl⟩
   · rintro ⟨o, xs, s⟩ ⟨ho, hL⟩
     dsimp only at ho hL ⊢;refine ab ?_;simp [go_sem];exact ao.rdOk hL (by simp [go_sem]) (by exact yZ _ _ _ _ (by decide) ho) rfl ht oH cG (k7 _ _)
theorem wX (H : Hp) (V : List Nat) (b : Nat) (tk : Tk) (src : List UInt8) (hl : src.length <= 1000000000) (hb : H[b]? = some (some [.sl tk 1 (bs src)])) :
 CC Tryz.prog 180 [.ptr b 0] H V (Rd b tk (fun l : List au => .sl .sh 8 (l.map aE)) (· = .v (.slice none 0 0)) (cq lj src) H V) := by
 have hbl := bP hb;refine aj Tryz.func180 rfl fun hok oH => ?_;have ht := dI hb oH;refine aa (ab ?_);simp [go_sem, ai];refine ab ?_;simp [go_sem];refine CC.mono (xp _ _ _ _ _ _ _ zk yL (fun H V b tk src _ hb => AQ H V b tk src hb) hl hb) ?_;intro r H' V' h;unfold Rd at h;rcases hn : cq lj src with e | ⟨l, s⟩ <;> rw [hn] at h
 · obtain ⟨_, s, rfl, rfl, rfl, rfl⟩ := h
   simp [go_sem];exact ao.rdErr rfl (by exact rfl) (by simp [go_sem]) (.refl _) rfl ht oH cG (by simp)
 · obtain ⟨rfl, rfl, rfl⟩ := h
   simp [go_sem];exact ao.rdOk rfl (by simp [go_sem]) (.refl _) rfl ht oH cG (by simp)
theorem DV (H : Hp) (V : List Nat) (b : Nat) (tk : Tk) (src : List UInt8) (hl : src.length <= 1000000000) (hb : H[b]? = some (some [.sl tk 1 (bs src)])) :
 CC Tryz.prog 162 [.ptr b 0] H V (Rd b tk (fun x : Wr => .agg (bq x)) (Ag 3) (po src) H V) := by
 have hbl := bP hb;refine aj Tryz.func162 rfl fun hok oH => ?_;have ht := dI hb oH;refine aa (ab ?_);simp [go_sem, ai];refine aa (ab ?_);simp [go_sem];refine CC.mono (JY _ _ _ _ _ (by rw [getElem?_append_left hbl]; exact hb)) ?_;intro r H' V' h;unfold Rd3 at h;rcases hn : gY src with e | ⟨⟨m, n⟩, s⟩ <;> rw [hn] at h
 · have he := vc _ _ hn
   obtain ⟨m, n, s, rfl, rfl, rfl⟩ := h;simp [go_sem, fU hbl];refine ab ?_;simp [go_sem, he];exact ao.rdErr (by unfold po; rw [hn]) (by exact ⟨_, rfl, rfl, rfl, fun i j => by simp [go_sem]⟩) (by simp [go_sem]) (.refl _) rfl ht oH dh (by simp)
 · obtain ⟨rfl, rfl, rfl⟩ := h
   have hls := uz _ _ _ hn;simp [go_sem, fU hbl];refine ab ?_;simp [go_sem];refine CC.mono (wX _ _ _ _ s (by omega) (by rw [getElem?_append_left (by simpa using hbl)]; exact getElem?_set_self hbl)) ?_;intro r H' V' h;unfold Rd at h;rcases hm : cq lj s with e | ⟨l, s'⟩ <;> rw [hm] at h
   · obtain ⟨_, s', rfl, rfl, rfl, rfl⟩ := h
     simp [go_sem, fU hbl, fU (H := H.set b _) (by simpa using hbl : b < (H.set b _).length)];exact ao.rdErr (by unfold po; rw [hn]; dsimp only; rw [hm]) (by exact ⟨_, rfl, rfl, rfl, fun i j => by simp [go_sem]⟩) (by simp [go_sem]) (.refl _) rfl ht oH dh (by simp)
   · obtain ⟨rfl, rfl, rfl⟩ := h
     simp [go_sem, fU hbl, fU (H := H.set b _) (by simpa using hbl : b < (H.set b _).length)];exact ao.rdOk (val := fun x : Wr => .agg (bq x)) (a := ⟨m, n, l⟩) (by unfold po; rw [hn]; dsimp only; rw [hm]) (by simp [go_sem]) (.refl _) rfl ht oH dh (by simp)
theorem BU (H : Hp) (V : List Nat) (b : Nat) (tk : Tk) (src : List UInt8) (g : Nat) (p : Pr Wr) (hp : DU p) (hs : IL p)
 (hg : ∀ (H : Hp) (V : List Nat) (b : Nat) (tk : Tk) (src : List UInt8), src.length <= 1000000000 -> H[b]? = some (some [.sl tk 1 (bs src)]) -> CC Tryz.prog g [.ptr b 0] H V (Rd b tk (fun a => .agg (bq a)) (Ag 3) (p src) H V))
 (hl : src.length <= 1000000000) (hb : H[b]? = some (some [.sl tk 1 (bs src)])) : CC Tryz.prog 161 [.ptr b 0, .fn g []] H V (Rd b tk (fun l : List Wr => .sl .sh 3 (l.map bq)) (· = .v (.slice none 0 0)) (cq p src) H V) := by
 have hbl := bP hb;refine aj Tryz.func161 rfl fun hok oH => ?_;have ht := dI hb oH;clear hok;refine aa (ab ?_);simp [go_sem, ai];refine aa (ab ?_);simp [go_sem];refine CC.mono (si _ _ _ _ _ hb) ?_;intro r H' V' h;unfold Rd at h;rcases hn : cT src with e | ⟨n, s⟩ <;> rw [hn] at h
 · obtain ⟨_, s, ⟨n, rfl⟩, rfl, rfl, rfl⟩ := h
   have he := lR _ _ hn;simp [go_sem];refine ab ?_;simp [go_sem, he];exact ao.rdErr (by unfold cq; rw [hn]) (by exact rfl) (by simp [go_sem]) (.refl _) rfl ht oH cG (by simp)
 · obtain ⟨rfl, rfl, rfl⟩ := h
   have hn5 := sj hn;have hls := lH _ _ _ hn;simp [go_sem];refine aa (ab ?_);simp [go_sem];refine aa (ab ?_);simp [go_sem];refine am (α := Option Nat × List Wr × List UInt8) (fun x => ([(8, xl x.1 V.length 3 (x.2.1.map bq))], H.set b (some [.sl tk 1 (bs x.2.2)]), uY V x.1)) (fun x => (x.1 = none -> x.2.1 = []) /\ cq p src = .ok (x.2.1, x.2.2)) ?_ ?_
   · refine aa (ab ?_)
     simp [go_sem];refine af ?_;refine al (α := Nat × Option Nat × List Wr × List UInt8) (fun x => ([(0, .ptr b 0), (1, .fn g []), (19, ci n), (20, ci x.1), (8, xl x.2.1 V.length 3 (x.2.2.1.map bq))], H.set b (some [.sl tk 1 (bs x.2.2.2)]), uY V x.2.1))
      (fun x => x.1 <= n /\ x.2.2.1.length = x.1 /\ (x.2.1 = none -> x.2.2.1 = []) /\ cq p src = ahead x.2.2.1 (gG p (n - x.1) x.2.2.2) /\ x.2.2.2.length <= 1000000000) (fun x => n - x.1) (0, none, [], s) ⟨zero_le _, rfl, fun _ => rfl, by unfold cq; rw [hn]; exact (sT _).symm, by dsimp only; omega⟩
      (ae (by simp [go_sem]) rfl rfl) ?_
     rintro ⟨i, o, xs, s⟩ ⟨hi, hx, ho, hL, hsl⟩;dsimp only at hi hx ho hL hsl ⊢;refine ab ?_;simp [go_sem];refine ⟨fun h => ?_, fun h => ?_⟩
     · refine CC.mono (hg _ _ _ _ s hsl (getElem?_set_self hbl)) ?_
       intro r H' V' hr;unfold Rd at hr;have hnn : n - i = (n - (i + 1)) + 1 := by omega
       rcases hq : p s with e | ⟨a, s'⟩ <;> rw [hq] at hr
       · have he := hp _ _ hq
         obtain ⟨_, s', ⟨cs, rfl, hcs, hall, hokc⟩, rfl, rfl, rfl⟩ := hr;simp [go_sem, hcs, hall, he];exact ao.rdErr (by rw [hL, hnn, yT hq]) (by exact rfl) (by simp [go_sem]) (.refl _) rfl ht oH dh (k7 _ _)
       · obtain ⟨rfl, rfl, rfl⟩ := hr
         have hs' := hs _ _ _ hq;have hL' := hL;rw [hnn, E3 hq] at hL';have hw := aq (show i <= 1000000000 by omega)
         cases o with
         | none =>
          obtain rfl := ho rfl;simp [go_sem];refine ⟨i + 1, some 0, [] ++ [a], s', ⟨by omega, by rw [length_append, hx]; rfl, by simp, hL', by omega⟩, by omega, Sh.cut H.length (V.length + 1) (by simp [go_sem, hw]) (le_refl _) (Nat.le_succ _) (by simp [go_sem, hbl, pb]) (o9 ht (Nat.le_succ _) oH) dh (take_of_length_le (by simp [go_sem]))⟩
         | some v =>
          simp [go_sem];refine ⟨by omega, i + 1, some (v + 1), xs ++ [a], s', ⟨by omega, by rw [length_append, hx]; rfl, by simp, hL', by omega⟩, by omega, Sh.cut H.length (V.length + 1) (by simp [go_sem, hw]) (le_refl _) (Nat.le_succ _) (by simp [go_sem, hbl, pb]) (o9 ht (Nat.le_succ _) oH) dh (take_of_length_le (by simp [go_sem]))⟩
     · exact ⟨o, xs, s, ⟨ho, by rw [hL, show n - i = 0 by omega, gG]; simp [ahead]⟩, ae (by simp [go_sem]) rfl rfl⟩
   · rintro ⟨o, xs, s⟩ ⟨ho, hL⟩
     dsimp only at ho hL ⊢;refine ab ?_;simp [go_sem];exact ao.rdOk hL (by simp [go_sem]) (by exact yZ _ _ _ _ (by decide) ho) rfl ht oH cG (k7 _ _)
theorem zY (H : Hp) (V : List Nat) (b : Nat) (tk : Tk) (src : List UInt8) (hl : src.length <= 1000000000) (hb : H[b]? = some (some [.sl tk 1 (bs src)])) :
 CC Tryz.prog 160 [.ptr b 0] H V (Rd b tk (fun l : List Wr => .sl .sh 3 (l.map bq)) (· = .v (.slice none 0 0)) (cq po src) H V) := by
 have hbl := bP hb;refine aj Tryz.func160 rfl fun hok oH => ?_;have ht := dI hb oH;refine aa (ab ?_);simp [go_sem, ai];refine ab ?_;simp [go_sem];refine CC.mono (BU _ _ _ _ _ _ _ FM ER (fun H V b tk src hl hb => DV H V b tk src hl hb) hl hb) ?_;intro r H' V' h;unfold Rd at h;rcases hn : cq po src with e | ⟨l, s⟩ <;> rw [hn] at h
 · obtain ⟨_, s, rfl, rfl, rfl, rfl⟩ := h
   simp [go_sem];exact ao.rdErr rfl (by exact rfl) (by simp [go_sem]) (.refl _) rfl ht oH cG (by simp)
 · obtain ⟨rfl, rfl, rfl⟩ := h
   simp [go_sem];exact ao.rdOk rfl (by simp [go_sem]) (.refl _) rfl ht oH cG (by simp)
abbrev XV : CV := .v (.slice none 0 0)
theorem rA (H : Hp) (V : List Nat) (tk : Tk) (src : List UInt8) (hl : src.length <= 1000000000) : CC Tryz.prog 159 [.sl tk 1 (bs src), .fn 160 []] H V (Pu (ug (fun l : List Wr => .sl .sh 3 (l.map bq)) XV (cq po src)) H V) := by
 refine aj Tryz.func159 rfl fun hok oH => ab ?_;simp [go_sem, ai];refine CC.mono (zY _ _ _ _ _ hl (fL _ _)) ?_;intro r H' V' h;unfold Rd at h;rcases hn : cq po src with e | ⟨l, s⟩ <;> rw [hn] at h
 · have he := (vd FM) _ _ hn
   obtain ⟨_, s, rfl, rfl, rfl, rfl⟩ := h;simp [go_sem, he];exact ao.pu (.refl _) (by simp [go_sem, ug]) oH (by simp) (by simp)
 · have hs := (uA ER) _ _ _ hn
   obtain ⟨rfl, rfl, rfl⟩ := h;simp [go_sem];refine CC.mono (kL _ _ _ _ (by simp only [qV]; omega)) ?_;rintro _ _ _ ⟨v', rfl, rfl, rfl⟩;simp [go_sem];exact ao.pu (.tup (.cons (.refl _) (.cons (.sh ..) (.cons (.refl _) .nil)))) (by simp [go_sem, ug]) oH (by simp) (by simp)
theorem DF (H : Hp) (V : List Nat) (tk : Tk) (src : List UInt8) (hl : src.length <= 1000000000) : CC Tryz.prog 131 [.sl tk 1 (bs src)] H V (Pu (ug (fun l : List Wr => .sl .sh 3 (l.map bq)) XV (cq po src)) H V) := by
 refine aj Tryz.func131 rfl fun hok oH => ab ?_;simp [go_sem, ai];refine ah (rA _ _ _ _ hl) ?_;rcases hn : cq po src with e | ⟨l, s⟩
 · simp [go_sem, ug]
   exact ao.pu (.refl _) (by simp [go_sem]) oH (by simp) (by simp)
 · simp [go_sem, ug]
   exact ao.pu (.refl _) (by simp [go_sem]) oH (by simp) (by simp)
section
section
variable {H H' : Hp} {V V' : List Nat} {src : List UInt8} {x : Except Nat (Nat × List UInt8)}
end
end
section
open Go.Proofs
end
section
def lh : List CV := (List.range 256).map fun j => DQ (rq j)
theorem mi : lh.length = 256 := by rw [lh, length_map, length_range]
theorem EB (i : Nat) (h : i < lh.length) : lh[i] = DQ (rq i) := by
 simp only [lh, getElem_map, List.getElem_range]
theorem ur : aJ lh = true := by
 simp only [aJ, lh, all_map, all_eq_true]; intros; rfl
theorem FG (i j : Nat) : okL i j lh = True := eq_true (by
 rw [co]; intro c hc;simp only [lh, mem_map] at hc;obtain ⟨b, _, rfl⟩ := hc
 trivial)
theorem z8 : lh.take 256 = lh := take_of_length_le (by rw [mi]; exact le_refl _)
theorem G4 {α : Type} {cs : List α} {f : Nat -> α} {i : Nat} (hc : i < cs.length) (ht : cs.take i = (List.range i).map f) : (cs.take i ++ f i :: cs.drop (i + 1)).take (i + 1) = (List.range (i + 1)).map f := by
 have h : (cs.take i).length = i := by rw [length_take]; omega
 rw [take_append, take_of_length_le (by omega), h, show i + 1 - i = 1 by omega, take_succ_cons, take_zero, ht, range_succ, map_append]; rfl
set_option maxRecDepth 20000 in
theorem tg (H : Hp) (V : List Nat) : CC Tryz.prog 185 [] H V (Pu (.agg lh) H V) := by
 refine aj Tryz.func185 rfl fun hok oH => ?_;refine aa (ab ?_);simp [go_sem, ai];refine aa (ab ?_);simp [go_sem];obtain ⟨zs, hzs⟩ : ∃ zs, wJ.map CV.v = zs := ⟨_, rfl⟩
 have hzl : zs.length = 256 := by rw [<- hzs, length_map, wJ, length_replicate]
 rw [hzs];refine am (α := Unit) (fun _ => ([(1, .ptr (H.length + 1) 0), (0, .ptr H.length 0)], H ++ [some zs, some lh], V)) (fun _ => True) ?_ ?_
 · refine aa (ab ?_)
   simp [go_sem];refine af ?_;refine al (α := Nat × List CV) (fun x => ([(5, ci x.1), (1, .ptr (H.length + 1) 0), (0, .ptr H.length 0)], H ++ [some zs, some x.2], V)) (fun x => x.1 <= 256 /\ x.2.length = 256 /\ x.2.take x.1 = (List.range x.1).map fun j => DQ (rq j)) (fun x => 256 - x.1) (0, zs) ⟨zero_le _, hzl, rfl⟩ (ae (by simp [go_sem]) rfl rfl) ?_;rintro ⟨i, cs⟩ ⟨hi, hc, ht⟩;dsimp only at hi hc ht ⊢;refine aa (ab ?_);simp [go_sem];refine aa (ab ?_)
   by_cases h : i < 256
   · simp [go_sem, show (i : Int) < 256 by omega]
     refine aa (af ?_);refine aa (ab ?_);simp [go_sem];refine aa (ab ?_);have hwi := PL (show i < 4294967296 by omega);simp [go_sem, hwi];refine am (α := Unit) (fun _ => ([(3, DQ (rq i)), (2, ci i), (5, ci i), (1, .ptr (H.length + 1) 0), (0, .ptr H.length 0)], H ++ [some zs, some cs], V)) (fun _ => True) ?_ ?_
     · refine aa (ab ?_)
       simp [go_sem];refine af ?_;refine al (α := Nat × kS) (fun x => ([(10, ci x.1), (3, DQ x.2), (2, ci i), (5, ci i), (1, .ptr (H.length + 1) 0), (0, .ptr H.length 0)], H ++ [some zs, some cs], V)) (fun x => x.1 <= 8 /\ bits (8 - x.1) x.2 = rq i) (fun x => 8 - x.1) (0, BitVec.ofNat 32 i) ⟨zero_le _, rfl⟩ (ae (by simp [go_sem]) rfl rfl) ?_;rintro ⟨q, r⟩ ⟨hq, hr⟩;dsimp only at hq hr ⊢;refine ab ?_
       by_cases hq8 : q < 8
       · simp [go_sem, show (q : Int) < 8 by omega, aaS, WX, WR]
         refine ⟨q + 1, qW r, ⟨by omega, ?_⟩, by omega, ae (by simp [go_sem, aq (show q <= 1000000000 by omega)]) rfl rfl⟩;rw [show 8 - q = (8 - (q + 1)) + 1 by omega, bits] at hr;exact hr
       · simp [go_sem, show ¬ (q : Int) < 8 by omega]
         rw [show 8 - q = 0 by omega, bits] at hr;subst hr;exact ae (by simp [go_sem]) rfl rfl
     · rintro _ -
       dsimp only;refine ab ?_;simp [go_sem, h];refine ⟨by omega, by omega, ?_⟩;refine ab ?_;simp [go_sem];exact ⟨i + 1, cs.take i ++ DQ (rq i) :: cs.drop (i + 1), ⟨by omega, by rw [length_append, length_cons, length_take, length_drop]; omega, G4 (f := fun j => DQ (rq j)) (by omega) ht⟩, by omega, ae (by simp [go_sem, aq (show i <= 1000000000 by omega)]) rfl rfl⟩
   · simp [go_sem, show ¬ (i : Int) < 256 by omega]
     have e : cs = lh := by
      have e2 : i = 256 := by omega
      rw [e2, take_of_length_le (by omega)] at ht;exact ht
     rw [e];exact ae (by simp [go_sem]) rfl rfl
 · rintro _ -
   dsimp only;refine ab ?_;simp [go_sem, mi, z8, ur, hzl];exact ao.pu (.refl _) (by simp [go_sem, FG]) oH (by simp) (by simp)
end
theorem DG (H : Hp) (V : List Nat) (tk : Tk) (s : kS) (l : List UInt8) (hl : l.length <= 900000000) : CC Tryz.prog 169 [DQ s, .sl tk 1 (bs l)] H V (Pu (DQ (~~~(vP (~~~s) l))) H V) := by
 refine aj Tryz.func169 rfl fun hok oH => ?_;clear hok;refine aa (ab ?_);simp [go_sem, ai];refine aa (ab ?_);simp [go_sem];refine ah (tg _ _) ?_;have hzl : (wJ.map CV.v).length = 256 := by rw [length_map, wJ, length_replicate]
 have hzl' : wJ.length = 256 := by rw [wJ, length_replicate]
 simp [go_sem, mi, ur, hzl', drop_eq_nil_of_le];refine aa (ab ?_);simp [go_sem, FY, XM];refine am (α := Unit) (fun _ => ([(6, DQ (vP (~~~s) l))], H ++ [some lh], V)) (fun _ => True) ?_ ?_
 · refine aa (ab ?_)
   simp [go_sem];refine af ?_;refine al (α := Nat × kS) (fun x => ([(14, ci x.1), (6, DQ x.2), (5, .ptr H.length 0), (12, .sl tk 1 (bs l)), (13, ci l.length)], H ++ [some lh], V)) (fun x => x.1 <= l.length /\ vP x.2 (l.drop x.1) = vP (~~~s) l) (fun x => l.length - x.1) (0, ~~~s) ⟨zero_le _, rfl⟩ (ae (by simp [go_sem]) rfl rfl) ?_;rintro ⟨i, r⟩ ⟨hi, hr⟩;dsimp only at hi hr ⊢;refine ab ?_
   by_cases h : i < l.length
   · rw [drop_eq_getElem_cons h] at hr
     have hr : vP (JT r l[i]) (l.drop (i + 1)) = vP (~~~s) l := hr;rw [BE] at hr;have hx : (r ^^^ BitVec.ofNat 32 l[i].toNat).toNat % 256 < 256 := Nat.mod_lt _ (by omega);have hx8 := aeM r l[i];generalize (r ^^^ BitVec.ofNat 32 l[i].toNat).toNat % 256 = j at hr hx hx8;simp [go_sem, h, WW, hx8, hx, mi, EB, aeL];exact ⟨by omega, i + 1, r >>> 8 ^^^ rq j, ⟨by omega, hr⟩, by omega, ae (by simp [go_sem, aq (show i <= 1000000000 by omega)]) rfl rfl⟩
   · simp [go_sem, h]
     rw [drop_eq_nil_of_le (by omega)] at hr;have hr : r = vP (~~~s) l := hr;rw [<- hr];exact ae (by simp [go_sem]) rfl rfl
 · rintro _ -
   dsimp only;refine ab ?_;simp [go_sem, FY, XM];exact ao.pu (.refl _) (by simp [go_sem]) oH (by simp) (by simp)
theorem IK (H : Hp) (V : List Nat) (tk : Tk) (l : List UInt8) (hl : l.length <= 900000000) : CC Tryz.prog 145 [.sl tk 1 (bs l)] H V (Pu (DQ (HQ l)) H V) := by
 refine aj Tryz.func145 rfl fun hok oH => ab ?_;simp [go_sem, ai];refine ah (DG H V tk 0#32 l hl) ?_;simp [go_sem];exact ao.pu (.refl _) (by simp [go_sem]) oH (by simp) (by simp)
def FP (len n : Nat) : Nat := (len + n - 1) / n
theorem FO {len n i : Nat} (hn : 1 <= n) : i < FP len n ↔ n * i < len := by
 unfold FP;rw [Nat.lt_div_iff_mul_lt (by omega), Nat.mul_comm];omega
theorem PO {len n : Nat} (hn : 1 <= n) : FP len n <= len := by
 rcases Nat.lt_or_ge len (FP len n) with h | h
 · have := (FO (len := len) hn).1 h
   have := Nat.le_mul_of_pos_left len hn;omega
 · exact h
def jL (l : List UInt8) (n i : Nat) : List UInt8 := (l.drop (n * i)).take n
theorem IR (H : Hp) (V : List Nat) (tk : Tk) (l : List UInt8) (n : Nat) (hn : 1 <= n) (hok : gr V.length tk) : CC Tryz.prog 146 [.sl tk 1 (bs l), ci n] H V (fun r H' V' => r = .fn 170 [.ptr H.length 0, .ptr (H.length + 1) 0] /\ H' = H ++ [some [.sl tk 1 (bs l)], some [ci n]] /\ V = V') := by
 refine aj Tryz.func146 rfl fun hok' oH => ?_;refine aa (ab ?_);simp [go_sem, ai];refine aa (aa (ab ?_));simp [go_sem, show ¬ (n : Int) < 1 by omega];refine ab ?_;simp [go_sem];refine aa (ab ?_);simp [go_sem];refine ab ?_;simp [go_sem];refine ao.cut (H.length + 2) V.length ⟨rfl, rfl, rfl⟩ (by omega) (le_refl _) (take_of_length_le (by simp)) (take_of_length_le (le_refl _)) (.refl _) (by simp [go_sem]) ?_;intro b cs hb;rw [getElem?_append] at hb
 split at hb
 · exact aO (by omega) (le_refl _) (oH b cs hb)
 · exact cK (i := H.length + 2) (j := V.length) (L := [some [.sl tk 1 (bs l)], some [ci n]]) (by simp [go_sem, fh, hok]) _ _ hb
theorem C3 (H : Hp) (V : List Nat) (L b2 b3 : Nat) (tk : Tk) (l : List UInt8) (n : Nat) (hn : 1 <= n) (hn2 : n <= 1000000) (hl : l.length <= 1000000000) (I : Nat -> Hp -> List Nat -> Prop) (h0 : I 0 H V)
 (hI : ∀ i H V, I i H V -> H[b2]? = some (some [.sl tk 1 (bs l)]) /\ H[b3]? = some (some [ci n]))
 (hy : ∀ i, i < FP l.length n -> ∀ H V, I i H V -> YC Tryz.prog L [.sl .ti 1 (bs (jL l n i))] H V (fun r H' V' => r = .v (.bool true) /\ I (i + 1) H' V')) :
 CC Tryz.prog 170 [.yl L, .ptr b2 0, .ptr b3 0] H V (fun _ H' V' => I (FP l.length n) H' V') := by
 refine aj Tryz.func170 rfl fun hok oH => ?_;clear hok;refine aa (ab ?_);simp [go_sem, ai];refine af ?_;refine al (α := Nat × Hp × List Nat) (fun x => ([(0, .yl L), (1, .ptr b2 0), (2, .ptr b3 0), (4, ci (n * x.1 : Nat))], x.2.1, x.2.2)) (fun x => x.1 <= FP l.length n /\ I x.1 x.2.1 x.2.2) (fun x => FP l.length n - x.1) (0, H, V) ⟨by omega, h0⟩ (ae (by simp [go_sem]) rfl rfl) ?_;rintro ⟨i, H1, V1⟩ ⟨hi, hi1⟩;dsimp only at hi hi1 ⊢;obtain ⟨g2, g3⟩ := hI _ _ _ hi1;have hlt := FO (len := l.length) (i := i) hn;obtain ⟨p, hp⟩ : ∃ p, p = n * i := ⟨_, rfl⟩
 rw [<- hp] at hlt ⊢;refine aa (aa (ab ?_));simp [go_sem, ak g2, ak g3]
 by_cases h : i < FP l.length n
 case neg =>
  have hpl : ¬ p < l.length := fun q => h (hlt.2 q);refine ab ?_;simp [go_sem, hpl];obtain rfl : i = FP l.length n := by omega
  exact ao.self hi1
 have hpl := hlt.1 h;refine ab ?_;simp [go_sem, hpl];obtain ⟨q, hq⟩ : ∃ q : Nat, q = min n (l.length - p) := ⟨_, rfl⟩
 have hqm : min (n : Int) ((l.length - p : Nat) : Int) = (q : Int) := by omega
 have hqp : p + q <= l.length := by omega
 have w1 : IntKind.i64.wrap ((p : Int) + (q : Int)) = ((p + q : Nat) : Int) := by rw [IntWalk.i64_in _ ⟨by omega, by omega⟩]; omega
 have w2 : IntKind.i64.wrap ((p : Int) + (n : Int)) = ((p + n : Nat) : Int) := by rw [IntWalk.i64_in _ ⟨by omega, by omega⟩]; omega
 have hpc : ((l.take ((p : Int) + (q : Int)).toNat).drop p) = jL l n i := by
  unfold jL;rw [show ((p : Int) + (q : Int)).toNat = p + q by omega];rw [<- hp, drop_take, Nat.add_sub_cancel_left, hq];rcases Nat.le_total n (l.length - p) with h1 | h1
  · rw [Nat.min_eq_left h1]
  · rw [Nat.min_eq_right h1, take_of_length_le (by simp), take_of_length_le (by simpa using h1)]
 refine aa (af (aa ?_));refine az [] [] (.s 0 .pl <| .s 1 .pl <| .s 2 .pl <| .s 3 .pl <| .s 4 .pl <| .s 5 .pl <| .s 6 .pl <| .n) ?_;simp [go_sem, ak g2, ak g3, hqm, show p <= l.length by omega];refine aa (ab ?_);simp [go_sem, ak g2, ak g3, w1, hpc];refine ⟨by omega, by omega, by omega, ?_⟩;refine YC.mono (hy i h _ _ hi1) ?_;rintro _ H2 V2 ⟨rfl, hi2⟩;obtain ⟨k2, k3⟩ := hI _ _ _ hi2;simp [go_sem];refine ab ?_;simp [go_sem];refine ab ?_;simp [go_sem, ak k2, ak k3, w2];refine ⟨i + 1, H2, V2, ⟨by omega, hi2⟩, by omega, ae ?_ rfl rfl⟩;have e : (n : Int) * ((i : Int) + 1) = (p : Int) + (n : Int) := by rw [Int.mul_add, Int.mul_one]; omega
 simp [go_sem, e]
structure cV where
 kind : Int
 sq : Int
 pay : List UInt8
def gl (r : cV) : List CV := [.v (.int .i64 r.kind), .v (.int .i64 r.sq), .sl .sh 1 (bs r.pay)]
@[go_sem, simp] theorem abW (r : cV) : (gl r).length = 3 := by rw [gl]; rfl
@[go_sem, simp] theorem W5 (r : cV) : (gl r).take 3 = gl r := rfl
@[go_sem, simp] theorem W6 (r : cV) : (gl r).drop 3 = [] := rfl
@[go_sem, simp] theorem abX (r : cV) : aJ (gl r) = true := rfl
@[go_sem, simp] theorem agD (r : cV) (h : 0 < (gl r).length) : (gl r)[0] = CV.v (.int .i64 r.kind) := rfl
@[go_sem, simp] theorem agC (r : cV) (h : 1 < (gl r).length) : (gl r)[1] = CV.v (.int .i64 r.sq) := rfl
@[go_sem, simp] theorem agB (r : cV) (h : 2 < (gl r).length) : (gl r)[2] = .sl .sh 1 (bs r.pay) := rfl
@[go_sem] theorem mz (i j : Nat) (r : cV) : okL i j (gl r) = True := by simp [gl, go_sem, okL, aK]
@[go_sem] theorem zh (i j : Nat) (l : List cV) : fO i j (l.map gl) = True := eq_true (fj gl l fun e => by rw [mz]; trivial)
def zrc : cV := ⟨0, 0, []⟩
def gD (kind : Int) (p : List UInt8) : List UInt8 := wH kind :: UInt8.ofNat (p.length % 256) :: UInt8.ofNat (p.length / 256 % 256) :: p
def bA (kind : Int) (p : List UInt8) : List UInt8 := gD kind p ++ iR (HQ (gD kind p)).toNat
def W7 (st : List UInt8) (i : Nat) : List UInt8 := let q := (st.drop (4 * i)).take 4; q ++ List.replicate (4 - q.length) 0
def gk (sq : Nat) (st : List UInt8) (i : Nat) : au := zm (iR sq ++ W7 st i)
def dD (sq : Nat) (st : List UInt8) : List au := (List.range ((st.length + 3) / 4)).map (gk sq st)
def ne (n : Int) : Int := if n < 0 \/ 4096 < n then 0 else (n + 10) / 4
def hO (r : cV) : Except Nat (List au) :=
 if r.kind < 1 \/ 255 < r.kind \/ r.sq < 1 \/ 4294967295 < r.sq then .error 2 else if 4096 < r.pay.length then .error 5 else .ok (dD r.sq.toNat (bA r.kind r.pay))
def ig (s : au) : Nat := (s.val.getD 5 0).toNat + 256 * (s.val.getD 6 0).toNat
structure bW where
 start : Int
 count : Int
 head : Int
 tail : Int
 first : Int
 sizes : List Int
def fA (j : bW) : List CV := [.v (.int .i64 j.start), .v (.int .i64 j.count), .v (.int .i64 j.head), .v (.int .i64 j.tail), .v (.int .i64 j.first), .sl .sh 1 (j.sizes.map ic)]
@[go_sem, simp] theorem acN (r : bW) : (fA r).length = 6 := by rw [fA]; rfl
@[go_sem, simp] theorem XZ (r : bW) : (fA r).take 6 = fA r := rfl
@[go_sem, simp] theorem X0 (r : bW) : (fA r).drop 6 = [] := rfl
@[go_sem, simp] theorem SP (r : bW) : (fA r).take 2 = [.v (.int .i64 r.start), .v (.int .i64 r.count)] := rfl
@[go_sem, simp] theorem acO (r : bW) : aJ (fA r) = true := rfl
@[go_sem, simp] theorem agW (r : bW) (h : 0 < (fA r).length) : (fA r)[0] = CV.v (.int .i64 r.start) := rfl
@[go_sem, simp] theorem agV (r : bW) (h : 1 < (fA r).length) : (fA r)[1] = CV.v (.int .i64 r.count) := rfl
@[go_sem, simp] theorem agU (r : bW) (h : 2 < (fA r).length) : (fA r)[2] = CV.v (.int .i64 r.head) := rfl
@[go_sem, simp] theorem agT (r : bW) (h : 3 < (fA r).length) : (fA r)[3] = CV.v (.int .i64 r.tail) := rfl
@[go_sem, simp] theorem agS (r : bW) (h : 4 < (fA r).length) : (fA r)[4] = CV.v (.int .i64 r.first) := rfl
@[go_sem, simp] theorem agR (r : bW) (h : 5 < (fA r).length) : (fA r)[5] = .sl .sh 1 (r.sizes.map ic) := rfl
@[go_sem] theorem okL_jrC (i j : Nat) (r : bW) : okL i j (fA r) = True := by simp [fA, go_sem, okL, aK, aR]
def nd : bW := ⟨0, 0, 0, 0, 0, []⟩
def bf (s c : Int) : Bool := decide (0 <= s) && decide (20 <= c) && decide (s <= 4096) && decide (c <= 4096 - s)
def ay (l : List Int) : Int := l.foldl (· + ·) 0
def jR (n : Int) : Bool := decide (2 <= n) && decide (n <= 1026)
def cE (j : bW) : Bool :=
 bf j.start j.count && decide (0 <= j.head) && decide (j.head < j.count - 16) && decide (1 <= j.first) && decide (j.first <= 1073741824) && j.sizes.all jR && decide (ay j.sizes <= j.count - 16) &&
  decide (j.tail = (j.head + ay j.sizes) % (j.count - 16)) && decide (j.first + j.sizes.length <= 1073741824)
def gB (j : bW) : Int := j.count - 16 - ay j.sizes
def ax (j : bW) : Int := j.first + j.sizes.length
def dQ (s c p : Int) (l : List au) : List bO :=
 let k := min l.length (c - 16 - p).toNat
 dG (s + 16 + p) (l.take k) :: (if k < l.length then [dG (s + 16) (l.drop k)] else [])
def bk (h f : Int) : List UInt8 := dP h ++ dP f
def b8 (s c : Int) : bW × List bO × Nat :=
 if bf s c = false then (nd, [], 2) else
 if (dz s (bk 0 1)).2 ≠ 0 then (nd, [], (dz s (bk 0 1)).2) else (⟨s, c, 0, 0, 1, []⟩, dG (s + 16) (List.replicate (c - 16).toNat aP) :: cO :: (dz s (bk 0 1)).1, 0)
def gh (j : bW) (kind : Int) (p : List UInt8) : bW × List bO × Nat :=
 if cE j = false then (nd, [], 3) else
 match hO ⟨kind, ax j, p⟩ with
 | .error e => (nd, [], e)
 | .ok l =>
  if 1073741824 <= ax j then (nd, [], 6) else if gB j < l.length then (nd, [], 11)
  else (⟨j.start, j.count, j.head, (j.tail + l.length) % (j.count - 16), j.first, j.sizes ++ [(l.length : Int)]⟩, dQ j.start j.count j.tail l ++ [cO], 0)
theorem wV (H : Hp) (V : List Nat) (tk : Tk) (l : List dH) (d : Dk) (b : Nat) (hb : H[b]? = some (some (cj d))) (hl : l.length <= 900000000) :
 CC Tryz.prog 123 [.sl tk 9 (l.map dw), .fn 71 [.ptr b 0]] H V (Ix (l.any (iH d)) H V) := by
 refine aj Tryz.func123 rfl fun hok oH => ?_;clear hok;refine aa (ab ?_);simp [go_sem, ai];refine am (α := Unit) (fun _ => ([], H, V)) (fun _ => l.any (iH d) = false) ?_ ?_
 · refine aa (ab ?_)
   simp [go_sem];refine af ?_;refine al (α := Nat) (fun i => ([(0, .sl tk 9 (l.map dw)), (1, .fn 71 [.ptr b 0]), (7, ci l.length), (8, ci i)], H, V)) (fun i => i <= l.length /\ (l.take i).any (iH d) = false) (fun i => l.length - i) 0 ⟨zero_le _, rfl⟩
    (ae (by simp [go_sem]) rfl rfl) ?_
   rintro i ⟨hi, hp⟩;dsimp only;refine ab ?_;simp [go_sem];refine ⟨fun h => ⟨h, ?_⟩, fun h => ⟨?_, ae (by simp [go_sem]) rfl rfl⟩⟩
   · refine ah (xe _ _ d _ _ hb) ?_
     rcases hq : iH d l[i] with - | -
     · simp [go_sem]
       refine ⟨i + 1, ⟨by omega, by simpa using m7 h hp hq⟩, by omega, ae ?_ rfl rfl⟩;simp [go_sem, aq (show i <= 1000000000 by omega)]
     · simp [go_sem]
       exact ao.ix (by rw [ua h hq]; simp) oH (by simp) (by simp)
   · rw [take_of_length_le h] at hp; simpa using hp
 · rintro _ hp
   dsimp only;refine ab ?_;simp [go_sem];exact ao.ix (by rw [hp]; rfl) oH (by simp) (by simp)
theorem rv (H : Hp) (V : List Nat) (tk : Tk) (l : List dH) (d : Dk) (b : Nat) (hb : H[b]? = some (some (cj d))) (hl : l.length <= 900000000) :
 CC Tryz.prog 70 [.sl tk 9 (l.map dw), .fn 71 [.ptr b 0]] H V (Pu (cb (l.any (iH d))) H V) := by
 refine aj Tryz.func70 rfl fun hok oH => ab ?_;simp [go_sem, ai];refine CC.mono (wV _ _ _ _ d _ hb hl) ?_;rintro _ _ _ ⟨k, rfl, hk, rfl, rfl⟩;simp [go_sem];exact aA hk oH (by simp) (by simp)
def rL (d : Dk) : Prop := d.stable.length <= 1000000 /\ d.cache.length <= 1000000
theorem eO (H : Hp) (V : List Nat) (d : Dk) (hl : rL d) : CC Tryz.prog 30 [.agg (cj d)] H V (Pu (er (aH d)) H V) := by
 refine aj Tryz.func30 rfl fun hok oH => ?_;clear hok;refine aa (ab ?_);simp [go_sem, ai];refine ab ?_
 by_cases h1 : 4096 < d.stable.length
 · simp [go_sem, show (4096 : Int) < d.stable.length by omega]
   exact ao.er (by rw [aH, if_pos (.inl h1)]) oH (by simp) (by simp)
 · simp [go_sem, show ¬ (4096 : Int) < d.stable.length by omega]
   refine ah (rv _ _ .sh _ d _ (by simp) (by have := hl.2; omega)) ?_;rcases hq : d.cache.any (iH d) with - | -
   · simp [go_sem]
     exact ao.er (by rw [aH, if_neg (by simp only [hq, not_or]; exact ⟨h1, by decide⟩)]) oH (by simp) (by simp)
   · simp [go_sem]
     exact ao.er (by rw [aH, if_pos (.inr hq)]) oH (by simp) (by simp)
theorem xb (H : Hp) (V : List Nat) (tk : Tk) (l : List dH) (hx : l.length <= 1000000000) : CC Tryz.prog 93 [.sl tk 9 (l.map dw)] H V (Fr 9 (l.map dw) H V) := by
 refine aj Tryz.func93 rfl fun hok oH => ?_;clear hok;refine aa (ab ?_);simp [go_sem, ai];refine aa (ab ?_);simp [go_sem];refine ⟨ab ?_, fun e => ao.frtok (by decide) (.inl ⟨rfl, by rw [e]; rfl⟩) (by simp [go_sem]) oH (by simp) (by simp)⟩;simp [go_sem];exact ⟨by omega, ao.fr (by simp [go_sem]) oH (by simp)⟩
theorem lK (H : Hp) (V : List Nat) (tk : Tk) (l : List au) (hx : l.length <= 1000000000) : CC Tryz.prog 88 [.sl tk 8 (l.map aE)] H V (Fr 8 (l.map aE) H V) := by
 refine aj Tryz.func88 rfl fun hok oH => ?_;clear hok;refine aa (ab ?_);simp [go_sem, ai];refine aa (ab ?_);simp [go_sem];refine ⟨ab ?_, fun e => ao.frtok (by decide) (.inl ⟨rfl, by rw [e]; rfl⟩) (by simp [go_sem]) oH (by simp) (by simp)⟩;simp [go_sem];exact ⟨by omega, ao.fr (by simp [go_sem]) oH (by simp)⟩
theorem pK (H : Hp) (V : List Nat) (tk : Tk) (l : List au) (h0 : l ≠ []) (hx : l.length <= 1000000000) : CC Tryz.prog 88 [.sl tk 8 (l.map aE)] H V (fun r H' V' => r = .bsl H.length 0 l.length 8 /\ H' = H ++ [some (aQ l)] /\ V = V') := by
 have hne : l.map aE ≠ [] := fun e => h0 (by simpa using e);refine aj Tryz.func88 rfl fun hok oH => ?_;clear hok;refine aa (ab ?_);simp [go_sem, ai];refine aa (ab ?_);simp [go_sem];refine ⟨aa (ac.opx (pre := [_, _]) (post := [_]) rfl (by intro c e; cases e) ?_), fun e => absurd e h0⟩;simp [go_sem];refine ⟨_, _, _, mc (sz := 8) (tk := tk) (ys := l.map aE) ta ta rfl rfl hne (by rw [length_map]; omega), ?_⟩;rw [length_map];refine ab ?_;simp [go_sem];refine ao.cut (H.length + 1) V.length ⟨rfl, rfl, rfl⟩ (Nat.le_succ _) (le_refl _) (take_of_length_le (by simp)) (take_of_length_le (le_refl _)) (.bsa _ _ _) (by simp [go_sem]) ?_;intro b cs hb;rw [getElem?_append] at hb
 split at hb
 · exact aO (Nat.le_succ _) (le_refl _) (oH b cs hb)
 · exact cK (i := H.length + 1) (j := V.length) (L := [some (aQ l)]) (by simp [go_sem]) _ _ hb
@[go_sem, simp] theorem RF (c : dH) : (dw c).tail = aE c.data := rfl
def NL (d : Dk) (i : Nat) : List au := (d.cache.take i).foldl wW d.stable
theorem zj (d : Dk) (i : Nat) : (NL d i).length = d.stable.length := d5 _ _
theorem KD (d : Dk) (i : Nat) (h : d.cache.length <= i) : NL d i = aU d := by rw [NL, take_of_length_le h]; rfl
theorem FK (d : Dk) (i : Nat) (h : i < d.cache.length) : NL d (i + 1) = (NL d i).set d.cache[i].pos.toNat d.cache[i].data := kg _ _ _ _ h
theorem zQ {d : Dk} (h : aH d = 0) (i : Nat) (hi : i < d.cache.length) : 0 <= d.cache[i].pos /\ d.cache[i].pos.toNat < d.stable.length := (kO h).2 _ (getElem_mem hi)
theorem pG (H : Hp) (V : List Nat) (d : Dk) (hl : rL d) (hc : aH d = 0) : CC Tryz.prog 127 [.agg (cj d)] H V (Pu (aF (aU d)) H V) := by
 refine aj Tryz.func127 rfl fun hok oH => ?_
 clear hok
 have hl1 := hl.1
 have hl2 := hl.2
 refine aa (ab ?_)
 simp -implicitDefEqProofs [go_sem, ai]
 refine aa (ab ?_)
 simp -implicitDefEqProofs [go_sem]
 by_cases h0 : d.stable = []
 · have h1 : d.cache = [] := by
    rcases hd : d.cache with - | ⟨c, l⟩
    · rfl
    · have := zQ hc 0 (by rw [hd]; simp)
      rw [h0] at this; simp at this
   have hn : aU d = [] := by rw [aU, h1, h0]; rfl
   refine CC.mono (lK _ _ .sh _ (by omega)) ?_
   rintro _ _ _ ⟨v, rfl, rfl, rfl⟩
   simp -implicitDefEqProofs [go_sem]
   refine am (α := Unit) (fun _ => ([(3, .sl .sh 8 [])], H ++ [some (cj d)], V ++ [v])) (fun _ => True) ?_ ?_
   · refine aa (ab ?_)
     simp -implicitDefEqProofs [go_sem]
     refine af ?_
     refine al (α := Unit) (fun i => ([(3, .sl .sh 8 []), (11, ci 0), (12, ci 0)], H ++ [some (cj d)], V ++ [v])) (fun i => True) (fun i => 0) () trivial (ae (by simp -implicitDefEqProofs [go_sem, h0, h1]) rfl rfl) ?_
     rintro i -
     dsimp only
     refine ab ?_
     simp -implicitDefEqProofs [go_sem]
     exact ae (by simp -implicitDefEqProofs [go_sem]) rfl rfl
   · rintro _ -
     dsimp only
     refine ab ?_
     simp -implicitDefEqProofs [go_sem]
     exact ao.pu (by rw [hn]; exact .refl _) (by simp -implicitDefEqProofs [go_sem]) oH (by simp) (by simp)
 refine CC.mono (pK _ _ .sh _ h0 (by omega)) ?_
 rintro _ _ _ ⟨rfl, rfl, rfl⟩
 simp -implicitDefEqProofs [go_sem]
 refine am (α := Unit) (fun _ => ([(3, .bsl (H.length + 1) 0 d.stable.length 8)], H ++ [some (cj d), some (aQ (aU d))], V)) (fun _ => True) ?_ ?_
 · refine aa (ab ?_)
   simp -implicitDefEqProofs [go_sem]
   refine af ?_
   refine al (α := Nat) (fun i => ([(3, .bsl (H.length + 1) 0 d.stable.length 8), (10, oE d.cache), (11, ci d.cache.length), (12, ci i)], H ++ [some (cj d), some (aQ (NL d i))], V)) (fun i => i <= d.cache.length) (fun i => d.cache.length - i) 0 (zero_le _)
    (ae (by simp -implicitDefEqProofs [go_sem]) (by simp [NL]) rfl) ?_
   rintro i hi
   dsimp only
   refine ab ?_
   simp -implicitDefEqProofs [go_sem]
   refine ⟨fun h => ?_, fun h => ae (by simp -implicitDefEqProofs [go_sem]) (by rw [KD _ _ h]) rfl⟩
   obtain ⟨c1, c2⟩ := zQ hc i h
   refine ⟨h, c1, by omega, by rw [zj]; omega, i + 1, by omega, by omega, Sh.trim (L := [some (cj d), some (aQ (NL d (i + 1)))]) ?_ ?_ oH ?_ (le_refl _) ?_ (by simp)⟩
   · simp -implicitDefEqProofs [go_sem, aq (show i <= 1000000000 by omega)]
   · simp -implicitDefEqProofs [go_sem]
   · simp -implicitDefEqProofs [go_sem]
   · rw [FK _ _ h, <- pJ (by rw [zj]; omega)]; simp
 · rintro _ -
   dsimp only
   refine ab ?_
   simp -implicitDefEqProofs [go_sem]
   refine ao.froz (b := H.length + 1) (cs := aQ (aU d)) ⟨rfl, rfl, rfl⟩ (.refl _) (by simp) (xs := (aU d).map aE) (by rw [drop_zero, <- bR, cU]) (by simp [bR]; omega) (by omega) (by simp -implicitDefEqProofs [go_sem]) oH (by simp) (by simp)
theorem jQ (i j : Nat) (e : Nat) : aK i j (er e) := by rw [er, aK]; trivial
theorem pM (H : Hp) (V : List Nat) (d : Dk) (e : wA) (hl : rL d) : CC Tryz.prog 74 [.agg (cj d), .agg (rF e)] H V (Pu (.tup [aF (bD d e.start e.count).1, er (bD d e.start e.count).2]) H V) := by
 refine aj Tryz.func74 rfl fun hok oH => ?_;clear hok;have hl1 := hl.1;have hl2 := hl.2;refine aa (ab ?_);simp [go_sem, ai];refine aa (ab ?_);simp [go_sem];refine ah (eO _ _ d hl) ?_;simp [go_sem];refine ⟨fun hc => ?_, fun hc => ?_⟩
 case refine_1 =>
  have hr : bD d e.start e.count = ([], aH d) := by rw [bD, if_pos hc]
  rw [hr];exact ao.tup2 (by exact .nil 8 (by decide)) (.refl _) (by simp [go_sem]) (by simp [go_sem]) oH (by simp) (by simp)
 refine aa (ab ?_);simp [go_sem];refine ah (pH _ _ d e.start e.count (by omega)) ?_;simp [go_sem];rcases hq : bn d e.start e.count with - | -
 · simp [go_sem]
   have hr : bD d e.start e.count = ([], 2) := by rw [bD, if_neg (by simp [hc]), if_pos hq]
   rw [hr];exact ao.tup2 (by exact .nil 8 (by decide)) (.refl _) (by simp [go_sem]) (by simp [go_sem]) oH (by simp) (by simp)
 have hi : 0 <= e.start /\ 0 <= e.count /\ e.count <= (d.stable.length : Int) /\ e.start <= (d.stable.length : Int) - e.count := by
  simpa [bn, and_assoc] using hq
 have hr : bD d e.start e.count = (((aU d).drop e.start.toNat).take e.count.toNat, 0) := by rw [bD, if_neg (by simp [hc]), if_neg (by simp [hq])]
 rw [hr];obtain ⟨i1, i2, i3, i4⟩ := hi;simp [go_sem];refine aa (ac.drawnL [0, 2, 3, 4, 5, 6, 7, 8, 9, 10, 11, 12, 13, 1, 14, 15, 16] (by kernel_rfl) (by kernel_rfl) rfl ?_);simp [go_sem, IntWalk.i64_in (e.start + e.count) ⟨by omega, by omega⟩];refine ah (pG _ _ d hl hc) ?_;simp [go_sem];have hn := bR d;refine ⟨i1, by omega, by omega, by omega, ab ?_⟩;simp [go_sem];refine ao.tup2 ?_ (.refl _) (cn _ _ _) (jQ _ _ _) oH (by simp) (by simp);have e1 : (e.start + e.count).toNat = e.start.toNat + e.count.toNat := by omega
 refine .trans (.sh _ _ _) (.of_eq ?_);rw [aF, e1, drop_take, Nat.add_sub_cancel_left, map_take, map_drop]
def Ap (j : Nat) (l : List dH) (cv : CV) (V : List Nat) : Prop := (cv = .v (.slice none 0 0) /\ l = []) \/ ∃ k v, cv = .sl (.own k v) 9 (l.map dw) /\ V[k]? = some v /\ j <= k
theorem Ap.le {j : Nat} {l : List dH} {cv : CV} {V : List Nat} (h : Ap j l cv V) : Le cv (oE l) := by
 rcases h with ⟨rfl, rfl⟩ | ⟨k, v, rfl, _⟩
 · exact .nil 9 (by decide)
 · exact .sh _ _ _
theorem Ap.one {j : Nat} {l : List dH} {cv : CV} {V : List Nat} (h : Ap j l cv V) : cv.one = true := by
 rcases h with ⟨rfl, rfl⟩ | ⟨k, v, rfl, _⟩ <;> rfl
theorem Ap.ok {i j : Nat} {l : List dH} {cv : CV} {V : List Nat} (h : Ap j l cv V) : aK i V.length cv := by
 rcases h with ⟨rfl, rfl⟩ | ⟨k, v, rfl, h, _⟩
 · rw [aK]; trivial
 · rw [tt, f9]; exact ⟨(List.getElem?_eq_some_iff.1 h).1, trivial⟩
def XR (X j : Nat) (r : CV) (d : Dk) (H : Hp) (V : List Nat) : CV -> Hp -> List Nat -> Prop := fun r' H' V' => r' = r /\ ∃ cv, H' = H.set X (some [aF d.stable, cv]) /\ Ap j d.cache cv V' /\ V'.take j = V.take j /\ V.length <= V'.length
def gm (a : Int) (l : List au) : List dH := l.zipIdx.map fun p => ⟨a + p.2, p.1⟩
theorem uR (a : Int) (l : List au) : (gm a l).length = l.length := by simp [gm]
theorem nw (a : Int) (l : List au) (i : Nat) (h : i < l.length) : gm a (l.take (i + 1)) = gm a (l.take i) ++ [⟨a + i, l[i]⟩] := by
 rw [take_succ_eq_append_getElem h, gm, gm, List.zipIdx_append, map_append];simp [Nat.min_eq_left (Nat.le_of_lt h)]
def R3 (d : Dk) (a : Int) (l : List au) : Dk := ⟨d.stable, d.cache ++ gm a l⟩
theorem AA (H : Hp) (V : List Nat) (X j : Nat) (hX : X < H.length) (d : Dk) (o : bO) (cv : CV) (ha : Ap j d.cache cv V) (hj : j <= V.length) (hl : rL d) (hl2 : d.cache.length + o.data.length <= 1000000) (hok0 : ∀ (b : Nat) cs, (H.set X (some [aF d.stable, cv]))[b]? = some (some cs) -> okL H.length V.length cs) :
 CC Tryz.prog 94 [.ptr X 0, .agg (fN o)] (H.set X (some [aF d.stable, cv])) V (XR X j (er (if bn d o.pos o.data.length then 0 else 2)) (if bn d o.pos o.data.length then R3 d o.pos o.data else d) H V) := by
 refine aj Tryz.func94 rfl fun hok oH => ?_;clear hok;have h1 := hl.1;refine aa (ab ?_);simp [go_sem, ai];refine aa (aa (ac.drawnL (List.range 11) (by kernel_rfl) (by kernel_rfl) rfl ?_));simp [go_sem, List.range, List.range.loop, hX];refine CC.le (.cons (.agg (.cons (.refl _) (.cons ha.le .nil))) (.cons (.refl _) (.cons (.refl _) .nil))) (CC.mono (pH _ _ d o.pos _ (by omega)) ?_);rintro _ _ _ ⟨rfl, rfl, rfl⟩;simp [go_sem];refine ab ?_;have fin : ∀ (e : Nat) (d' : Dk) (cv' : CV) (L : Hp) (V' : List Nat), Ap j d'.cache cv' V' -> V'.take j = V.take j -> j <= V'.length -> V.length <= V'.length -> d'.stable = d.stable →
  ao H.length V.length (XR X j (er e) d' H V) (er e) (H.set X (some [aF d.stable, cv']) ++ L) V' := fun e d' cv' L V' h1 h2 h3 h4 h5 => by
  refine ao.cut (H.length) V'.length ⟨rfl, cv', by rw [h5], h1, h2, h4⟩ (le_refl _) h4 (by rw [take_append_of_le_length (by simp), take_of_length_le (by simp)]) (take_of_length_le (le_refl _)) (.refl _) (jQ _ _ _) ?_;intro b cs hb
  by_cases hbX : b = X
  · subst hbX
    rw [getElem?_set_self hX] at hb;simp at hb; subst hb;rw [okL, okL, okL];exact ⟨cn _ _ _, h1.ok, trivial⟩
  · refine aO (le_refl _) h4 (hok0 b cs ?_)
    rw [getElem?_set_ne (fun e => hbX e.symm)] at hb ⊢;exact hb
 have okX : ∀ (l : List dH) (cv' : CV) (V' : List Nat), Ap j l cv' V' -> V.length <= V'.length -> ∀ (b : Nat) cs, (H.set X (some [aF d.stable, cv']) ++ [some (fN o)])[b]? = some (some cs) -> okL (H.length + 1) V'.length cs := fun l cv' V' h1 h4 b cs hb => by
  rw [getElem?_append] at hb
  split at hb
  · by_cases hbX : b = X
    · subst hbX
      rw [getElem?_set_self hX] at hb;simp at hb; subst hb;rw [okL, okL, okL];exact ⟨cn _ _ _, h1.ok, trivial⟩
    · refine aO (Nat.le_succ _) h4 (hok0 b cs ?_)
      rw [getElem?_set_ne (fun e => hbX e.symm)] at hb ⊢;exact hb
  · exact cK (i := H.length + 1) (j := V'.length) (L := [some (fN o)]) (by rw [aW, tw]; exact ⟨trivial, trivial⟩) _ _ hb
 rcases hq : bn d o.pos o.data.length with - | -
 · simp [go_sem, hq]
   exact fin 2 d cv _ V ha rfl hj (le_refl _) rfl
 simp [go_sem, hq];have hin : 0 <= o.pos /\ o.pos <= (d.stable.length : Int) - o.data.length := by
  simp only [bn, Bool.and_eq_true, decide_eq_true_eq] at hq; omega
 refine am (α := CV × List Nat) (fun x => ([], H.set X (some [aF d.stable, x.1]) ++ [some (fN o)], x.2)) (fun x => Ap j (d.cache ++ gm o.pos o.data) x.1 x.2 /\ x.2.take j = V.take j /\ j <= x.2.length /\ V.length <= x.2.length) ?_ ?_
 · refine aa (ab ?_)
   simp [go_sem, hX];refine af ?_;refine al (α := Nat × CV × List Nat) (fun x => ([(0, .ptr X 0), (3, .ptr H.length 0), (19, aF o.data), (20, ci o.data.length), (21, ci x.1)], H.set X (some [aF d.stable, x.2.1]) ++ [some (fN o)], x.2.2))
    (fun x => x.1 <= o.data.length /\ Ap j (d.cache ++ gm o.pos (o.data.take x.1)) x.2.1 x.2.2 /\ x.2.2.take j = V.take j /\ j <= x.2.2.length /\ V.length <= x.2.2.length) (fun x => o.data.length - x.1) (0, cv, V) ⟨zero_le _, by simpa [gm] using ha, rfl, hj, le_refl _⟩
    (ae (by simp [go_sem]) rfl rfl) ?_
   rintro ⟨i, cv', V'⟩ ⟨hi, hap, hv1, hv2, hv3⟩;dsimp only at hi hap hv1 hv2 hv3 ⊢;refine aa (ab ?_);simp [go_sem];refine aa (ab ?_);simp [go_sem];refine ⟨fun h => ?_, fun h => ⟨cv', V', ⟨by rw [take_of_length_le h] at hap; exact hap, hv1, hv2, hv3⟩, ae (by simp [go_sem]) rfl rfl⟩⟩;refine aa (af (aa (ab ?_)));simp [go_sem, h, hX];have hw : IntKind.i64.wrap (o.pos + (i : Int)) = o.pos + i := IntWalk.i64_in _ ⟨by omega, by omega⟩;rcases hap with ⟨rfl, he⟩ | ⟨k, v, rfl, hv, hk⟩
   · refine az [] [17] (.s 0 .pl <| .s 1 .pl <| .s 2 .pl <| .s 3 .pl <| .s 4 .pl <| .s 5 .pl <| .s 6 .pl <| .s 7 .pl <| .s 8 .pl <| .s 9 .pl <| .s 10 .pl <| .s 11 .pl <| .s 12 .pl <| .s 13 .pl <| .s 14 .pl <| .s 15 .pl <| .s 16 .pl <| .s 17 .st <| .n) ?_
     simp [go_sem, h, hX];have he' : d.cache = [] /\ gm o.pos (o.data.take i) = [] := List.append_eq_nil_iff.1 he;have hap' : Ap j (d.cache ++ gm o.pos (o.data.take (i + 1))) (.sl (.own V'.length 0) 9 [.v (.int .i64 (o.pos + i)) :: aE o.data[i]]) (V' ++ [0]) :=
      .inr ⟨V'.length, 0, by rw [nw _ _ _ h, he'.1, he'.2]; rfl, by simp, hv2⟩
     refine ab ?_;simp [go_sem, aq (show i <= 1000000000 by omega), hw];refine ⟨i + 1, _, _, ⟨by omega, hap', by rw [take_append_of_le_length hv2]; exact hv1, by simp; omega, by simp; omega⟩, by omega, Sh.cut (H.length + 1) (V' ++ [0]).length (by simp [go_sem]) (by omega) (by simp; omega) (wI.all (by simp [go_sem]; omega)) (okX _ _ _ hap' (by simp; omega)) ?_ (take_of_length_le (le_refl _))⟩;simp [take_append];exact take_of_length_le (by simp)
   · refine az [] [17] (.s 0 .pl <| .s 1 .pl <| .s 2 .pl <| .s 3 .pl <| .s 4 .pl <| .s 5 .pl <| .s 6 .pl <| .s 7 .pl <| .s 8 .pl <| .s 9 .pl <| .s 10 .pl <| .s 11 .pl <| .s 12 .pl <| .s 13 .pl <| .s 14 .pl <| .s 15 .pl <| .s 16 .pl <| .s 17 .st <| .n) ?_
     simp [go_sem, h, hX, hv];have hkv := (List.getElem?_eq_some_iff.1 hv).1;have hap' : Ap j (d.cache ++ gm o.pos (o.data.take (i + 1))) (.sl (.own k (v + 1)) 9 (d.cache.map dw ++ ((gm o.pos (o.data.take i)).map dw ++ [.v (.int .i64 (o.pos + i)) :: aE o.data[i]]))) (V'.set k (v + 1)) :=
      .inr ⟨k, v + 1, by rw [nw _ _ _ h, map_append, map_append]; rfl, by rw [getElem?_set_self hkv], hk⟩
     refine ⟨by rw [uR, length_take]; omega, ab ?_⟩;simp [go_sem, aq (show i <= 1000000000 by omega), hw];refine ⟨i + 1, _, _, ⟨by omega, hap', by rw [take_set_of_le hk]; exact hv1, by simpa using hv2, by simpa using hv3⟩, by omega, Sh.cut (H.length + 1) (V'.set k (v + 1)).length (by simp [go_sem]) (by omega) (by simpa using hv3) (wI.all (by simp [go_sem]; omega)) (okX _ _ _ hap' (by simpa using hv3)) ?_ (take_of_length_le (le_refl _))⟩;simp [take_append];exact take_of_length_le (by simp)
 · rintro ⟨cv', V'⟩ ⟨h1, h2, h3, h4⟩
   dsimp only;refine ab ?_;simp [go_sem];exact fin 0 (R3 d o.pos o.data) cv' _ V' h1 h2 h3 h4 rfl
theorem EL (H : Hp) (V : List Nat) (X j : Nat) (hX : X < H.length) (d : Dk) (o : bO) (cv : CV) (ha : Ap j d.cache cv V) (hj : j <= V.length) (hl : rL d) (hc : aH d = 0) (hok0 : ∀ (b : Nat) cs, (H.set X (some [aF d.stable, cv]))[b]? = some (some cs) -> okL H.length V.length cs) :
 CC Tryz.prog 95 [.ptr X 0, .agg (fN o)] (H.set X (some [aF d.stable, cv])) V (XR X j (er 0) ⟨aU d, []⟩ H V) := by
 refine aj Tryz.func95 rfl fun hok oH => ?_;clear hok;refine aa (ab ?_);simp [go_sem, ai];refine aa (ab ?_);simp [go_sem, hX];refine CC.le (.cons (.agg (.cons (.refl _) (.cons ha.le .nil))) .nil) (CC.mono (pG _ _ d hl hc) ?_);rintro _ _ _ ⟨rfl, rfl, rfl⟩;simp [go_sem, hX];refine ab ?_;simp [go_sem, hX];refine ao.cut H.length V.length ⟨rfl, .v (.slice none 0 0), rfl, .inl ⟨rfl, rfl⟩, rfl, le_refl _⟩ (le_refl _) (le_refl _) (by rw [take_append_of_le_length (by simp), take_of_length_le (by simp)]) (take_of_length_le (le_refl _)) (.refl _) (jQ _ _ _) ?_;intro b cs hb
 by_cases hbX : b = X
 · subst hbX
   rw [getElem?_set_self hX] at hb;simp at hb; subst hb;rw [okL, okL, okL];exact ⟨cn _ _ _, by rw [aK]; trivial, trivial⟩
 · refine hok0 b cs ?_
   rw [getElem?_set_ne (fun e => hbX e.symm)] at hb ⊢;exact hb
theorem l9 {d : Dk} : aH d = 0 ↔ d.stable.length <= 4096 /\ ∀ c ∈ d.cache, 0 <= c.pos /\ c.pos.toNat < d.stable.length := by
 refine ⟨kO, fun ⟨h1, h2⟩ => ?_⟩;rw [aH, if_neg];rintro (h | h)
 · omega
 · obtain ⟨c, hc, hb⟩ := any_eq_true.1 h
   have := h2 c hc;simp only [iH, Bool.or_eq_true, decide_eq_true_eq] at hb;omega
theorem we {d : Dk} {a : Int} {l : List au} (h : aH d = 0) (hi : bn d a l.length = true) : aH (R3 d a l) = 0 := by
 simp only [bn, Bool.and_eq_true, decide_eq_true_eq] at hi;rw [l9] at h ⊢;refine ⟨h.1, fun c hc => ?_⟩;rcases mem_append.1 hc with hc | hc
 · exact h.2 c hc
 · simp only [gm, mem_map] at hc
   obtain ⟨⟨s, k⟩, hk, rfl⟩ := hc;have := (List.mem_zipIdx hk).2.1;simp only [R3];omega
theorem wg {d : Dk} (h : aH d = 0) : aH ⟨aU d, []⟩ = 0 := by
 rw [l9] at h ⊢;exact ⟨by simp only [bR]; exact h.1, by simp⟩
theorem xa (H : Hp) (V : List Nat) (d : Dk) (hl : rL d) : CC Tryz.prog 43 [.agg (cj d)] H V (fun r H' V' => ∃ cv, r = .agg [aF d.stable, cv] /\ Ap V.length d.cache cv V' /\ H = H' /\ V'.take V.length = V /\ V.length <= V'.length) := by
 refine aj Tryz.func43 rfl fun hok oH => ?_;clear hok;have h1 := hl.1;have h2 := hl.2;refine aa (ab ?_);simp [go_sem, ai];refine aa (az [] [7] (.s 0 .pl <| .s 1 .pl <| .s 3 .pl <| .s 4 .pl <| .s 2 .pl <| .s 5 .pl <| .s 6 .pl <| .s 7 .st <| .n) ?_);simp [go_sem];refine CC.mono (lK _ _ .sh _ (by omega)) ?_;rintro _ _ _ ⟨v, rfl, rfl, rfl⟩;simp [go_sem];refine CC.mono (xb _ _ .sh _ (by omega)) ?_;rintro _ _ _ ⟨v2, rfl, rfl, rfl⟩;simp [go_sem];refine ab ?_;simp [go_sem];refine ao.cut H.length (V.length + 2) (H'' := H) (r' := .agg [aF d.stable, .sl (.own (V.length + 1) v2) 9 (d.cache.map dw)]) (V'' := V ++ [v, v2]) ⟨_, rfl, .inr ⟨V.length + 1, v2, rfl, by simp, by omega⟩, rfl, by simp, by simp⟩ (le_refl _) (by omega) (by simp) (by simp) (.agg (.cons (.sh _ _ _) (.cons (.refl _) .nil))) ?_ fun b cs hb => aO (le_refl _) (by omega) (oH b cs hb);rw [k9, okL, okL, okL, tt, f9];exact ⟨cn _ _ _, ⟨by omega, trivial⟩, trivial⟩
def tot (ops : List bO) : Nat := (ops.map fun o => o.data.length).sum
theorem D8 {ops : List bO} {i : Nat} (h : i < ops.length) : tot (ops.drop i) = ops[i].data.length + tot (ops.drop (i + 1)) := by
 rw [drop_eq_getElem_cons h, tot, map_cons, List.sum_cons]; rfl
theorem JH (H : Hp) (V : List Nat) (X j : Nat) (hX : X < H.length) (d : Dk) (ops : List bO) (cv : CV) (ha : Ap j d.cache cv V) (hj : j <= V.length) (hl : d.stable.length <= 1000000) (hl2 : d.cache.length + tot ops <= 1000000) (hl3 : ops.length <= 1000000) (hc : aH d = 0)
 (hok0 : ∀ (b : Nat) cs, (H.set X (some [aF d.stable, cv]))[b]? = some (some cs) -> okL H.length V.length cs) :
 CC Tryz.prog 44 [.ptr X 0, gp ops] (H.set X (some [aF d.stable, cv])) V (fun r H' V' => match db d ops 0 with | .ok (d', n) => XR X j (.tup [ci n, er 0]) d' H V r H' V' | .error (i, e) => ∃ d', XR X j (.tup [ci i, er e]) d' H V r H' V') := by
 refine aj Tryz.func44 rfl fun hok oH => ?_;clear hok oH;refine aa (ab ?_);simp [go_sem, ai];refine aa (ab ?_);simp [go_sem, hX];have fin : ∀ (r : CV) (d' : Dk) (cv' : CV) (L : Hp) (V' : List Nat), aK H.length V'.length r -> Ap j d'.cache cv' V' -> V'.take j = V.take j -> j <= V'.length -> V.length <= V'.length →
  ∀ R : CV -> Hp -> List Nat -> Prop, (∀ H' V', XR X j r d' H V r H' V' -> R r H' V') -> ao H.length V.length R r (H.set X (some [aF d'.stable, cv']) ++ L) V' := fun r d' cv' L V' hr h1 h2 h3 h4 R hR => by
  refine ao.cut (H.length) V'.length (hR _ _ ⟨rfl, cv', rfl, h1, h2, h4⟩) (le_refl _) h4 (by rw [take_append_of_le_length (by simp), take_of_length_le (by simp)]) (take_of_length_le (le_refl _)) (.refl _) hr ?_;have := tr (L := []) (c := [aF d'.stable, cv']) hX hok0 h4 (by rw [okL, okL, okL]; exact ⟨cn _ _ _, h1.ok, trivial⟩) (by trivial)
  simpa using this
 refine am (α := Dk × CV × List Nat) (fun x => ([(1, gp ops)], H.set X (some [aF x.1.stable, x.2.1]) ++ [some [.bm 94 [.ptr X 0], .bm 95 [.ptr X 0]]], x.2.2))
  (fun x => Ap j x.1.cache x.2.1 x.2.2 /\ x.2.2.take j = V.take j /\ j <= x.2.2.length /\ V.length <= x.2.2.length /\ db d ops 0 = .ok (x.1, ops.length)) ?_ ?_
 · refine aa (ab ?_)
   simp [go_sem];refine af ?_;refine al (α := Nat × Dk × CV × List Nat) (fun x => ([(1, gp ops), (6, .ptr H.length 0), (15, gp ops), (16, ci ops.length), (17, ci x.1)], H.set X (some [aF x.2.1.stable, x.2.2.1]) ++ [some [.bm 94 [.ptr X 0], .bm 95 [.ptr X 0]]], x.2.2.2))
    (fun x => x.1 <= ops.length /\ Ap j x.2.1.cache x.2.2.1 x.2.2.2 /\ x.2.2.2.take j = V.take j /\ j <= x.2.2.2.length /\ V.length <= x.2.2.2.length /\ db d ops 0 = db x.2.1 (ops.drop x.1) x.1 /\ x.2.1.stable.length = d.stable.length /\ x.2.1.cache.length + tot (ops.drop x.1) <= 1000000 /\ aH x.2.1 = 0)
    (fun x => ops.length - x.1) (0, d, cv, V) ⟨zero_le _, ha, rfl, hj, le_refl _, rfl, rfl, hl2, hc⟩ (ae (by simp [go_sem]) rfl rfl) ?_
   rintro ⟨i, d1, cv1, V1⟩ ⟨hi, hap, hv1, hv2, hv3, hr, hs, ht, hc1⟩;dsimp only at hi hap hv1 hv2 hv3 hr hs ht hc1 ⊢;refine aa (ab ?_);simp [go_sem];refine aa (ab ?_);simp [go_sem];refine ⟨fun h => ?_, fun h => ⟨d1, cv1, V1, ⟨hap, hv1, hv2, hv3, by rw [hr, drop_of_length_le h, db, show i = ops.length by omega]⟩, ae (by simp [go_sem]) rfl rfl⟩⟩;rw [D8 h] at ht;rw [drop_eq_getElem_cons h] at hr;refine aa (af (aa (ab ?_)));simp [go_sem, h];generalize ho : ops[i] = o at ht hr ⊢;have fine : ∀ (e : Nat) (d2 : Dk) (cv2 : CV) (L : Hp) (V2 : List Nat), Ap j d2.cache cv2 V2 -> V2.take j = V.take j -> j <= V2.length -> V.length <= V2.length -> db d ops 0 = .error (i, e) →
    ao H.length V.length (fun r H' V' => match db d ops 0 with | .ok (d', n) => XR X j (.tup [ci n, er 0]) d' H V r H' V' | .error (i, e) => ∃ d', XR X j (.tup [ci i, er e]) d' H V r H' V') (.tup [ci i, er e]) (H.set X (some [aF d2.stable, cv2]) ++ L) V2 := fun e d2 cv2 L V2 q1 q2 q3 q4 q5 =>
    fin _ d2 cv2 L V2 (by rw [aK]; simp [go_sem]) q1 q2 q3 q4 _ fun H' V' hx => by rw [q5]; exact ⟨d2, hx⟩
   refine aa (ab ?_)
   by_cases k1 : o.kind < 0
   · simp [go_sem, k1]
     exact fine 1 d1 cv1 _ V1 hap hv1 hv2 hv3 (by rw [hr, db, fT, if_pos (.inl k1)])
   by_cases k2 : 2 <= o.kind
   · simp [go_sem, k1, k2]
     exact fine 1 d1 cv1 _ V1 hap hv1 hv2 hv3 (by rw [hr, db, fT, if_pos (.inr k2)])
   have hok1 := tr (L := [some [.bm 94 [.ptr X 0], .bm 95 [.ptr X 0]], some (fN o)]) (c := [aF d1.stable, cv1]) hX hok0 hv3 (by rw [okL, okL, okL]; exact ⟨cn _ _ _, hap.ok, trivial⟩) (by simp [go_sem]; omega);rw [<- set_append_left _ _ hX, <- length_append] at hok1;have next : ∀ (d2 : Dk) (cv2 : CV) (V2 : List Nat) (T : Tm), Ap j d2.cache cv2 V2 -> V2.take j = V1.take j -> j <= V2.length -> V1.length <= V2.length -> fT d1 o = .ok d2 -> d2.stable.length = d1.stable.length -> d2.cache.length + tot (ops.drop (i + 1)) <= 1000000 -> aH d2 = 0 →
    oT T [(1, gp ops), (6, .ptr H.length 0), (15, gp ops), (16, ci ops.length), (17, ci (i + 1 : Nat))] →
    ∃ a b c e, (a <= ops.length /\ Ap j (Dk.cache b) c e /\ e.take j = V.take j /\ j <= e.length /\ V.length <= e.length /\ db d ops 0 = db b (ops.drop a) a /\ b.stable.length = d.stable.length /\ b.cache.length + tot (ops.drop a) <= 1000000 /\ aH b = 0) /\ ops.length - a < ops.length - i ∧
     Sh 44 H.length V.length T ((H ++ [some [.bm 94 [.ptr X 0], .bm 95 [.ptr X 0]], some (fN o)]).set X (some [aF d2.stable, cv2])) V2 ([(1, gp ops), (6, .ptr H.length 0), (15, gp ops), (16, ci ops.length), (17, ci a)], H.set X (some [aF b.stable, c]) ++ [some [.bm 94 [.ptr X 0], .bm 95 [.ptr X 0]]], e) :=
    fun d2 cv2 V2 T q1 q2 q3 q4 q5 q6 q7 q8 q9 => by
     refine ⟨i + 1, d2, cv2, V2, ⟨by omega, q1, by rw [q2, hv1], q3, by omega, by rw [hr, db, q5], by omega, q7, q8⟩, by omega, ?_⟩;rw [set_append_left _ _ hX];refine Sh.cut (H.length + 1) V2.length q9 (by omega) (by omega) (wI.all (by simp [go_sem])) (tr (L := [some [.bm 94 [.ptr X 0], .bm 95 [.ptr X 0]]]) (c := [aF d2.stable, cv2]) hX hok0 (by omega) (by rw [okL, okL, okL]; exact ⟨cn _ _ _, q1.ok, trivial⟩) (by simp [go_sem]; omega)) ?_ (take_of_length_le (le_refl _));rw [take_append, take_of_length_le (by simp)];simp
   simp [go_sem, k1, k2];refine aa (az [H.length, H.length + 1] [5] (.s 0 .pl <| .s 1 .ld <| .s 2 .pl <| .s 3 .ld <| .s 4 .ld <| .s 5 .st <| .s 6 .pl <| .n) ?_);have hk : o.kind = 0 \/ o.kind = 1 := by omega
   rcases hk with hk | hk
   · simp [go_sem, hk]
     rw [<- set_append_left _ _ hX];refine CC.mono (AA _ _ X j (by rw [length_append]; omega) d1 o cv1 hap hv2 ⟨by omega, by omega⟩ (by omega) hok1) ?_;rintro r2 H2 V2 ⟨rfl, cv2, rfl, x1, x2, x3⟩;rcases hq : bn d1 o.pos o.data.length with - | -
     · rw [hq] at x1
       simp [go_sem, hq];refine ⟨wz (by simp; omega), ?_⟩;rw [set_append_left _ _ hX];refine ab ?_;simp [go_sem];exact fine 2 d1 cv2 _ V2 x1 (by rw [x2, hv1]) (by omega) (by omega) (by rw [hr, db, fT, if_neg (by omega), if_pos hk, iI, if_neg (by simp [hq])])
     · rw [hq] at x1
       simp [go_sem, hq];refine ⟨wz (by simp; omega), ?_⟩;refine ab ?_;simp [go_sem];refine ab ?_;simp [go_sem, aq (show i <= 1000000000 by omega)];refine next (R3 d1 o.pos o.data) cv2 V2 _ x1 x2 (by omega) x3 (by rw [fT, if_neg (by omega), if_pos hk, iI, if_pos hq]; rfl) rfl (by simp only [R3, length_append, uR]; omega) (we hc1 hq) (by simp [go_sem])
   · simp [go_sem, hk]
     rw [<- set_append_left _ _ hX];refine CC.mono (EL _ _ X j (by rw [length_append]; omega) d1 o cv1 hap hv2 ⟨by omega, by omega⟩ hc1 hok1) ?_;rintro r2 H2 V2 ⟨rfl, cv2, rfl, x1, x2, x3⟩;simp [go_sem];refine ⟨wz (by simp; omega), ?_⟩;refine ab ?_;simp [go_sem];refine ab ?_;simp [go_sem, aq (show i <= 1000000000 by omega)];refine next ⟨aU d1, []⟩ cv2 V2 _ x1 x2 (by omega) x3 (by rw [fT, if_neg (by omega), if_neg (by omega)]) (bR _) (by simp only [length_nil]; omega) (wg hc1) (by simp [go_sem])
 · rintro ⟨d1, cv1, V1⟩ ⟨h1, h2, h3, h4, h5⟩
   dsimp only;refine ab ?_;simp [go_sem];refine fin (.tup [ci ops.length, er 0]) d1 cv1 _ V1 (by rw [aK]; simp [go_sem]) h1 h2 h3 h4 _ fun H' V' hx => ?_;rw [h5]; exact hx
abbrev zL : Dk := ⟨[], []⟩
def du (d : Dk) (ops : List bO) : Dk × Nat × Nat :=
 if aH d ≠ 0 then (zL, 0, aH d) else match db d ops 0 with | .ok (d', n) => (d', n, 0) | .error (i, e) => (zL, i, e)
def pQ (x : Dk × Nat × Nat) : CV := .tup [.agg (cj x.1), ci x.2.1, er x.2.2]
theorem u5 (i j : Nat) (x : Dk × Nat × Nat) : aK i j (pQ x) := by rw [pQ, aK]; simp [go_sem]
theorem pS : ∀ (ops : List bO) (d : Dk) (i : Nat) (k e : Nat), db d ops i = .error (k, e) -> e ≠ 0
 | [], d, i, k, e, h => by cases h
 | o :: ops, d, i, k, e, h => by
  rw [db] at h
  split at h
  · exact pS ops _ _ _ _ h
  · rename_i e' he
    injection h with h; injection h with h1 h2; subst h2
    unfold fT iI at he
    split at he
    · injection he with he; omega
    · split at he
      · split at he
        · cases he
        · injection he with he; omega
      · cases he
theorem kX (H : Hp) (V : List Nat) (d : Dk) (ops : List bO) (hl : d.stable.length <= 1000000) (hl2 : d.cache.length + tot ops <= 1000000) (hl3 : ops.length <= 1000000) : CC Tryz.prog 12 [.agg (cj d), gp ops] H V (Pu (pQ (du d ops)) H V) := by
 refine aj Tryz.func12 rfl fun hok oH => ?_;clear hok;have hd : rL d := ⟨hl, by omega⟩
 refine aa (ab ?_);simp [go_sem, ai];refine aa (ab ?_);simp [go_sem];refine ah (eO _ _ d hd) ?_;simp [go_sem];have bad : ∀ (i e : Nat) {H' : Hp} {V' : List Nat}, du d ops = (zL, i, e) -> H'.take H.length = H -> V'.take V.length = V -> ao H.length V.length (Pu (pQ (du d ops)) H V) (.tup [.agg [.v (.slice none 0 0), .v (.slice none 0 0)], ci i, er e]) H' V' := fun i e H' V' h1 h2 h3 => by
  rw [h1];exact ao.pu (.tup (.cons (.agg (.cons (.nil 8 (by decide)) (.cons (.nil 9 (by decide)) .nil))) (.cons (.refl _) (.cons (.refl _) .nil)))) (u5 _ _ _) oH h2 h3
 refine ⟨fun hc => ?_, fun hc => ?_⟩
 case refine_1 => exact bad 0 (aH d) (by rw [du, if_pos hc]) (by simp) (by simp)
 refine aa (ab ?_);simp [go_sem];refine CC.mono (xa _ _ d hd) ?_;rintro _ _ V1 ⟨cv, rfl, ha, rfl, hv1, hv2⟩;simp [go_sem, ha.one];refine aa (ab ?_);simp [go_sem, ha.one];have hset : ∀ c c' : List CV, (H ++ [some (cj d), some [.v (.slice none 0 0), .v (.slice none 0 0)], some c]).set (H.length + 2) (some c') = H ++ [some (cj d), some [.v (.slice none 0 0), .v (.slice none 0 0)], some c'] := fun c c' => by
  rw [set_append_right _ _ (by omega)]; simp
 rw [<- hset [aF d.stable, cv] [aF d.stable, cv]];have hok0 : ∀ (b : Nat) cs, ((H ++ [some (cj d), some [.v (.slice none 0 0), .v (.slice none 0 0)], some [aF d.stable, cv]]).set (H.length + 2) (some [aF d.stable, cv]))[b]? = some (some cs) -> okL (H ++ [some (cj d), some [.v (.slice none 0 0), .v (.slice none 0 0)], some [aF d.stable, cv]]).length V1.length cs := by
  intro b cs hb;rw [hset, getElem?_append] at hb;rw [length_append]
  split at hb
  · exact aO (Nat.le_add_right _ _) hv2 (oH b cs hb)
  · refine cK (i := H.length + 3) (j := V1.length) (L := [some (cj d), some [.v (.slice none 0 0), .v (.slice none 0 0)], some [aF d.stable, cv]]) ?_ _ _ hb
    rw [aW, aW, aW, okL_dkC];refine ⟨trivial, by simp [go_sem], ?_, trivial⟩;rw [okL, okL, okL];exact ⟨cn _ _ _, ha.ok, trivial⟩
 refine CC.mono (JH _ V1 (H.length + 2) V.length (by simp) d ops cv ha hv2 hl hl2 hl3 hc hok0) ?_;intro r H' V' hx;rcases hr : db d ops 0 with ⟨i, e⟩ | ⟨d', n⟩
 · rw [hr] at hx
   obtain ⟨d', rfl, cv', rfl, x1, x2, x3⟩ := hx;rw [hset];have he := pS _ _ _ _ _ hr;simp [go_sem];refine ab ?_;simp [go_sem, he];exact bad i e (by rw [du, if_neg (by simp [hc]), hr]) (by simp) (by rw [<- hv1, <- x2]; simp)
 · rw [hr] at hx
   obtain ⟨rfl, cv', rfl, x1, x2, x3⟩ := hx;rw [hset];simp [go_sem];refine ab ?_;simp [go_sem];refine ⟨x1.one, ?_⟩;refine ao.pu ?_ (u5 _ _ _) oH (by simp) (by rw [x2, hv1]);rw [du, if_neg (by simp [hc]), hr];exact .tup (.cons (.agg (.cons (.refl _) (.cons x1.le .nil))) (.cons (.refl _) (.cons (.refl _) .nil)))
def qm (n : Int) : Dk × Nat := if n < 0 \/ 4096 < n then (zL, 2) else (⟨List.replicate n.toNat aP, []⟩, 0)
theorem JQ (H : Hp) (V : List Nat) (n : Int) : CC Tryz.prog 19 [ci n] H V (Pu (.tup [.agg (cj (qm n).1), er (qm n).2]) H V) := by
 refine aj Tryz.func19 rfl fun hok oH => ?_;clear hok;have bad : ∀ {H' : Hp} {V' : List Nat}, qm n = (zL, 2) -> H'.take H.length = H -> V'.take V.length = V -> ao H.length V.length (Pu (.tup [.agg (cj (qm n).1), er (qm n).2]) H V) (.tup [.agg [.v (.slice none 0 0), .v (.slice none 0 0)], .v (.int .i64 2)]) H' V' := fun h1 h2 h3 => by
  rw [h1];exact ao.pu (.tup (.cons (.agg (.cons (.nil 8 (by decide)) (.cons (.nil 9 (by decide)) .nil))) (.cons (.refl _) .nil))) (by rw [aK]; simp [go_sem]) oH h2 h3
 refine aa (ab ?_);simp [go_sem, ai];refine aa (ab ?_)
 by_cases h1 : n < 0
 · simp [go_sem, h1]
   exact bad (by rw [qm, if_pos (.inl h1)]) (by simp) (by simp)
 by_cases h2 : 4096 < n
 · simp [go_sem, h1, h2]
   exact bad (by rw [qm, if_pos (.inr h2)]) (by simp) (by simp)
 simp [go_sem, h1, h2];refine ab ?_;simp [go_sem];have hn : qm n = (⟨List.replicate n.toNat aP, []⟩, 0) := by rw [qm, if_neg (by omega)]
 have hz : (List.replicate n.toNat [CV.v (.int .u8 0), CV.v (.int .u8 0), CV.v (.int .u8 0), CV.v (.int .u8 0), CV.v (.int .u8 0), CV.v (.int .u8 0), CV.v (.int .u8 0), CV.v (.int .u8 0)]).flatten = aQ (List.replicate n.toNat aP) := eG n.toNat;have hch : aY 8 n.toNat ((aQ (List.replicate n.toNat aP)).drop 0) = (List.replicate n.toNat aP).map aE := by
  have := cU (List.replicate n.toNat aP)
  rwa [length_replicate] at this
 refine ⟨by omega, by omega, ?_⟩;rw [hz, hn];refine ao.frozG (b := H.length + 1) (cs := aQ (List.replicate n.toNat aP)) (r1 := .tup [.agg [.bsl (H.length + 1) 0 n.toNat 8, oE []], er 0]) ⟨rfl, rfl, rfl⟩ (.tup (.cons (.agg (.cons (.refl _) (.cons (.nil 9 (by decide)) .nil))) (.cons (.refl _) .nil))) (by simp)
  (.tup (.cons (.agg (.cons ?_ (.cons (.refl _) .nil))) (.cons (.refl _) .nil))) (by omega) (by rw [aK]; simp [go_sem]) oH (by simp) (by simp)
 show Fz _ _ _ (.sl .sh 8 ((List.replicate n.toNat aP).map aE));rw [<- hch];exact .bsl _ _ _ (by simp; omega)
theorem AZ (H : Hp) (V : List Nat) (l : List UInt8) : CC Tryz.prog 146 [.sl .sh 1 (bs l), ci 4] H V (fun r H' V' => r = .fn 170 [.ptr H.length 0, .ptr (H.length + 1) 0] /\ H' = H ++ [some [.sl .sh 1 (bs l)], some [ci 4]] /\ V = V') := by
 refine aj Tryz.func146 rfl fun hok oH => ?_;clear hok;refine aa (ab ?_);simp [go_sem, ai];refine aa (ab ?_);simp [go_sem];refine ab ?_;simp [go_sem];refine ao.cut (H.length + 2) V.length ⟨rfl, rfl, rfl⟩ (by omega) (le_refl _) (take_of_length_le (by simp)) (take_of_length_le (le_refl _)) (.refl _) (by simp [go_sem]) ?_;intro b cs hb;rw [getElem?_append] at hb
 split at hb
 · exact aO (by omega) (le_refl _) (oH b cs hb)
 · exact cK (i := H.length + 2) (j := V.length) (L := [some [.sl .sh 1 (bs l)], some [ci 4]]) (by simp [go_sem]) _ _ hb
theorem xc (H : Hp) (V : List Nat) (L b2 b3 : Nat) (l : List UInt8) (hl : l.length = 32) (I : Nat -> Hp -> List Nat -> Prop) (h0 : I 0 H V)
 (hI : ∀ i H V, I i H V -> H[b2]? = some (some [.sl .sh 1 (bs l)]) /\ H[b3]? = some (some [ci 4]))
 (hy : ∀ i, i < 8 -> ∀ H V, I i H V -> YC Tryz.prog L [.sl .ti 1 (bs ((l.drop (4 * i)).take 4))] H V (fun r H' V' => r = .v (.bool true) /\ I (i + 1) H' V')) :
 CC Tryz.prog 170 [.yl L, .ptr b2 0, .ptr b3 0] H V (fun _ H' V' => I 8 H' V') := by
 refine aj Tryz.func170 rfl fun hok oH => ?_;clear hok;refine aa (ab ?_);simp [go_sem, ai];refine af ?_;refine al (α := Nat × Hp × List Nat) (fun x => ([(0, .yl L), (1, .ptr b2 0), (2, .ptr b3 0), (4, ci (4 * x.1 : Nat))], x.2.1, x.2.2)) (fun x => x.1 <= 8 /\ I x.1 x.2.1 x.2.2) (fun x => 8 - x.1) (0, H, V) ⟨by omega, h0⟩ (ae (by simp [go_sem]) rfl rfl) ?_;rintro ⟨i, H1, V1⟩ ⟨hi, hi1⟩;dsimp only at hi hi1 ⊢;obtain ⟨g2, g3⟩ := hI _ _ _ hi1;refine aa (ab ?_);simp [go_sem, ak g2, ak g3, hl];refine ⟨fun h => ?_, fun h => ?_⟩
 case refine_2 =>
  obtain rfl : i = 8 := by omega
  exact ao.self hi1
 have h8 : i < 8 := by omega
 refine aa (af (aa (ac.drawnL (List.range 7) (by kernel_rfl) (by kernel_rfl) rfl ?_)));simp [go_sem, List.range, List.range.loop, ak g2, ak g3, hl];have e1 : (4 * (i : Int)).toNat = 4 * i := by omega
 have e4 : min (4 : Int) ((32 - (4 * (i : Int)).toNat : Nat) : Int) = 4 := by omega
 refine ⟨by omega, by omega, ?_⟩;rw [e4];refine ab ?_;simp [go_sem, ak g2, ak g3, hl, IntWalk.i64_in (4 * (i : Int) + 4) ⟨by omega, by omega⟩];refine ⟨by omega, by omega, by omega, by omega, ?_⟩;have ex : (l.take (4 * (i : Int) + 4).toNat).drop (4 * (i : Int)).toNat = (l.drop (4 * i)).take 4 := by
  rw [show (4 * (i : Int) + 4).toNat = 4 * i + 4 by omega, e1, drop_take, Nat.add_sub_cancel_left]
 rw [ex];refine YC.mono (hy i h8 _ _ hi1) ?_;rintro _ H2 V2 ⟨rfl, hi2⟩;obtain ⟨k2, k3⟩ := hI _ _ _ hi2;simp [go_sem];refine ab ?_;simp [go_sem, ak k2, ak k3, IntWalk.i64_in (4 * (i : Int) + 4) ⟨by omega, by omega⟩];refine ⟨i + 1, H2, V2, ⟨by omega, hi2⟩, by omega, ae ?_ rfl rfl⟩;simp [go_sem, show 4 * (i : Int) + 4 = 4 * ((i : Int) + 1) by omega]
def fb (l : List UInt8) : List CV := l.map fun b => CV.v (.int .u8 (b.toNat : Int))
theorem gJ : ∀ l : List UInt8, (bs l).flatten = fb l
 | [] => rfl
 | b :: l => by rw [bs, map_cons, flatten_cons]; exact congrArg (_ :: ·) (gJ l)
@[go_sem, simp] theorem afG (l : List UInt8) : (fb l).length = l.length := by rw [fb, length_map]
@[go_sem] theorem fb_get (l : List UInt8) (i : Nat) (h : i < (fb l).length) : (fb l)[i] = CV.v (.int .u8 ((l[i]'(by simpa using h)).toNat : Int)) := by simp [fb]
theorem P9 (l : List UInt8) (i : Nat) (c : UInt8) (h : i < l.length) : (fb l).take i ++ CV.v (.int .u8 (c.toNat : Int)) :: (fb l).drop (i + 1) = fb (l.set i c) := by
 rw [set_eq_take_append_cons_drop, if_pos h];simp [fb]
theorem tM (a b : List UInt8) : fb a ++ fb b = fb (a ++ b) := by simp [fb]
theorem tN (l : List UInt8) : aJ (fb l) = true := by simp only [aJ, fb, all_map, all_eq_true]; intros; rfl
theorem nT : ∀ l : List UInt8, aY 1 l.length (fb l) = bs l
 | [] => rfl
 | b :: l => by
  rw [length_cons, aY];exact congrArg (_ :: ·) (nT l)
theorem JN (n k : Nat) (hk : k < 4) : IntKind.u8.wrap (shr .i64 (n : Int) (8 * (k : Int))) = (((iR n).getD k 0).toNat : Int) := by
 have e : ∀ m : Nat, IntKind.u8.wrap (m : Int) = ((UInt8.ofNat (m % 256)).toNat : Int) := fun m => by
  rw [IntKind.wrap_u8, UInt8.toNat_ofNat']; omega
 have h : k = 0 \/ k = 1 \/ k = 2 \/ k = 3 := by omega
 unfold shr;rcases h with rfl | rfl | rfl | rfl
 · rw [show (n : Int).fdiv (2 ^ (min (8 * ((0 : Nat) : Int)).toNat IntKind.i64.bits)) = (n : Int) from Int.fdiv_one _, e]; rfl
 · rw [show (n : Int).fdiv (2 ^ (min (8 * ((1 : Nat) : Int)).toNat IntKind.i64.bits)) = ((n / 256 : Nat) : Int) by rw [Int.fdiv_eq_ediv_of_nonneg _ (by decide)]; show (n : Int) / 256 = _; omega, e]; rfl
 · rw [show (n : Int).fdiv (2 ^ (min (8 * ((2 : Nat) : Int)).toNat IntKind.i64.bits)) = ((n / 65536 : Nat) : Int) by rw [Int.fdiv_eq_ediv_of_nonneg _ (by decide)]; show (n : Int) / 65536 = _; omega, e]; rfl
 · rw [show (n : Int).fdiv (2 ^ (min (8 * ((3 : Nat) : Int)).toNat IntKind.i64.bits)) = ((n / 16777216 : Nat) : Int) by rw [Int.fdiv_eq_ediv_of_nonneg _ (by decide)]; show (n : Int) / 16777216 = _; omega, e]; rfl
theorem F3 (n k : Nat) (hk : k < 4) : ((iR n).take k ++ List.replicate (8 - k) 0).set k ((iR n).getD k 0) = (iR n).take (k + 1) ++ List.replicate (8 - (k + 1)) 0 := by
 have h : k = 0 \/ k = 1 \/ k = 2 \/ k = 3 := by omega
 rcases h with rfl | rfl | rfl | rfl <;> rfl
theorem I6 (x : CV) (k : Nat) : List.drop (1 + k) (x :: [CV.v (.int .u8 0), CV.v (.int .u8 0), CV.v (.int .u8 0), CV.v (.int .u8 0), CV.v (.int .u8 0), CV.v (.int .u8 0), CV.v (.int .u8 0), CV.v (.int .u8 0), CV.v (.int .u8 0), CV.v (.int .u8 0), CV.v (.int .u8 0), CV.v (.int .u8 0), CV.v (.int .u8 0), CV.v (.int .u8 0), CV.v (.int .u8 0), CV.v (.int .u8 0), CV.v (.int .u8 0), CV.v (.int .u8 0), CV.v (.int .u8 0), CV.v (.int .u8 0), CV.v (.int .u8 0), CV.v (.int .u8 0), CV.v (.int .u8 0), CV.v (.int .u8 0), CV.v (.int .u8 0), CV.v (.int .u8 0), CV.v (.int .u8 0), CV.v (.int .u8 0), CV.v (.int .u8 0), CV.v (.int .u8 0), CV.v (.int .u8 0)]) = fb (List.replicate (31 - k) 0) := by
 rw [Nat.add_comm, drop_succ_cons, fb, List.map_replicate];exact List.drop_replicate (i := k) (n := 31) (a := CV.v (.int .u8 0))
theorem CW (p : List UInt8) (x : CV) : CV.v (.int .u8 (IntKind.u8.wrap (p.length : Int))) :: ((bs p).flatten ++ List.drop (1 + p.length) (x :: [CV.v (.int .u8 0), CV.v (.int .u8 0), CV.v (.int .u8 0), CV.v (.int .u8 0), CV.v (.int .u8 0), CV.v (.int .u8 0), CV.v (.int .u8 0), CV.v (.int .u8 0), CV.v (.int .u8 0), CV.v (.int .u8 0), CV.v (.int .u8 0), CV.v (.int .u8 0), CV.v (.int .u8 0), CV.v (.int .u8 0), CV.v (.int .u8 0), CV.v (.int .u8 0), CV.v (.int .u8 0), CV.v (.int .u8 0), CV.v (.int .u8 0), CV.v (.int .u8 0), CV.v (.int .u8 0), CV.v (.int .u8 0), CV.v (.int .u8 0), CV.v (.int .u8 0), CV.v (.int .u8 0), CV.v (.int .u8 0), CV.v (.int .u8 0), CV.v (.int .u8 0), CV.v (.int .u8 0), CV.v (.int .u8 0), CV.v (.int .u8 0)])) = fb (cX p) := by
 rw [I6, gJ, tM, cX, wrap_u8];have : wH (p.length : Int) = UInt8.ofNat p.length := by
  apply UInt8.toNat_inj.1;have := fJ (p.length : Int);rw [UInt8.toNat_ofNat'];omega
 rw [this]; rfl
def yk (j : Nat) (l : List au) (cv : CV) (V : List Nat) : Prop := (cv = .v (.slice none 0 0) /\ l = []) \/ ∃ k v, cv = .sl (.own k v) 8 (l.map aE) /\ V[k]? = some v /\ j <= k
theorem yk.le {j : Nat} {l : List au} {cv : CV} {V : List Nat} (h : yk j l cv V) : Le cv (aF l) := by
 rcases h with ⟨rfl, rfl⟩ | ⟨k, v, rfl, _⟩
 · exact .nil 8 (by decide)
 · exact .sh _ _ _
theorem yk.one {j : Nat} {l : List au} {cv : CV} {V : List Nat} (h : yk j l cv V) : cv.one = true := by
 rcases h with ⟨rfl, rfl⟩ | ⟨k, v, rfl, _⟩ <;> rfl
theorem yk.ok {i j : Nat} {l : List au} {cv : CV} {V : List Nat} (h : yk j l cv V) : aK i V.length cv := by
 rcases h with ⟨rfl, rfl⟩ | ⟨k, v, rfl, h, _⟩
 · rw [aK]; trivial
 · rw [tt, cR]; exact ⟨(List.getElem?_eq_some_iff.1 h).1, trivial⟩
abbrev HP (H : Hp) (n : Nat) (tk : Tk) (p : List UInt8) (cv lp : CV) (W : Hp) : Hp :=
 H ++ (some [ci n] :: some [ci 0, .v (.slice none 0 0), .v (.slice none 0 0)] :: none :: some [ci n, .sl tk 1 (bs p), cv] :: some [.sl .sh 1 (bs (cX p))] :: some [ci 4] :: some [lp] :: W)
theorem yH (H : Hp) (V : List Nat) (n : Nat) (tk : Tk) (p : List UInt8) (hn : n < 4294967296) (hp : p.length <= 31) : CC Tryz.prog 134 [ci n, .sl tk 1 (bs p)] H V (Pu (.agg [ci n, .sl .sh 1 (bs p), aF (bN n p)]) H V) := by
 refine CC.of_swp0 Tryz.func134 rfl (by kernel_rfl) (by rw [Tryz.ntmps134]; exact gu _ _ rfl) fun hok oH => ?_
 refine aw (aD (ab ?_))
 simp -implicitDefEqProofs [go_sem, ai]
 refine aw (aD (ab ?_))
 simp -implicitDefEqProofs [go_sem]
 refine aw (aD (ab ?_))
 simp -implicitDefEqProofs [go_sem]
 refine aw (aD (ab ?_))
 simp -implicitDefEqProofs [go_sem]
 refine ⟨hp, by rw [gJ, tN], by omega, ?_⟩
 refine aw (aD (ab ?_))
 simp -implicitDefEqProofs [go_sem]
 rw [CW]
 have hD := lZ hp
 have hch : aY 1 32 ((fb (cX p)).drop 0) = bs (cX p) := by
  have := nT (cX p)
  rwa [hD] at this
 refine aL.ghost (T' := [(2, .ptr H.length 0), (4, .ptr (H.length + 1) 0), (6, .ptr (H.length + 3) 0), (5, .bsl (H.length + 2) 0 32 1)]) (cL.forget (oT.get (by simp -implicitDefEqProofs [go_sem]))) ?_
 refine aL.ghost (T' := [(2, .ptr H.length 0), (4, .ptr (H.length + 1) 0), (6, .ptr (H.length + 3) 0), (5, .sl .sh 1 (bs (cX p)))]) (cL.freeze (b := H.length + 2) (cs := fb (cX p)) (by simp) ?_) ?_
 · intro q hq
   simp at hq
   rcases hq with rfl | rfl | rfl | rfl
   · exact .refl _
   · exact .refl _
   · exact .refl _
   · show Fz _ _ (.bsl (H.length + 2) 0 32 1) (.sl .sh 1 (bs (cX p)))
     rw [<- hch]; exact .bsl _ _ _ (by simp [hD])
 simp -implicitDefEqProofs [go_sem]
 refine aL.join (α := CV × List Nat) (fun x => ([(4, .ptr (H.length + 1) 0), (6, .ptr (H.length + 3) 0)], H ++ [some [ci n], some [ci 0, .v (.slice none 0 0), .v (.slice none 0 0)], none, some [ci n, .sl tk 1 (bs p), x.1]], x.2))
  (fun x => yk V.length (bN n p) x.1 x.2 /\ V.length <= x.2.length /\ x.2.take V.length = V) ?_ ?_
 · refine aw (aD (ab ?_))
   simp -implicitDefEqProofs [go_sem]
   refine CC.mono (AZ _ _ _) ?_
   rintro _ _ _ ⟨rfl, rfl, rfl⟩
   simp -implicitDefEqProofs [go_sem]
   refine aL.block (aL.range [(2, .ptr H.length 0), (6, .ptr (H.length + 3) 0)] rfl (by simp -implicitDefEqProofs [go_sem]) ?_)
   simp -implicitDefEqProofs [go_sem]
   generalize hbd : Code.block 1 _ = bd
   generalize has : Code.region 6 _ _ = asg
   refine CC.mono (xc _ V _ _ _ (cX p) hD (fun i G V' => ∃ cv W, yk V.length ((List.range i).map (fV n p)) cv V' /\ V.length <= V'.length /\ V'.take V.length = V ∧
    G = H ++ (some [ci n] :: some [ci 0, .v (.slice none 0 0), .v (.slice none 0 0)] :: none :: some [ci n, .sl tk 1 (bs p), cv] :: some [.sl .sh 1 (bs (cX p))] :: some [ci 4] :: some [fQ 48 #[26] asg bd [(2, .ptr H.length 0), (6, .ptr (H.length + 3) 0)] .ready none] :: W))
    ⟨.v (.slice none 0 0), [], .inl ⟨rfl, rfl⟩, le_refl _, by simp, rfl⟩ ?_ ?_) ?_
   · rintro i _ V' ⟨cv, W, _, _, _, rfl⟩
     exact ⟨aC _ _ 4, aC _ _ 5⟩
   · rintro i hi _ V' ⟨cv, W, ha, hv1, hv2, rfl⟩
     refine YC.of_round (n := 48) (ps := #[26]) (bd := bd) (T := [(2, .ptr H.length 0), (6, .ptr (H.length + 3) 0)]) (aC _ _ 6) rfl (by decide) ?_
     subst hbd has
     refine ab ?_
     simp -implicitDefEqProofs [go_sem, yD]
     refine af (aa (ab ?_))
     simp -implicitDefEqProofs [go_sem]
     generalize hlp : fQ 48 #[26] _ _ _ LoopState.busy none = lp
     generalize hqq : RQ 48 #[26] _ _ _ _ _ = QQ
     refine am (α := Unit) (fun x => ([(2, .ptr H.length 0), (6, .ptr (H.length + 3) 0), (7, .sl .ti 1 (bs (jM p i))), (8, .ptr (H.length + (W.length + 7)) 0)], HP H n tk p cv lp (W ++ [some (fb (iR n ++ List.replicate 4 0))]), V')) (fun _ => True) ?_ ?_
     · refine aa (ab ?_)
       simp -implicitDefEqProofs [go_sem]
       refine af ?_
       refine al (α := Nat) (fun k => ([(2, .ptr H.length 0), (6, .ptr (H.length + 3) 0), (7, .sl .ti 1 (bs (jM p i))), (8, .ptr (H.length + (W.length + 7)) 0), (27, ci k)], HP H n tk p cv lp (W ++ [some (fb ((iR n).take k ++ List.replicate (8 - k) 0))]), V')) (fun k => k <= 4) (fun k => 4 - k) 0 (by omega) (ae (by simp -implicitDefEqProofs [go_sem, jM]) rfl rfl) ?_
       intro k hk
       dsimp only
       refine aa (ab ?_)
       simp -implicitDefEqProofs [go_sem]
       refine aa (ab ?_)
       simp -implicitDefEqProofs [go_sem]
       refine ⟨fun h => ?_, fun h => ?_⟩
       case refine_2 =>
        obtain rfl : k = 4 := by omega
        exact ae (by simp -implicitDefEqProofs [go_sem]) rfl rfl
       have h4 : k < 4 := by omega
       refine aa (af (aa (ab ?_)))
       simp -implicitDefEqProofs [go_sem]
       refine ab ?_
       simp -implicitDefEqProofs [go_sem, HP, IntWalk.i64_in (8 * (k : Int)) ⟨by omega, by omega⟩, show (k : Int) < 8 by omega]
       have hkl : k < ((iR n).take k ++ List.replicate (8 - k) (0 : UInt8)).length := by simp [de]; omega
       refine ⟨by omega, by simp [de]; omega, ab ?_⟩
       simp -implicitDefEqProofs [go_sem, aq (show k <= 1000000000 by omega)]
       refine ⟨k + 1, by omega, by omega, ae (by simp -implicitDefEqProofs [go_sem]) ?_ rfl⟩
       rw [JN n k h4, P9 _ _ _ hkl, F3 n k h4]
     · rintro _ -
       dsimp only
       refine aa (ab ?_)
       simp -implicitDefEqProofs [go_sem, HP]
       have hpl := qd hp hi
       have hsec : List.take 4 (fb (iR n ++ [0, 0, 0, 0])) ++ ((bs (jM p i)).flatten ++ List.drop (4 + (jM p i).length) (fb (iR n ++ [0, 0, 0, 0]))) = aE (fV n p i) := by
        rw [hpl, gJ]
        have e1 : List.take 4 (fb (iR n ++ [0, 0, 0, 0])) = fb (iR n) := rfl
        have e2 : List.drop (4 + 4) (fb (iR n ++ [0, 0, 0, 0])) = [] := rfl
        rw [e1, e2, append_nil, tM]
        show fb _ = fb (fV n p i).val
        rw [np n hp hi]
       rw [hsec]
       refine ⟨by omega, by rw [gJ, tN], by rw [hpl, de]; exact le_refl _, ?_⟩
       rcases ha with ⟨rfl, he⟩ | ⟨k, v, rfl, hv, hk⟩
       · refine ab ?_
         simp -implicitDefEqProofs [go_sem]
         rw [<- hqq, <- hlp]
         refine ⟨aC _ _ 6, rfl, .sl (.own V'.length 0) 8 [aE (fV n p i)], .inr ⟨V'.length, 0, ?_, by simp, hv1⟩, by simp; omega, ?_, W ++ [some (aE (fV n p i))], ?_⟩
         · rw [map_append, he]; rfl
         · rw [take_append_of_le_length hv1]; exact hv2
         · simp
       · refine ab ?_
         simp -implicitDefEqProofs [go_sem, hv]
         rw [<- hqq, <- hlp]
         have hkv := (List.getElem?_eq_some_iff.1 hv).1
         refine ⟨by omega, aC _ _ 6, rfl, .sl (.own k (v + 1)) 8 (((List.range i).map (fV n p)).map aE ++ [aE (fV n p i)]), .inr ⟨k, v + 1, ?_, by rw [getElem?_set_self hkv], hk⟩, by simpa using hv1, ?_, W ++ [some (aE (fV n p i))], ?_⟩
         · rw [map_append]; rfl
         · rw [take_set_of_le hk]; exact hv2
         · simp
   · rintro _ _ V' ⟨cv, W, ha, hv1, hv2, rfl⟩
     refine .inl ⟨aC _ _ 6, ?_⟩
     refine ⟨cv, V', ⟨ha, hv1, hv2⟩, ?_⟩
     refine Sh.trim (L := [some [ci n], some [ci 0, .v (.slice none 0 0), .v (.slice none 0 0)], none, some [ci n, .sl tk 1 (bs p), cv]]) ?_ ?_ oH ?_ hv1 ?_ (take_of_length_le (le_refl _))
     · simp -implicitDefEqProofs [go_sem]
     · simp -implicitDefEqProofs [go_sem]
     · rw [okL, okL] at hok
       rw [aW, aW, FH, aW, okL, okL, okL, okL]
       exact ⟨by simp -implicitDefEqProofs [go_sem], by simp -implicitDefEqProofs [go_sem], ⟨by rw [aK]; trivial, cP (by omega) (by omega) hok.2.1, ha.ok, trivial⟩, trivial⟩
     · simp
 · rintro ⟨cv, V'⟩ ⟨h1, h2, h3⟩
   dsimp only
   refine aw (aD (ab ?_))
   simp -implicitDefEqProofs [go_sem]
   refine ⟨h1.one, aD (ab ?_)⟩
   simp -implicitDefEqProofs [go_sem]
   refine ao.pu (.agg (.cons (.refl _) (.cons (.sh _ _ _) (.cons h1.le .nil)))) ?_ oH (by simp) h3
   rw [k9, okL, okL, okL, okL]
   exact ⟨by rw [aK]; trivial, by rw [gq, jT]; trivial, cn _ _ _, trivial⟩
def mx (a b : List UInt8) (k : Nat) : List UInt8 := a.take k ++ List.replicate (4 - k) 0 ++ (b.take k ++ List.replicate (4 - k) 0)
def dst (p : List UInt8) (k : Nat) : List UInt8 := UInt8.ofNat p.length :: (p.take k ++ List.replicate (31 - k) 0)
def zs (l : List UInt8) : Bool := l.all (· == 0)
def TR (l : List UInt8) (H : Hp) (V : List Nat) : CV -> Hp -> List Nat -> Prop := fun r H' V' => ∃ m, m <= l.length /\ r = .sl .sh 1 (bs (l.take m)) /\ decide (0 < m) = !(zs l) /\ H = H' /\ V = V'
theorem AD (H : Hp) (V : List Nat) (tk : Tk) (l : List UInt8) (hl : l.length <= 1000000) : CC Tryz.prog 189 [.sl tk 1 (bs l), .v (.int .u8 0)] H V (TR l H V) := by
 refine aj Tryz.func189 rfl fun hok oH => ?_;clear hok;refine aa (ab ?_);simp [go_sem, ai];refine am (α := Nat) (fun m => ([(0, .sl .sh 1 (bs (l.take m)))], H, V)) (fun m => m <= l.length /\ decide (0 < m) = !(zs l)) ?_ ?_
 · refine af ?_
   refine al (α := Nat) (fun m => ([(0, .sl .sh 1 (bs (l.take m))), (1, .v (.int .u8 0))], H, V)) (fun m => m <= l.length /\ zs (l.drop m) = true) (fun m => m) l.length ⟨le_refl _, by simp [zs]⟩ (ae (by simp [go_sem]) rfl rfl) ?_;rintro m ⟨hm, hz⟩;dsimp only;have aT : (l.take m).length = m := by simp; omega
   refine aa (ab ?_)
   by_cases h0 : m = 0
   · subst h0
     simp [go_sem, aT];refine ⟨0, ⟨zero_le _, ?_⟩, ae (by simp [go_sem]) rfl rfl⟩;simp at hz; rw [hz]; rfl
   have w1 : IntKind.i64.wrap ((m : Int) - 1) = ((m - 1 : Nat) : Int) := by rw [IntWalk.i64_in _ ⟨by omega, by omega⟩]; omega
   have hm1 : m - 1 < l.length := by omega
   simp [go_sem, aT, h0, w1, show 0 < m by omega, show m - 1 < m by omega];have hg : l.drop (m - 1) = l[m - 1] :: l.drop m := by
    have := drop_eq_getElem_cons hm1
    rwa [show m - 1 + 1 = m by omega] at this
   refine ⟨fun h => ?_, fun h => ?_⟩
   · refine af (ab ?_)
     simp [go_sem, aT, w1];refine ⟨m - 1, ⟨by omega, ?_⟩, by omega, ae ?_ rfl rfl⟩
     · rw [hg, zs, all_cons, <- zs, hz, show l[m - 1] = 0 from UInt8.toNat_inj.1 h]; rfl
     · simp [go_sem, take_take, Nat.min_eq_left (show m - 1 <= m by omega)]
   · refine ⟨m, ⟨hm, ?_⟩, ae (by simp [go_sem]) rfl rfl⟩
     have : zs l = false := by
      rw [<- Bool.not_eq_true];intro hq;have := all_eq_true.1 hq l[m - 1] (getElem_mem hm1);exact h (by simpa using congrArg UInt8.toNat (eq_of_beq this))
     rw [this]; simp; omega
 · rintro m ⟨hm, hd⟩
   dsimp only;refine ab ?_;simp [go_sem];exact ao.pure ⟨m, hm, rfl, hd, rfl, rfl⟩ (by simp) (by simp) (.refl _) (by rw [gq, jT]; trivial) oH
theorem rx (H : Hp) (V : List Nat) (tk : Tk) (l : List UInt8) (hl : l.length <= 1000000) : CC Tryz.prog 181 [.sl tk 1 (bs l), .v (.string ⟨#[0]⟩)] H V (TR l H V) := by
 refine aj Tryz.func181 rfl fun hok oH => ?_;clear hok;refine aa (ab ?_);simp [go_sem, ai];refine aa (ab ?_)
 by_cases h0 : l = []
 · subst h0
   simp [go_sem];exact ao.pure ⟨0, le_refl _, rfl, rfl, rfl, rfl⟩ (by simp) (by simp) (.sh _ _ _) (by rw [gq, jT]; trivial) oH
 have hlp : 0 < l.length := length_pos_iff.2 h0;simp [go_sem, h0, show ¬ (l.length = 0) by omega];refine aa (ab ?_);simp [go_sem];refine ⟨fun h => ?_, fun h => absurd h (by decide)⟩;refine CC.mono (AD _ _ _ l hl) ?_;rintro _ _ _ ⟨m, h1, rfl, h2, rfl, rfl⟩;simp [go_sem];exact ao.pure ⟨m, h1, rfl, h2, rfl, rfl⟩ (by simp) (by simp) (.refl _) (by rw [gq, jT]; trivial) oH
theorem og (H : Hp) (V : List Nat) (tk : Tk) (xs : List (List CV)) (hx : xs.length <= 1000000000) : CC Tryz.prog 112 [.sl tk 1 xs] H V (Fr 1 xs H V) := by
 refine aj Tryz.func112 rfl fun hok oH => ab ?_;simp [go_sem, ai];simp [okL, aK] at hok;refine ⟨⟨by omega, ?_⟩, fun h => ?_⟩
 · exact ao.fr hok.2 oH (by simp)
 · exact ao.frtok (by omega) (.inl ⟨rfl, h⟩) hok.2 oH (by simp) (by simp)
end Go.Proofs.YtfflhepmkhlppaaGreatDoor
