import Derived.Test.YtbnkggbpocaaiaaGreatDoorF4
import Derived.Test.YtbnkggbpocaaiaaGreatDoorF3
set_option linter.unusedSimpArgs false
set_option linter.unusedVariables false
set_option linter.unusedSectionVars false
namespace Go.Proofs.YtbnkggbpocaaiaaGreatDoor
open Go.Proofs
def apR (l : Img) (ws : List Wr) : Img × Nat × Nat := if sizesE (imgSz l) ≠ 0 then ([], 0, sizesE (imgSz l)) else apI l ws 0
def apV (x : Img × Nat × Nat) : CV := .tup [imV x.1, ci x.2.1, er x.2.2]
theorem okV_apV (i j : Nat) (x : Img × Nat × Nat) : okV i j (apV x) := by
  rw [apV, okV, okL, okL, okL, okL]
  simp [go_sem, okL, okV]
theorem imH_get (H : Hp) (k : Img) (j : Nat) (h : j < k.length) : (H ++ imH k)[H.length + j]? = some (some (secsF k[j])) := by
  rw [hget, imH, List.getElem?_map, List.getElem?_eq_getElem h]; rfl
theorem sizes_pos {l : Img} (h : sizesE (imgSz l) = 0) : l.length ≤ 8 ∧ ∀ v ∈ l, v ≠ [] ∧ v.length ≤ 4096 := by
  obtain ⟨s1, s2, s3⟩ := sizesE_0 h
  rw [imgSz, List.length_map] at s2
  refine ⟨by omega, fun v hv => ?_⟩
  have := s3 (v.length : Int) (List.mem_map.2 ⟨v, hv, rfl⟩)
  refine ⟨fun e => ?_, by omega⟩
  rw [e] at this; simp at this
theorem fitsI_0 {k : Img} {w : Wr} (h : fitsS (imgSz k) w = 0) : ∃ n : Nat, w.volume = (n : Int) ∧ ∃ hn : n < k.length, w.data.length ≠ 0 ∧ ∃ p : Nat, w.start = (p : Int) ∧ p + w.data.length ≤ k[n].length := by
  unfold fitsS at h
  rw [imgSz, List.length_map] at h
  split at h
  · cases h
  · rename_i h1
    split at h
    · cases h
    · rename_i h2
      split at h
      · cases h
      · rename_i h3
        obtain ⟨n, hn⟩ := Int.eq_ofNat_of_zero_le (show 0 ≤ w.volume by omega)
        obtain ⟨p, hp⟩ := Int.eq_ofNat_of_zero_le (show 0 ≤ w.start by omega)
        have hnk : n < k.length := by omega
        have hg := imgSz_getD k n hnk
        rw [imgSz] at hg
        rw [hn, Int.toNat_natCast, hg] at h3
        exact ⟨n, hn, hnk, h2, p, hp, by omega⟩
theorem ap1_len (k : Img) (w : Wr) : (ap1 k w).length = k.length := List.length_set ..
theorem ap1_sz {k : Img} {w : Wr} (h : fitsS (imgSz k) w = 0) : (ap1 k w).map List.length = k.map List.length := by
  obtain ⟨n, hvn, hnk, hd0, p, hpn, hpl⟩ := fitsI_0 h
  rw [ap1, hvn, hpn, Int.toNat_natCast, Int.toNat_natCast, List.getD_eq_getElem?_getD, List.getElem?_eq_getElem hnk, Option.getD_some, List.map_set, putV_len hpl]
  apply List.ext_getElem
  · simp
  · intro i h1 h2
    by_cases e : n = i
    · subst e; simp
    · simp [List.getElem_set_ne e]
theorem okE_bxs' (b : Nat) (k : Img) (jb jv : Nat) (h : b + k.length ≤ jb) : okE jb jv (bxs b k) := okE_bxs jb jv b k h
theorem okH_imH (i j : Nat) : ∀ l : Img, okH i j (imH l)
  | [] => trivial
  | v :: l => ⟨by rw [okL_secsF]; trivial, okH_imH i j l⟩
theorem imH_set (H : Hp) (k : Img) (n : Nat) (v : List Sec) : (H ++ imH k).set (H.length + n) (some (secsF v)) = H ++ imH (k.set n v) := by
  rw [List.set_append_right _ _ (by omega), Nat.add_sub_cancel_left, imH, imH, List.map_set]
theorem FyL.rflI (b : Nat) (cs : List CV) : ∀ l : List CV, FyL b cs l l
  | [] => .nil
  | c :: l => .cons (.refl c) (FyL.rflI b cs l)
theorem FyE.rflI (b : Nat) (cs : List CV) : ∀ l : List (List CV), FyE b cs l l
  | [] => .nil
  | c :: l => .cons (FyL.rflI b cs c) (FyE.rflI b cs l)
theorem FyE.appI {bx : Nat} {cs : List CV} {a b : List (List CV)} {c d : List (List CV)} : FyE bx cs a b → FyE bx cs c d → FyE bx cs (a ++ c) (b ++ d)
  | .nil, h => h
  | .cons h t, g => .cons h (FyE.appI t g)
theorem gst_bxs {n nb nv b : Nat} {V : List Nat} {cs : List CV} : ∀ (l d : Img) (H : Hp) (tk : Tk), (∀ j (h : j < l.length), H[b + d.length + j]? = some (some (secsF l[j]))) →
    ∃ H' : Hp, H'.take b = H.take b ∧ Gst n nb nv [(0, .tup (.sl tk 1 (d.map imE ++ bxs (b + d.length) l) :: cs))] H V [(0, .tup (.sl .sh 1 ((d ++ l).map imE) :: cs))] H' V
  | [], d, H, tk, h => ⟨H, rfl, Gst.forget fun p hp => by
      obtain rfl : p = _ := by simpa using hp
      simp only [tget, if_pos, bxs, List.append_nil]
      exact .tup (.cons (.sh _ _ _) (LeL.refl cs))⟩
  | v :: l, d, H, tk, h => by
    have h0 : H[b + d.length]? = some (some (secsF v)) := h 0 (by simp)
    obtain ⟨H', h1, h2⟩ := gst_bxs (n := n) (nb := nb) (nv := nv) (b := b) (V := V) (cs := cs) l (d ++ [v]) (H.set (b + d.length) none) .sh (fun j hj => by
      rw [List.length_append, List.length_singleton, List.getElem?_set_ne (by omega)]
      have := h (j + 1) (by simpa using hj)
      rw [show b + (d.length + 1) + j = b + d.length + (j + 1) by omega, this]
      rfl)
    refine ⟨H', by rw [h1, List.take_set_of_le (by omega)], Gst.trans (T' := [(0, .tup (.sl .sh 1 (d.map imE ++ (imE v :: bxs (b + d.length + 1) l)) :: cs))]) (Gst.freezeY h0 fun p hp => ?_) ?_⟩
    · obtain rfl : p = _ := by simpa using hp
      simp only [tget, if_pos, bxs]
      have := Fy.bsl (b := b + d.length) (cs := secsF v) 0 v.length 8 (by rw [secsF_len]; omega)
      rw [List.drop_zero, chunks_secs] at this
      exact .tup (.cons (.sl _ _ (FyE.appI (FyE.rflI _ _ _) (.cons (.cons this .nil) (FyE.rflI _ _ _)))) (FyL.rflI _ _ _))
    · have e1 : d.map imE ++ (imE v :: bxs (b + d.length + 1) l) = (d ++ [v]).map imE ++ bxs (b + (d ++ [v]).length) l := by simp [Nat.add_assoc]
      rw [e1]
      rw [List.append_assoc] at h2
      exact h2
theorem fin_bxs {H : Hp} {V V' : List Nat} {tk : Tk} {k : Img} {a b : Nat} (hokH : ∀ (b : Nat) cs, H[b]? = some (some cs) → okL H.length V.length cs) (hV : V'.take V.length = V) :
    Fin H.length V.length (Pu (apV (k, a, b)) H V) (.tup [.sl tk 1 (bxs H.length k), ci a, er b]) (H ++ imH k) V' := by
  obtain ⟨H', h1, h2⟩ := gst_bxs (n := 1) (nb := H.length) (nv := V.length) (b := H.length) (V := V') (cs := [ci a, er b]) k [] (H ++ imH k) tk (fun j hj => imH_get H k j hj)
  refine ⟨_, H, V, Gst.trans h2 ?_, ⟨rfl, rfl, rfl⟩⟩
  rw [List.take_left] at h1
  have := Gst.cut (n := 1) (nb := H.length) (nv := V.length) (T := [(0, apV (k, a, b))]) (H := H') (V := V') H.length V.length (Nat.le_refl _) (Nat.le_refl _) (fun p hp => by simp at hp; subst hp; exact okV_apV _ _ _) (by rw [h1]; exact hokH)
  rwa [h1, hV] at this
set_option maxRecDepth 8000 in
theorem imApply_cc (H : Hp) (V : List Nat) (tk : Tk) (l : Img) (ws : List Wr) (hl : l.length ≤ 1000000000) (hn : ws.length ≤ 1000000000) (hw : ∀ w ∈ ws, w.data.length ≤ 1000000000) : CC Tryz.prog 79 [.sl tk 1 (l.map imE), .sl .sh 3 (ws.map wrC)] H V (Pu (apV (apR l ws)) H V) := by
  refine CC.of_swp Tryz.func79 rfl (by kernel_rfl) (by rw [Tryz.ntmps79]; exact len_le _ _ rfl) fun hok hokH => ?_
  clear hok
  have bad : ∀ (i e : Nat) (H' : Hp) (V' : List Nat), apR l ws = ([], i, e) → H'.take H.length = H → V'.take V.length = V → Fin H.length V.length (Pu (apV (apR l ws)) H V) (.tup [.v (.slice none 0 0), ci i, er e]) H' V' := fun i e H' V' h1 h2 h3 => by
    rw [h1]
    exact Fin.pu (.tup (.cons (.nil 1 (by decide)) (.cons (.refl _) (.cons (.refl _) .nil)))) (okV_apV _ _ _) hokH h2 h3
  refine SWp.seq (Wp.s ?_)
  simp -implicitDefEqProofs [go_sem, args0]
  refine SWp.seq (SWp.seq (Wp.s ?_))
  simp -implicitDefEqProofs [go_sem]
  refine CC.mono (iCheck_cc _ _ tk l hl) ?_
  rintro _ _ _ ⟨rfl, rfl, rfl⟩
  simp -implicitDefEqProofs [go_sem]
  refine SWp.seq (Wp.s ?_)
  by_cases h0 : sizesE (imgSz l) = 0
  case neg =>
    simp -implicitDefEqProofs [go_sem, h0]
    refine Wp.s ?_
    simp -implicitDefEqProofs [go_sem]
    exact bad 0 _ _ _ (by rw [apR, if_pos h0]) (by simp) (by simp)
  have e0 : apR l ws = apI l ws 0 := by rw [apR, if_neg (by simp [h0])]
  simp -implicitDefEqProofs [go_sem, h0]
  refine Wp.s ?_
  simp -implicitDefEqProofs [go_sem]
  obtain ⟨hl8, hvs⟩ := sizes_pos h0
  refine SWp.seq (Wp.s ?_)
  simp -implicitDefEqProofs [go_sem]
  refine CC.mono (imCopied_cc _ _ tk l (by omega) (fun v hv => ⟨(hvs v hv).1, by have := (hvs v hv).2; omega⟩)) ?_
  rintro _ _ _ ⟨rfl, rfl, rfl⟩
  simp -implicitDefEqProofs [go_sem]
  refine SWp.join (α := Img) (fun k => ([(8, .sl (.own V.length l.length) 1 (bxs H.length l))], H ++ imH k, V ++ [l.length])) (fun k => k.map List.length = l.map List.length ∧ apI l ws 0 = (k, 0, 0)) ?_ ?_
  · refine SWp.seq (Wp.s ?_)
    simp -implicitDefEqProofs [go_sem]
    refine SWp.block ?_
    refine SWp.loop (α := Nat × Img) (fun x => ([(8, .sl (.own V.length l.length) 1 (bxs H.length l)), (19, .sl .sh 3 (ws.map wrC)), (20, ci ws.length), (21, ci x.1)], H ++ imH x.2, V ++ [l.length])) (fun x => x.1 ≤ ws.length ∧ x.2.map List.length = l.map List.length ∧ apI l ws 0 = apI x.2 (ws.drop x.1) x.1) (fun x => ws.length - x.1) (0, l) ⟨Nat.zero_le _, rfl, rfl⟩ (Sh.forget (by simp [go_sem]) rfl rfl) ?_
    rintro ⟨i, k⟩ ⟨hi, hk, hap⟩
    dsimp only at hi hk hap ⊢
    refine SWp.seq (Wp.s ?_)
    simp -implicitDefEqProofs [go_sem]
    refine SWp.seq (Wp.s ?_)
    simp -implicitDefEqProofs [go_sem]
    have hkl : k.length = l.length := by have := congrArg List.length hk; simpa using this
    refine ⟨fun h => ?_, fun h => ?_⟩
    case refine_2 =>
      rw [List.drop_of_length_le h] at hap
      exact ⟨k, ⟨hk, hap⟩, Sh.forget (by simp [go_sem]) rfl rfl⟩
    rw [List.drop_eq_getElem_cons h] at hap
    have hbxe := bxs_eq H.length hk
    have hkn : ∀ v ∈ k, v.length ≤ 4096 := fun v hv => by
      have : v.length ∈ k.map List.length := List.mem_map.2 ⟨v, hv, rfl⟩
      rw [hk] at this
      obtain ⟨u, hu, he⟩ := List.mem_map.1 this
      have := (hvs u hu).2; omega
    have hdw := hw _ (List.getElem_mem h)
    obtain ⟨G, hG⟩ : ∃ G, G = H ++ imH k := ⟨_, rfl⟩
    have hGl : G.length = H.length + l.length := by rw [hG]; simp [hkl]
    have hGH : G.take H.length = H := by rw [hG]; simp
    rw [← hG]
    rw [← hbxe]
    refine SWp.seq (SWp.block (SWp.seq (Wp.s ?_)))
    simp -implicitDefEqProofs [go_sem, h]
    refine SWp.seq (SWp.seq (Wp.s ?_))
    simp -implicitDefEqProofs [go_sem]
    refine CC.mono (fitsB_cc _ _ _ H.length k ws[i] (by omega) (fun v hv => by have := hkn v hv; omega) hdw (by simp [hGl, hkl])) ?_
    rintro _ _ _ ⟨rfl, rfl, rfl⟩
    simp -implicitDefEqProofs [go_sem]
    refine SWp.seq (Wp.s ?_)
    by_cases hf : fitsS (imgSz k) ws[i] = 0
    case neg =>
      simp -implicitDefEqProofs [go_sem, hf]
      refine Wp.s ?_
      simp -implicitDefEqProofs [go_sem]
      refine bad i _ _ _ (by rw [e0, hap, apI, if_pos hf]) ?_ (by simp)
      rw [List.take_append_of_le_length (by omega)]; exact hGH
    rw [apI, if_neg (by simp [hf])] at hap
    simp -implicitDefEqProofs [go_sem, hf]
    refine Wp.s ?_
    simp -implicitDefEqProofs [go_sem]
    obtain ⟨n, hvn, hnk, hd0, p, hpn, hpl⟩ := fitsI_0 hf
    have hGn : G[H.length + n]? = some (some (secsF k[n])) := by rw [hG]; exact imH_get H k n hnk
    have hkl4 := hkn _ (List.getElem_mem hnk)
    refine SWp.drawnT [G.length] [10] (.s 0 .pl <| .s 1 .pl <| .s 2 .ld <| .s 3 .pl <| .s 4 .ld <| .s 5 .pl <| .s 6 .ld <| .s 7 .pl <| .s 8 .pl <| .s 9 .pl <| .s 10 .st <| .n) (by kernel_rfl) (by kernel_rfl) ?_
    have hX : ∀ (z : List CV) (K : List CV → Prop), hbx (G ++ [some z]) (H.length + n) K = K (secsF k[n]) := fun z K => hbx_of (by rw [List.getElem?_append_left (by omega)]; exact hGn) K
    simp -implicitDefEqProofs [go_sem, hvn, hpn, hnk, hX]
    refine ⟨by omega, by omega, secsF_all _, by omega, Kp.keep fun b hb => ?_, Wp.s ?_⟩
    · obtain rfl : b = G.length := by simpa using hb
      rw [List.getElem?_set_ne (by omega)]
    simp -implicitDefEqProofs [go_sem, wrap_succ (show i ≤ 1000000000 by omega)]
    refine ⟨i + 1, ap1 k ws[i], ⟨by omega, (ap1_sz hf).trans hk, hap⟩, by omega, ?_⟩
    refine Sh.trim (L := imH (ap1 k ws[i])) (by simp [go_sem]) (by simp [go_sem, okE_bxs' H.length k, ap1_len]) hokH (okH_imH _ _ _) (by simp) ?_ (by simp)
    rw [imH_len, ap1_len, hkl, List.set_append_left _ _ (by omega), List.take_append_of_le_length (by simp; omega), List.take_of_length_le (by simp; omega), hG]
    rw [show List.take (p * 8) (secsF k[n]) ++ ((List.map secC ws[i].data).flatten ++ List.drop (p * 8 + ws[i].data.length * 8) (secsF k[n])) = secsF (putV k[n] p ws[i].data) from by
      rw [← Nat.add_mul, secsF_take, secsF_drop, putV, secsF_app, secsF_app, List.append_assoc]; rfl]
    rw [imH_set, ap1, hvn, hpn, Int.toNat_natCast, Int.toNat_natCast, List.getD_eq_getElem?_getD, List.getElem?_eq_getElem hnk, Option.getD_some]
  rintro k ⟨hk, hap⟩
  dsimp only
  have hkl : k.length = l.length := by have := congrArg List.length hk; simpa using this
  rw [← bxs_eq H.length hk]
  refine Wp.s ?_
  simp -implicitDefEqProofs [go_sem]
  rw [e0, hap]
  exact fin_bxs hokH (by simp)
end Go.Proofs.YtbnkggbpocaaiaaGreatDoor
namespace Go.Proofs.YtbnkggbpocaaiaaGreatDoor
open Go.Proofs
theorem clone_cc (H : Hp) (V : List Nat) (tk : Tk) (xs : List (List CV)) (hx : xs.length ≤ 1000000000) : CC Tryz.prog 120 [.sl tk 1 xs] H V (Fr 1 xs H V) := by
  refine CC.of_swp Tryz.func120 rfl (by kernel_rfl) (by rw [Tryz.ntmps120]; exact len_le _ _ rfl) fun hok hokH => Wp.s ?_
  simp -implicitDefEqProofs [go_sem, args0]
  simp [okL, okV] at hok
  refine ⟨⟨by omega, ?_⟩, fun h => ?_⟩
  · exact Fin.fr hok.2 hokH (by simp)
  · exact Fin.frtok (by omega) (.inl ⟨rfl, h⟩) hok.2 hokH (by simp) (by simp)

theorem encN_lt {n : Nat} (h : n < 128) : encN n = [UInt8.ofNat n] := by rw [encN, dif_pos h]
theorem encN_ge {n : Nat} (h : 128 ≤ n) : encN n = UInt8.ofNat (n % 128 + 128) :: encN (n / 128) := by rw [encN, dif_neg (by omega)]
theorem or128' : (List.range 128).all (fun n => bitop .or .u8 (n : Int) 128 == (n : Int) + 128) = true := by decide +kernel
theorem or128 (n : Nat) : bitop .or .u8 (IntKind.u8.wrap ((n : Int).tmod 128)) 128 = ((UInt8.ofNat (n % 128 + 128)).toNat : Int) := by
  have h := List.all_eq_true.1 or128' (n % 128) (by simp; omega)
  simp at h
  have e : IntKind.u8.wrap ((n : Int).tmod 128) = ((n % 128 : Nat) : Int) := by
    rw [IntKind.wrap_u8, Int.tmod_eq_emod_of_nonneg (by omega)]; omega
  rw [e, UInt8.toNat_ofNat']
  have h2 : ((n % 128 : Nat) : Int) = (n : Int) % 128 := by omega
  rw [h2, h]
  omega
theorem norm_lt (n : Int) : norm n ≤ 9007199254740991 := by unfold norm; split <;> omega
theorem quo128 (n : Nat) (h : n ≤ 9007199254740991) : IntKind.i64.wrap ((n : Int) / 128) = ((n / 128 : Nat) : Int) := by
  rw [IntWalk.i64_in _ ⟨by omega, by omega⟩]; omega
theorem byt_nat (n : Nat) : byt (n : Int) = UInt8.ofNat n := by
  apply UInt8.toNat_inj.1
  have h := byt_toNat (n : Int)
  rw [UInt8.toNat_ofNat']
  omega
theorem set_self {V : List Nat} {k v : Nat} (h : V[k]? = some v) : V.set k v = V := by
  obtain ⟨h1, h2⟩ := List.getElem?_eq_some_iff.1 h
  rw [← h2]; exact List.set_getElem_self h1

theorem encN_len : ∀ (k n : Nat), n < 128 ^ (k + 1) → (encN n).length ≤ k + 1
  | 0, n, h => by rw [encN_lt (by simpa using h)]; simp
  | k + 1, n, h => by
    by_cases hn : n < 128
    · rw [encN_lt hn]; simp
    · rw [encN_ge (by omega), List.length_cons]
      have := encN_len k (n / 128) (by rw [Nat.div_lt_iff_lt_mul (by omega)]; rwa [← Nat.pow_succ])
      omega
theorem enc_len (n : Int) : (enc n).length ≤ 8 := encN_len 7 _ (Nat.lt_of_le_of_lt (norm_lt n) (by decide))
theorem snoc_or (l : List UInt8) (n : Nat) : bs l ++ [[CV.v (.int .u8 (bitop .or .u8 (IntKind.u8.wrap ((n : Int).tmod 128)) 128))]] = bs (l ++ [UInt8.ofNat (n % 128 + 128)]) := by
  rw [or128, bs, bs, List.map_append]; rfl

theorem putInt_cc (H : Hp) (V : List Nat) (k v : Nat) (l : List UInt8) (n : Int) (hv : V[k]? = some v) (hl : l.length ≤ 1000000000) :
    CC Tryz.prog 173 [.sl (.own k v) 1 (bs l), .v (.int .i64 n)] H V (Ow k 1 (bs (l ++ enc n)) H V) := by
  have hk : k < V.length := (List.getElem?_eq_some_iff.1 hv).1
  have hel := enc_len n
  refine CC.of_swp Tryz.func173 rfl (by kernel_rfl) (by rw [Tryz.ntmps173]; exact len_le _ _ rfl) fun hok hokH => ?_
  clear hok
  refine SWp.seq (Wp.s ?_)
  simp -implicitDefEqProofs [go_sem, args0]
  refine SWp.join (α := Unit) (fun _ => ([(0, .sl (.own k v) 1 (bs l)), (1, .v (.int .i64 (norm n)))], H, V)) (fun _ => True) ?_ ?_
  · refine Wp.s ?_
    simp -implicitDefEqProofs [go_sem]
    refine ⟨fun h1 => ⟨fun h2 => ?_, fun h2 => ?_⟩, fun h1 => ?_⟩
    all_goals exact Sh.forget (by simp -implicitDefEqProofs [go_sem]; exact .int (by unfold norm; split <;> omega)) rfl rfl
  · rintro _ -
    refine SWp.join (α := Nat × List UInt8 × Nat) (fun x => ([(0, .sl (.own k x.1) 1 (bs x.2.1)), (1, .v (.int .i64 x.2.2))], H, V.set k x.1)) (fun x => x.2.2 < 128 ∧ x.2.1 ++ encN x.2.2 = l ++ enc n) ?_ ?_
    · refine SWp.block ?_
      refine SWp.loop (α := Nat × List UInt8 × Nat) (fun x => ([(0, .sl (.own k x.1) 1 (bs x.2.1)), (1, .v (.int .i64 x.2.2))], H, V.set k x.1)) (fun x => x.2.2 ≤ 9007199254740991 ∧ x.2.1 ++ encN x.2.2 = l ++ enc n) (fun x => x.2.2) (v, l, norm n) ⟨norm_lt n, rfl⟩ (Sh.forget (by simp -implicitDefEqProofs [go_sem]) rfl (set_self hv).symm) ?_
      rintro ⟨v1, l1, n1⟩ ⟨hb, h4⟩
      dsimp only at hb h4
      have hlen := congrArg List.length h4
      simp only [List.length_append] at hlen
      refine Wp.s ?_
      simp -implicitDefEqProofs [go_sem, hk, quo128 n1 hb, snoc_or]
      refine ⟨fun h => ⟨by omega, v1 + 1, l1 ++ [UInt8.ofNat (n1 % 128 + 128)], n1 / 128, ⟨by omega, ?_⟩, by omega, Sh.forget (by simp -implicitDefEqProofs [go_sem]) rfl rfl⟩, fun h => ⟨v1, l1, n1, ⟨by omega, h4⟩, Sh.forget (by simp -implicitDefEqProofs [go_sem]) rfl rfl⟩⟩
      rw [← h4, encN_ge (n := n1) (by omega)]; simp
    · rintro ⟨v1, l1, n1⟩ ⟨h1, h3⟩
      dsimp only at h1 h3
      have hlen := congrArg List.length h3
      simp only [List.length_append] at hlen
      refine Wp.s ?_
      simp -implicitDefEqProofs [go_sem, hk, byt_nat]
      exact ⟨by omega, Fin.ownB hk (by rw [← h3, encN_lt h1]) hokH (by simp)⟩

theorem PutInt_cc (H : Hp) (V : List Nat) (tk : Tk) (l : List UInt8) (n : Int) (hl : l.length ≤ 1000000000) :
    CC Tryz.prog 165 [.sl tk 1 (bs l), .v (.int .i64 n)] H V (Fr 1 (bs (l ++ enc n)) H V) := by
  refine CC.of_swp Tryz.func165 rfl (by kernel_rfl) (by rw [Tryz.ntmps165]; exact len_le _ _ rfl) fun hok hokH => Wp.s ?_
  simp -implicitDefEqProofs [go_sem, args0]
  refine CC.mono (clone_cc _ _ _ _ (by simpa using hl)) ?_
  rintro _ _ _ ⟨v, rfl, rfl, rfl⟩
  try simp -implicitDefEqProofs [go_sem]
  refine CC.mono (putInt_cc _ _ _ _ _ _ (by simp) hl) ?_
  rintro _ _ _ ⟨v', rfl, rfl, rfl⟩
  simp -implicitDefEqProofs [go_sem]
  exact Fin.freshB rfl hokH (by simp)

end Go.Proofs.YtbnkggbpocaaiaaGreatDoor
namespace Go.Proofs.YtbnkggbpocaaiaaGreatDoor
open Go.Proofs
theorem flat_len {α : Type} {f : α → List UInt8} {c : Nat} (h : ∀ x, (f x).length ≤ c) : ∀ xs : List α, (xs.flatMap f).length ≤ c * xs.length
  | [] => by simp
  | x :: xs => by
    rw [List.flatMap_cons, List.length_append, List.length_cons, Nat.mul_succ]
    have := flat_len h xs
    have := h x
    omega
theorem flat_take {α : Type} {f : α → List UInt8} {xs : List α} {i : Nat} (h : i < xs.length) : (xs.take (i + 1)).flatMap f = (xs.take i).flatMap f ++ f xs[i] := by
  rw [List.take_succ_eq_append_getElem h, List.flatMap_append]; simp
end Go.Proofs.YtbnkggbpocaaiaaGreatDoor
namespace Go.Proofs.YtbnkggbpocaaiaaGreatDoor
open Go.Proofs
theorem putSector_cc (H : Hp) (V : List Nat) (k v : Nat) (l : List UInt8) (s : Sec) (hv : V[k]? = some v) (hl : l.length ≤ 1000000000) :
    CC Tryz.prog 175 [.sl (.own k v) 1 (bs l), .agg (secC s)] H V (Ow k 1 (bs (l ++ s.val)) H V) := by
  have hk : k < V.length := (List.getElem?_eq_some_iff.1 hv).1
  refine CC.of_swp Tryz.func175 rfl (by kernel_rfl) (by rw [Tryz.ntmps175]; exact len_le _ _ rfl) fun hok hokH => Wp.s ?_
  clear hok
  simp -implicitDefEqProofs [go_sem, args0, hv]
  have := s.len
  exact ⟨by omega, Fin.ownB hk rfl hokH (by simp)⟩
theorem flat_le {α : Type} {f : α → List UInt8} {xs : List α} {i : Nat} (h : i < xs.length) : ((xs.take i).flatMap f).length + (f xs[i]).length ≤ (xs.flatMap f).length := by
  have h1 := flat_take (f := f) h
  have h2 : xs.flatMap f = (xs.take (i + 1)).flatMap f ++ (xs.drop (i + 1)).flatMap f := by rw [← List.flatMap_append, List.take_append_drop]
  rw [h2, h1]
  simp only [List.length_append]; omega
theorem secs_len : ∀ l : List Sec, (l.flatMap Sec.val).length = 8 * l.length
  | [] => rfl
  | s :: l => by rw [List.flatMap_cons, List.length_append, secs_len l, s.len, List.length_cons]; omega
theorem encSecs_len (l : List Sec) : (encSecs l).length = (enc l.length).length + 8 * l.length := by rw [encSecs, List.length_append, secs_len]
theorem putSecs_cc (H : Hp) (V : List Nat) (k v : Nat) (tk : Tk) (l : List UInt8) (xs : List Sec) (hv : V[k]? = some v) (hl : l.length + 8 * xs.length ≤ 900000000) :
    CC Tryz.prog 174 [.sl (.own k v) 1 (bs l), .sl tk 8 (xs.map secC), .fn 175 []] H V (Ow k 1 (bs (l ++ encSecs xs)) H V) := by
  have hk : k < V.length := (List.getElem?_eq_some_iff.1 hv).1
  have hel := enc_len xs.length
  refine CC.of_swp Tryz.func174 rfl (by kernel_rfl) (by rw [Tryz.ntmps174]; exact len_le _ _ rfl) fun hok hokH => ?_
  simp -implicitDefEqProofs [go_sem, okV_slt] at hok
  refine SWp.seq (Wp.s ?_)
  simp -implicitDefEqProofs [go_sem, args0]
  refine SWp.seq (Wp.s ?_)
  simp -implicitDefEqProofs [go_sem]
  refine CC.mono (putInt_cc _ _ _ _ _ _ hv (by omega)) ?_
  rintro _ _ _ ⟨v', rfl, rfl, rfl⟩
  try simp -implicitDefEqProofs [go_sem]
  refine SWp.join (α := Nat) (fun v => ([(0, .sl (.own k v) 1 (bs (l ++ encSecs xs)))], H, V.set k v)) (fun _ => True) ?_ ?_
  · refine SWp.seq (Wp.s ?_)
    simp -implicitDefEqProofs [go_sem]
    refine SWp.block ?_
    refine SWp.loop (α := Nat × Nat) (fun x => ([(0, .sl (.own k x.1) 1 (bs (l ++ enc xs.length ++ (xs.take x.2).flatMap Sec.val))), (2, .fn 175 []), (13, .sl tk 8 (xs.map secC)), (14, ci xs.length), (15, ci x.2)], H, V.set k x.1)) (fun x => x.2 ≤ xs.length) (fun x => xs.length - x.2) (v', 0) (Nat.zero_le _) (Sh.forget (by simp -implicitDefEqProofs [go_sem]) rfl rfl) ?_
    rintro ⟨v1, i⟩ hi
    dsimp only at hi ⊢
    have hlen := flat_len (f := Sec.val) (fun x => Nat.le_of_eq x.len) (xs.take i)
    rw [List.length_take] at hlen
    refine Wp.s ?_
    simp -implicitDefEqProofs [go_sem]
    refine ⟨fun h => ⟨h, ?_⟩, fun h => ⟨v1, Sh.forget ?_ rfl rfl⟩⟩
    · refine CC.mono (putSector_cc _ _ _ _ _ _ (by simp [hk]) (by simp only [List.length_append]; omega)) ?_
      rintro _ _ _ ⟨v2, rfl, rfl, rfl⟩
      simp -implicitDefEqProofs [go_sem]
      refine ⟨v2, i + 1, by omega, by omega, Sh.back ?_ rfl (by simp) (by simp -implicitDefEqProofs [go_sem, okV_slt, hok]) (by simpa using hokH) (by simp) (by simp)⟩
      simp -implicitDefEqProofs [go_sem, wrap_succ (show i ≤ 1000000000 by omega), flat_take h]
    · simp -implicitDefEqProofs [go_sem, encSecs]
      rw [List.take_of_length_le h]; exact .refl _
  · rintro v1 -
    refine Wp.s ?_
    simp -implicitDefEqProofs [go_sem]
    exact Fin.ownB hk rfl hokH (by simp)


theorem putWrite_cc (H : Hp) (V : List Nat) (k v : Nat) (l : List UInt8) (x : Wr) (hv : V[k]? = some v) (hl : l.length + (encWr x).length ≤ 900000000) :
    CC Tryz.prog 121 [.sl (.own k v) 1 (bs l), .agg (wrC x)] H V (Ow k 1 (bs (l ++ encWr x)) H V) := by
  have hk : k < V.length := (List.getElem?_eq_some_iff.1 hv).1
  simp only [encWr, List.length_append, encSecs_len] at hl
  refine CC.of_swp Tryz.func121 rfl (by kernel_rfl) (by rw [Tryz.ntmps121]; exact len_le _ _ rfl) fun hok hokH => ?_
  clear hok
  refine SWp.seq (Wp.s ?_)
  simp -implicitDefEqProofs [go_sem, args0]
  refine SWp.seq (SWp.drawnL [0, 1, 2, 4, 5, 7, 8, 3, 6, 9, 10] (by kernel_rfl) (by kernel_rfl) rfl ?_)
  simp -implicitDefEqProofs [go_sem]
  refine CC.mono (putInt_cc _ _ _ _ _ _ hv (by omega)) ?_
  rintro _ _ _ ⟨v', rfl, rfl, rfl⟩
  try simp -implicitDefEqProofs [go_sem]
  refine CC.mono (putInt_cc _ _ _ _ _ _ (by simp [hk]) (by simp only [List.length_append]; omega)) ?_
  rintro _ _ _ ⟨v', rfl, rfl, rfl⟩
  try simp -implicitDefEqProofs [go_sem]
  refine CC.mono (putSecs_cc _ _ _ _ _ _ _ (by simp [hk]) (by simp only [List.length_append]; omega)) ?_
  rintro _ _ _ ⟨v', rfl, rfl, rfl⟩
  simp -implicitDefEqProofs [go_sem]
  refine Wp.s ?_
  simp -implicitDefEqProofs [go_sem]
  exact Fin.ownB hk (by simp [encWr]) hokH (by simp)

theorem putWrites_cc (H : Hp) (V : List Nat) (k v : Nat) (tk : Tk) (l : List UInt8) (xs : List Wr) (hv : V[k]? = some v) (hx : xs.length ≤ 900000000) (hl : l.length + (encWrs xs).length ≤ 900000000) :
    CC Tryz.prog 119 [.sl (.own k v) 1 (bs l), .sl tk 3 (xs.map wrC), .fn 121 []] H V (Ow k 1 (bs (l ++ encWrs xs)) H V) := by
  have hk : k < V.length := (List.getElem?_eq_some_iff.1 hv).1
  have hel := enc_len xs.length
  simp only [encWrs, List.length_append] at hl
  refine CC.of_swp Tryz.func119 rfl (by kernel_rfl) (by rw [Tryz.ntmps119]; exact len_le _ _ rfl) fun hok hokH => ?_
  simp -implicitDefEqProofs [go_sem, okV_slt] at hok
  refine SWp.seq (Wp.s ?_)
  simp -implicitDefEqProofs [go_sem, args0]
  refine SWp.seq (Wp.s ?_)
  simp -implicitDefEqProofs [go_sem]
  refine CC.mono (putInt_cc _ _ _ _ _ _ hv (by omega)) ?_
  rintro _ _ _ ⟨v', rfl, rfl, rfl⟩
  try simp -implicitDefEqProofs [go_sem]
  refine SWp.join (α := Nat) (fun v => ([(0, .sl (.own k v) 1 (bs (l ++ encWrs xs)))], H, V.set k v)) (fun _ => True) ?_ ?_
  · refine SWp.seq (Wp.s ?_)
    simp -implicitDefEqProofs [go_sem]
    refine SWp.block ?_
    refine SWp.loop (α := Nat × Nat) (fun x => ([(0, .sl (.own k x.1) 1 (bs (l ++ enc xs.length ++ (xs.take x.2).flatMap encWr))), (2, .fn 121 []), (13, .sl tk 3 (xs.map wrC)), (14, ci xs.length), (15, ci x.2)], H, V.set k x.1)) (fun x => x.2 ≤ xs.length) (fun x => xs.length - x.2) (v', 0) (Nat.zero_le _) (Sh.forget (by simp -implicitDefEqProofs [go_sem]) rfl rfl) ?_
    rintro ⟨v1, i⟩ hi
    dsimp only at hi ⊢
    refine Wp.s ?_
    simp -implicitDefEqProofs [go_sem]
    refine ⟨fun h => ⟨h, ?_⟩, fun h => ⟨v1, Sh.forget ?_ rfl rfl⟩⟩
    · have hone := flat_le (f := encWr) h
      refine CC.mono (putWrite_cc _ _ _ _ _ _ (by simp [hk]) (by simp only [List.length_append]; omega)) ?_
      rintro _ _ _ ⟨v2, rfl, rfl, rfl⟩
      simp -implicitDefEqProofs [go_sem]
      refine ⟨v2, i + 1, by omega, by omega, Sh.back ?_ rfl (by simp) (by simp -implicitDefEqProofs [go_sem, okV_slt, hok]) (by simpa using hokH) (by simp) (by simp)⟩
      simp -implicitDefEqProofs [go_sem, wrap_succ (show i ≤ 1000000000 by omega), flat_take h]
    · simp -implicitDefEqProofs [go_sem, encWrs]
      rw [List.take_of_length_le h]; exact .refl _
  · rintro v1 -
    refine Wp.s ?_
    simp -implicitDefEqProofs [go_sem]
    exact Fin.ownB hk rfl hokH (by simp)

end Go.Proofs.YtbnkggbpocaaiaaGreatDoor
namespace Go.Proofs.YtbnkggbpocaaiaaGreatDoor
open Go.Proofs
section
variable {P : Program} {H : Hp} {V : List Nat}
theorem CC.args {f : FuncId} {xs ys : List CV} {R : CV → Hp → List Nat → Prop} (h : LeL xs ys) (hc : CC P f ys H V R) : CC P f xs H V R :=
  ⟨hc.1, fun m w us hi hu => hc.2 m w us hi (LeL.rel h hu)⟩
end
theorem LeL.self : ∀ l : List CV, LeL l l
  | [] => .nil
  | c :: l => .cons (.refl c) (LeL.self l)
@[go_sem] theorem sec_snoc (l : List UInt8) (s : Sec) (j : Nat) (h : j < (secC s).length) : bs l ++ [(secC s)[j].cells] = bs (l ++ [s.val[j]'(by simpa [s.len] using h)]) := by
  simp only [bs, secC, List.getElem_map, List.map_append]; rfl
@[go_sem] theorem sec_cells (s : Sec) (j : Nat) (h : j < (secC s).length) : (secC s)[j].cells.length = 1 ∧ allOne (secC s)[j].cells = true := by
  simp only [secC, List.getElem_map]; exact ⟨rfl, rfl⟩
end Go.Proofs.YtbnkggbpocaaiaaGreatDoor
namespace Go.Proofs.YtbnkggbpocaaiaaGreatDoor
open Go.Proofs
theorem and127 (x : UInt8) : bitop .and .u8 (x.toNat : Int) 127 = ((x.toNat % 128 : Nat) : Int) := by
  have h : (List.range 256).all (fun n => bitop .and .u8 (n : Int) 127 == ((n % 128 : Nat) : Int)) = true := by decide +kernel
  have h1 := List.all_eq_true.1 h x.toNat (List.mem_range.2 x.toNat_lt)
  exact eq_of_beq h1
theorem and128 (x : UInt8) : bitop .and .u8 (x.toNat : Int) 128 = if x.toNat < 128 then 0 else 128 := by
  have h : (List.range 256).all (fun n => bitop .and .u8 (n : Int) 128 == if n < 128 then 0 else 128) = true := by decide +kernel
  have h1 := List.all_eq_true.1 h x.toNat (List.mem_range.2 x.toNat_lt)
  exact eq_of_beq h1
theorem wrap_nat {n : Nat} (h : n < 9223372036854775808) : IntKind.i64.wrap (n : Int) = (n : Int) := IntWalk.i64_in _ ⟨by omega, by omega⟩
theorem pow128 (i : Nat) : 128 ^ i = 2 ^ (7 * i) := by rw [Nat.pow_mul]
theorem part_lt {a i : Nat} (hi : i < 8) (ha : a < 128) : a * 128 ^ i < 72057594037927936 := by
  have h2 : 128 ^ i ≤ 128 ^ 7 := Nat.pow_le_pow_right (by omega) (by omega)
  have h3 : a * 128 ^ i ≤ 127 * 128 ^ 7 := Nat.mul_le_mul (by omega) h2
  have h4 : 127 * 128 ^ 7 < 72057594037927936 := by decide
  omega
theorem or_shift {n a i : Nat} (hi : i < 8) (hn : n < 128 ^ i) (ha : a < 128) : bitop .or .i64 (n : Int) (shl .i64 (a : Int) (IntKind.i64.wrap (7 * (i : Int)))) = ((n + a * 128 ^ i : Nat) : Int) := by
  have h1 := part_lt hi ha
  have h2 : 128 ^ i ≤ 128 ^ 7 := Nat.pow_le_pow_right (by omega) (by omega)
  have h3 : (128 : Nat) ^ 7 = 562949953421312 := by decide
  have e0 : IntKind.i64.wrap (7 * (i : Int)) = ((7 * i : Nat) : Int) := by rw [IntWalk.i64_in _ ⟨by omega, by omega⟩]; omega
  have e1 : shl .i64 (a : Int) (IntKind.i64.wrap (7 * (i : Int))) = ((a * 128 ^ i : Nat) : Int) := by
    rw [e0, shl]
    have hb : min ((7 * i : Nat) : Int).toNat IntKind.i64.bits = 7 * i := by
      have : IntKind.i64.bits = 64 := rfl
      omega
    rw [hb]
    have hc : ((a : Int) * 2 ^ (7 * i)) = ((a * 128 ^ i : Nat) : Int) := by rw [pow128]; simp
    rw [hc, wrap_nat (by omega)]
  rw [e1]
  have e2 : (BitVec.ofInt 64 (n : Int) ||| BitVec.ofInt 64 ((a * 128 ^ i : Nat) : Int)).toNat = n + a * 128 ^ i := by
    rw [BitVec.toNat_or, BitVec.ofInt_natCast, BitVec.ofInt_natCast, BitVec.toNat_ofNat, BitVec.toNat_ofNat, Nat.mod_eq_of_lt (by omega), Nat.mod_eq_of_lt (by omega), Nat.or_comm, pow128, ← Nat.shiftLeft_eq, ← Nat.shiftLeft_add_eq_or_of_lt (by rw [← pow128]; exact hn), Nat.add_comm]
  have e3 : bitop .or .i64 (n : Int) ((a * 128 ^ i : Nat) : Int) = IntKind.i64.wrap ((BitVec.ofInt 64 (n : Int) ||| BitVec.ofInt 64 ((a * 128 ^ i : Nat) : Int)).toNat : Int) := rfl
  rw [e3, e2, wrap_nat (by omega)]

def numG : Nat → Nat → Nat → List UInt8 → Except Nat (Nat × List UInt8)
  | 0, _, _, _ => .error 3
  | _ + 1, _, _, [] => .error 10
  | f + 1, i, n, b :: r =>
    if b.toNat < 128 then
      if (b.toNat = 0 ∧ 0 < i) ∨ 9007199254740991 < n + b.toNat * 128 ^ i then .error 3 else .ok (n + b.toNat * 128 ^ i, r)
    else numG f (i + 1) (n + b.toNat % 128 * 128 ^ i) r
def number (src : List UInt8) : Except Nat (Nat × List UInt8) := numG 8 0 0 src

def Cur {α : Type} (b : Nat) (tk : Tk) (val : α → CV) (zero : CV) (x : Except Nat (α × List UInt8)) (H : Hp) (V : List Nat) : CV → Hp → List Nat → Prop := fun r H' V' =>
  match x with
  | .ok (a, s) => r = .tup [val a, Go.Proofs.YtbnkggbpocaaiaaGreatDoor.er 0] ∧ H.set b (some [.sl tk 1 (bs s)]) = H' ∧ V = V'
  | .error e => r = .tup [zero, Go.Proofs.YtbnkggbpocaaiaaGreatDoor.er e] ∧ H = H' ∧ V = V'
section
variable {H : Hp} {V : List Nat} {b : Nat} {tk : Tk} {src : List UInt8}
theorem Fin.curErr {α : Type} {val : α → CV} {zero z c : CV} {x : Except Nat (α × List UInt8)} {e : Nat} (hx : x = .error e) (hz : okV H.length V.length zero) (h1 : z = zero) (h2 : c = Go.Proofs.YtbnkggbpocaaiaaGreatDoor.er e) (hokH : ∀ (b : Nat) cs, H[b]? = some (some cs) → okL H.length V.length cs) {H' : Hp} {V' : List Nat} (hH : H'.take H.length = H) (hV : V'.take V.length = V) :
    Fin H.length V.length (Cur b tk val zero x H V) (.tup [z, c]) H' V' := by
  subst hx h1 h2
  exact Fin.pure (by exact ⟨rfl, rfl, rfl⟩) hH hV (.refl _) (by simp -implicitDefEqProofs [go_sem, hz]) hokH
theorem ok_set {jb jv : Nat} {c : List CV} (hc : okL jb jv c) (hokH : ∀ (b : Nat) cs, H[b]? = some (some cs) → okL jb jv cs) (b' : Nat) (cs : List CV) (h : (H.set b (some c))[b']? = some (some cs)) : okL jb jv cs := by
  by_cases hb : b = b'
  · subst hb
    by_cases hl : b < H.length
    · rw [List.getElem?_set_self hl] at h; cases h; exact hc
    · rw [List.set_eq_of_length_le (by omega)] at h; exact hokH _ _ h
  · rw [List.getElem?_set_ne hb] at h; exact hokH _ _ h
theorem tk_of_box {n m sz : Nat} {xs : List (List CV)} {r : List CV} (hb : H[b]? = some (some (.sl tk sz xs :: r))) (hokH : ∀ (b : Nat) cs, H[b]? = some (some cs) → okL n m cs) : okTk m tk := by
  have := hokH b _ hb
  rw [okL, okV] at this; exact this.1.1
theorem Fin.curOk {α : Type} {val : α → CV} {zero z c : CV} {x : Except Nat (α × List UInt8)} {a : α} {s : List UInt8} (hx : x = .ok (a, s)) (hz : okV H.length V.length (val a)) (h1 : Le z (val a)) (h2 : c = Go.Proofs.YtbnkggbpocaaiaaGreatDoor.er 0) (ht : okTk V.length tk) (hokH : ∀ (b : Nat) cs, H[b]? = some (some cs) → okL H.length V.length cs) {H' : Hp} {V' : List Nat} (hH : H'.take H.length = H.set b (some [.sl tk 1 (bs s)])) (hV : V'.take V.length = V) :
    Fin H.length V.length (Cur b tk val zero x H V) (.tup [z, c]) H' V' := by
  subst hx h2
  exact Fin.pure (r' := .tup [val a, Go.Proofs.YtbnkggbpocaaiaaGreatDoor.er 0]) (by exact ⟨rfl, rfl, rfl⟩) hH hV (.tup (.cons h1 (.cons (.refl _) .nil))) (by simp -implicitDefEqProofs [go_sem, hz]) (ok_set (by simp -implicitDefEqProofs [go_sem, okV_slt, ht]) hokH)
end
set_option maxHeartbeats 1000000 in
theorem number_cc (H : Hp) (V : List Nat) (b : Nat) (tk : Tk) (src : List UInt8) (hb : H[b]? = some (some [.sl tk 1 (bs src)])) :
    CC Tryz.prog 205 [.ptr b 0] H V (Cur b tk (fun n : Nat => ci n) (ci 0) (number src) H V) := by
  refine CC.of_swp Tryz.func205 rfl (by kernel_rfl) (by rw [Tryz.ntmps205]; exact len_le _ _ rfl) fun hok hokH => ?_
  refine SWp.seq (Wp.s ?_)
  simp -implicitDefEqProofs [go_sem, args0]
  refine SWp.seq (Wp.s ?_)
  simp -implicitDefEqProofs [go_sem]
  refine SWp.join (α := Unit) (fun _ => ([], H, V)) (fun _ => number src = .error 3) ?_ ?_
  · refine SWp.seq (Wp.s ?_)
    simp -implicitDefEqProofs [go_sem]
    refine SWp.block ?_
    refine SWp.loop (α := Nat × Nat) (fun x => ([(0, .ptr b 0), (4, ci x.1), (7, ci x.2)], H, V)) (fun x => x.2 ≤ 8 ∧ x.1 < 128 ^ x.2 ∧ numG (8 - x.2) x.2 x.1 (src.drop x.2) = number src) (fun x => 8 - x.2) (0, 0) ⟨by omega, by simp, rfl⟩ (Sh.forget (by simp -implicitDefEqProofs [go_sem]) rfl rfl) ?_
    rintro ⟨n, i⟩ ⟨hi, hn, h⟩
    dsimp only at hi hn h ⊢
    by_cases h8 : i < 8
    · by_cases hs : i < src.length
      · rw [show 8 - i = (7 - i) + 1 by omega, List.drop_eq_getElem_cons hs, numG] at h
        have e' : IntKind.i64.wrap ((src[i].toNat : Int) % 128) = ((src[i].toNat % 128 : Nat) : Int) := by
          rw [show (src[i].toNat : Int) % 128 = ((src[i].toNat % 128 : Nat) : Int) by omega]; exact wrap_nat (by omega)
        have e : bitop .or .i64 n (shl .i64 (IntKind.i64.wrap ((src[i].toNat : Int) % 128)) (IntKind.i64.wrap (7 * (i : Int)))) = ((n + src[i].toNat % 128 * 128 ^ i : Nat) : Int) := by
          rw [e']; exact or_shift h8 hn (by omega)
        have e7 : 0 ≤ IntKind.i64.wrap (7 * (i : Int)) := by rw [IntWalk.i64_in _ ⟨by omega, by omega⟩]; omega
        have hlt : n + src[i].toNat % 128 * 128 ^ i < 128 ^ (i + 1) := by
          have h1 : src[i].toNat % 128 * 128 ^ i ≤ 127 * 128 ^ i := Nat.mul_le_mul_right _ (by omega)
          rw [Nat.pow_succ]; omega
        have hmod : src[i].toNat < 128 → src[i].toNat % 128 = src[i].toNat := fun h => Nat.mod_eq_of_lt h
        generalize hN : n + src[i].toNat % 128 * 128 ^ i = N at *
        refine Wp.s ?_
        simp -implicitDefEqProofs [go_sem, hbx_some hb, and127, and128, e, e7, hs, wrap_succ (show i ≤ 1000000000 by omega), show (i : Int) < 8 by omega]
        have hT := tk_of_box hb hokH
        refine ⟨fun hq => absurd hq (by omega), fun h1 => ?_, fun h1 => ⟨fun h2 => ⟨fun h3 => ⟨fun h4 => ?_, fun h4 => ⟨by omega, by omega, ?_⟩⟩, fun h3 => ?_⟩, fun h2 => ⟨fun h4 => ?_, fun h4 => ⟨by omega, by omega, ?_⟩⟩⟩⟩
        · rw [if_neg (by omega)] at h
          refine ⟨N, i + 1, ⟨by omega, hlt, ?_⟩, by omega, Sh.forget (by simp -implicitDefEqProofs [go_sem]) rfl rfl⟩
          rw [show 8 - (i + 1) = 7 - i by omega]; exact h
        all_goals
          rw [if_pos h1, ← hmod h1, hN] at h
        · rw [if_pos (by omega)] at h
          exact Fin.curErr h.symm (by simp -implicitDefEqProofs [go_sem]) rfl rfl hokH (by simp) (by simp)
        · rw [if_neg (by omega)] at h
          exact Fin.curOk h.symm (by simp -implicitDefEqProofs [go_sem]) (.refl _) rfl hT hokH (by simp) (by simp)
        · rw [if_pos (by have := hmod h1; omega)] at h
          exact Fin.curErr h.symm (by simp -implicitDefEqProofs [go_sem]) rfl rfl hokH (by simp) (by simp)
        · rw [if_pos (by omega)] at h
          exact Fin.curErr h.symm (by simp -implicitDefEqProofs [go_sem]) rfl rfl hokH (by simp) (by simp)
        · rw [if_neg (by have := hmod h1; omega)] at h
          exact Fin.curOk h.symm (by simp -implicitDefEqProofs [go_sem]) (.refl _) rfl hT hokH (by simp) (by simp)
      · rw [show 8 - i = (7 - i) + 1 by omega, List.drop_eq_nil_of_le (by omega), numG] at h
        refine Wp.s ?_
        simp -implicitDefEqProofs [go_sem, hbx_some hb, show (i : Int) < 8 by omega, show src.length ≤ i by omega]
        exact Fin.curErr h.symm (by simp -implicitDefEqProofs [go_sem]) rfl rfl hokH (by simp) (by simp)
    · rw [show 8 - i = 0 by omega, numG] at h
      refine Wp.s ?_
      simp -implicitDefEqProofs [go_sem, show ¬ ((i : Int) < 8) by omega]
      exact ⟨h.symm, Sh.forget (by simp -implicitDefEqProofs [go_sem]) rfl rfl⟩
  · rintro _ he
    refine Wp.s ?_
    simp -implicitDefEqProofs [go_sem]
    exact Fin.curErr he (by simp -implicitDefEqProofs [go_sem]) rfl rfl hokH (by simp) (by simp)
end Go.Proofs.YtbnkggbpocaaiaaGreatDoor
namespace Go.Proofs.YtbnkggbpocaaiaaGreatDoor
open Go.Proofs
def rdv {α : Type} (val : α → CV) (zero : CV) : Except Nat (α × List UInt8) → CV
  | .ok (a, s) => .tup [val a, .sl .sh 1 (bs s), Go.Proofs.YtbnkggbpocaaiaaGreatDoor.er 0]
  | .error e => .tup [zero, .v (.slice none 0 0), Go.Proofs.YtbnkggbpocaaiaaGreatDoor.er e]
theorem number_len : ∀ (f i n : Nat) (src : List UInt8) {m : Nat} {r : List UInt8}, numG f i n src = .ok (m, r) → r.length ≤ src.length
  | 0, _, _, _, _, _, h => by rw [numG] at h; cases h
  | f + 1, _, _, [], _, _, h => by rw [numG] at h; cases h
  | f + 1, i, n, b :: s, m, r, h => by
    rw [numG] at h
    split at h
    · split at h
      · cases h
      · cases h; simp
    · have := number_len f _ _ s h
      rw [List.length_cons]; omega
theorem number_err : ∀ (f i n : Nat) (src : List UInt8) {e : Nat}, numG f i n src = .error e → e = 3 ∨ e = 10
  | 0, _, _, _, _, h => by rw [numG] at h; cases h; simp
  | f + 1, _, _, [], _, h => by rw [numG] at h; cases h; simp
  | f + 1, i, n, b :: s, e, h => by
    rw [numG] at h
    split at h
    · split at h
      · cases h; simp
      · cases h
    · exact number_err f _ _ s h

theorem readInt_cc (H : Hp) (V : List Nat) (tk : Tk) (src : List UInt8) (hl : src.length ≤ 1000000000) :
    CC Tryz.prog 204 [.sl tk 1 (bs src), .fn 205 []] H V (Pu (rdv (fun n : Nat => ci n) (ci 0) (number src)) H V) := by
  refine CC.of_swp Tryz.func204 rfl (by kernel_rfl) (by rw [Tryz.ntmps204]; exact len_le _ _ rfl) fun hok hokH => Wp.s ?_
  simp -implicitDefEqProofs [go_sem, args0]
  refine CC.mono (number_cc _ _ _ _ _ (at_len _ _)) ?_
  intro r H' V' h
  unfold Cur at h
  rcases hn : number src with e | ⟨n, s⟩
  · rw [hn] at h
    obtain ⟨rfl, rfl, rfl⟩ := h
    have he : ¬ e = 0 := by rcases number_err _ _ _ _ hn with rfl | rfl <;> decide
    simp -implicitDefEqProofs [go_sem, he]
    exact Fin.pu (.refl _) (by simp -implicitDefEqProofs [go_sem, rdv]) hokH (by simp) (by simp)
  · rw [hn] at h
    obtain ⟨rfl, rfl, rfl⟩ := h
    simp -implicitDefEqProofs [go_sem]
    refine CC.mono (clone_cc _ _ _ _ (by have := number_len _ _ _ _ hn; simp only [bs_len]; omega)) ?_
    rintro _ _ _ ⟨v', rfl, rfl, rfl⟩
    try simp -implicitDefEqProofs [go_sem]
    exact Fin.pu (.tup (.cons (.refl _) (.cons (.sh ..) (.cons (.refl _) .nil)))) (by simp -implicitDefEqProofs [go_sem, rdv]) hokH (by simp) (by simp)
theorem Int_cc (H : Hp) (V : List Nat) (tk : Tk) (src : List UInt8) (hl : src.length ≤ 1000000000) :
    CC Tryz.prog 184 [.sl tk 1 (bs src)] H V (Pu (rdv (fun n : Nat => ci n) (ci 0) (number src)) H V) := by
  refine CC.of_swp Tryz.func184 rfl (by kernel_rfl) (by rw [Tryz.ntmps184]; exact len_le _ _ rfl) fun hok hokH => Wp.s ?_
  simp -implicitDefEqProofs [go_sem, args0]
  refine CC.mono (readInt_cc _ _ _ _ hl) ?_
  rintro _ _ _ ⟨rfl, rfl, rfl⟩
  rcases hn : number src with e | ⟨n, s⟩
  · simp -implicitDefEqProofs [go_sem, rdv]
    exact Fin.pu (.refl _) (by simp -implicitDefEqProofs [go_sem]) hokH (by simp) (by simp)
  · simp -implicitDefEqProofs [go_sem, rdv]
    exact Fin.pu (.refl _) (by simp -implicitDefEqProofs [go_sem]) hokH (by simp) (by simp)
end Go.Proofs.YtbnkggbpocaaiaaGreatDoor
namespace Go.Proofs.YtbnkggbpocaaiaaGreatDoor
abbrev Pr (α : Type) := List UInt8 → Except Nat (α × List UInt8)
def lengthP : Pr Nat := fun s =>
  match number s with
  | .error e => .error e
  | .ok (n, r) => if 65536 < n then .error 5 else .ok (n, r)
def takeP (n : Nat) : Pr (List UInt8) := fun s => if s.length < n then .error 10 else .ok (s.take n, s.drop n)
def secP : Pr Sec := fun s => if h : s.length < 8 then .error 10 else .ok (⟨s.take 8, by rw [List.length_take]; omega⟩, s.drop 8)
def pairP : Pr (Nat × Nat) := fun s =>
  match number s with
  | .error e => .error e
  | .ok (a, r) =>
    match number r with
    | .error e => .error e
    | .ok (b, r') => .ok ((a, b), r')
def repP {α : Type} (p : Pr α) : Nat → Pr (List α)
  | 0, s => .ok ([], s)
  | n + 1, s =>
    match p s with
    | .error e => .error e
    | .ok (a, r) =>
      match repP p n r with
      | .error e => .error e
      | .ok (l, r') => .ok (a :: l, r')
def listP {α : Type} (p : Pr α) : Pr (List α) := fun s =>
  match lengthP s with
  | .error e => .error e
  | .ok (n, r) => repP p n r
def wrP : Pr Wr := fun s =>
  match pairP s with
  | .error e => .error e
  | .ok ((a, b), r) =>
    match listP secP r with
    | .error e => .error e
    | .ok (l, r') => .ok (⟨a, b, l⟩, r')
def ahead {α : Type} (xs : List α) : Except Nat (List α × List UInt8) → Except Nat (List α × List UInt8)
  | .error e => .error e
  | .ok (l, r) => .ok (xs ++ l, r)
theorem ahead_nil {α : Type} (x : Except Nat (List α × List UInt8)) : ahead [] x = x := by cases x <;> rfl
theorem rep_ok {α : Type} {p : Pr α} {n : Nat} {s r : List UInt8} {a : α} {xs : List α} (h : p s = .ok (a, r)) : ahead xs (repP p (n + 1) s) = ahead (xs ++ [a]) (repP p n r) := by
  rw [repP, h]
  dsimp only
  cases repP p n r with
  | error e => rfl
  | ok q => simp [ahead]
theorem rep_err {α : Type} {p : Pr α} {n e : Nat} {s : List UInt8} {xs : List α} (h : p s = .error e) : ahead xs (repP p (n + 1) s) = .error e := by
  rw [repP, h]; rfl
def Ne0 {α : Type} (p : Pr α) : Prop := ∀ s e, p s = .error e → e ≠ 0
theorem ne0_number : Ne0 number := fun s e h => by rcases number_err _ _ _ _ h with rfl | rfl <;> decide
theorem ne0_length : Ne0 lengthP := fun s e h => by
  unfold lengthP at h
  split at h
  · rename_i h1; cases h; exact ne0_number _ _ h1
  · split at h
    · cases h; decide
    · cases h
theorem ne0_take (n : Nat) : Ne0 (takeP n) := fun s e h => by
  unfold takeP at h
  split at h
  · cases h; decide
  · cases h
theorem ne0_sec : Ne0 secP := fun s e h => by
  unfold secP at h
  split at h
  · cases h; decide
  · cases h
theorem ne0_pair : Ne0 pairP := fun s e h => by
  unfold pairP at h
  split at h
  · rename_i h1; cases h; exact ne0_number _ _ h1
  · split at h
    · rename_i h1; cases h; exact ne0_number _ _ h1
    · cases h
theorem ne0_rep {α : Type} {p : Pr α} (hp : Ne0 p) : ∀ n, Ne0 (repP p n)
  | 0, s, e, h => by rw [repP] at h; cases h
  | n + 1, s, e, h => by
    rw [repP] at h
    split at h
    · rename_i h1; cases h; exact hp _ _ h1
    · split at h
      · rename_i h1; cases h; exact ne0_rep hp n _ _ h1
      · cases h
theorem ne0_list {α : Type} {p : Pr α} (hp : Ne0 p) : Ne0 (listP p) := fun s e h => by
  unfold listP at h
  split at h
  · rename_i h1; cases h; exact ne0_length _ _ h1
  · exact ne0_rep hp _ _ _ h
theorem ne0_wr : Ne0 wrP := fun s e h => by
  unfold wrP at h
  split at h
  · rename_i h1; cases h; exact ne0_pair _ _ h1
  · split at h
    · rename_i h1; cases h; exact ne0_list ne0_sec _ _ h1
    · cases h
def Shr {α : Type} (p : Pr α) : Prop := ∀ s a r, p s = .ok (a, r) → r.length ≤ s.length
theorem shr_number : Shr number := fun _ _ _ h => number_len _ _ _ _ h
theorem shr_length : Shr lengthP := fun s a r h => by
  unfold lengthP at h
  split at h
  · cases h
  · rename_i h1
    split at h
    · cases h
    · cases h; exact shr_number _ _ _ h1
theorem length_le {s r : List UInt8} {n : Nat} (h : lengthP s = .ok (n, r)) : n ≤ 65536 := by
  unfold lengthP at h
  split at h
  · cases h
  · split at h
    · cases h
    · cases h; omega
theorem shr_sec : Shr secP := fun s a r h => by
  unfold secP at h
  split at h
  · cases h
  · cases h; rw [List.length_drop]; omega
theorem shr_pair : Shr pairP := fun s a r h => by
  unfold pairP at h
  split at h
  · cases h
  · rename_i h1
    split at h
    · cases h
    · rename_i h2; cases h; exact Nat.le_trans (shr_number _ _ _ h2) (shr_number _ _ _ h1)
theorem shr_rep {α : Type} {p : Pr α} (hp : Shr p) : ∀ n, Shr (repP p n)
  | 0, s, a, r, h => by rw [repP] at h; cases h; exact Nat.le_refl _
  | n + 1, s, a, r, h => by
    rw [repP] at h
    split at h
    · cases h
    · rename_i h1
      split at h
      · cases h
      · rename_i h2; cases h; exact Nat.le_trans (shr_rep hp n _ _ _ h2) (hp _ _ _ h1)
theorem shr_list {α : Type} {p : Pr α} (hp : Shr p) : Shr (listP p) := fun s a r h => by
  unfold listP at h
  split at h
  · cases h
  · rename_i h1; exact Nat.le_trans (shr_rep hp _ _ _ _ h) (shr_length _ _ _ h1)
theorem shr_wr : Shr wrP := fun s a r h => by
  unfold wrP at h
  split at h
  · cases h
  · rename_i h1
    split at h
    · cases h
    · rename_i h2; cases h; exact Nat.le_trans (shr_list shr_sec _ _ _ h2) (shr_pair _ _ _ h1)
end Go.Proofs.YtbnkggbpocaaiaaGreatDoor
namespace Go.Proofs.YtbnkggbpocaaiaaGreatDoor
open Go.Proofs
def Rd {α : Type} (b : Nat) (tk : Tk) (val : α → CV) (Z : CV → Prop) (x : Except Nat (α × List UInt8)) (H : Hp) (V : List Nat) : CV → Hp → List Nat → Prop := fun r H' V' =>
  match x with
  | .ok (a, s) => r = .tup [val a, Go.Proofs.YtbnkggbpocaaiaaGreatDoor.er 0] ∧ H.set b (some [.sl tk 1 (bs s)]) = H' ∧ V = V'
  | .error e => ∃ z s, Z z ∧ r = .tup [z, Go.Proofs.YtbnkggbpocaaiaaGreatDoor.er e] ∧ H.set b (some [.sl tk 1 (bs s)]) = H' ∧ V = V'
def Rd3 (b : Nat) (tk : Tk) (x : Except Nat ((Nat × Nat) × List UInt8)) (H : Hp) (V : List Nat) : CV → Hp → List Nat → Prop := fun r H' V' =>
  match x with
  | .ok ((m, n), s) => r = .tup [ci m, ci n, Go.Proofs.YtbnkggbpocaaiaaGreatDoor.er 0] ∧ H.set b (some [.sl tk 1 (bs s)]) = H' ∧ V = V'
  | .error e => ∃ (m n : Int) (s : List UInt8), r = .tup [ci m, ci n, Go.Proofs.YtbnkggbpocaaiaaGreatDoor.er e] ∧ H.set b (some [.sl tk 1 (bs s)]) = H' ∧ V = V'
section
variable {H : Hp} {V : List Nat} {b : Nat} {tk : Tk} {α : Type} {val : α → CV} {Z : CV → Prop}
theorem Fin.rdOk {z c : CV} {x : Except Nat (α × List UInt8)} {a : α} {s : List UInt8} (hx : x = .ok (a, s)) (hz : okV H.length V.length (val a)) (h1 : Le z (val a)) (h2 : c = Go.Proofs.YtbnkggbpocaaiaaGreatDoor.er 0) (ht : okTk V.length tk) (hokH : ∀ (b : Nat) cs, H[b]? = some (some cs) → okL H.length V.length cs) {H' : Hp} {V' : List Nat} (hH : H'.take H.length = H.set b (some [.sl tk 1 (bs s)])) (hV : V'.take V.length = V) :
    Fin H.length V.length (Rd b tk val Z x H V) (.tup [z, c]) H' V' := by
  subst hx h2
  exact Fin.pure (r' := .tup [val a, Go.Proofs.YtbnkggbpocaaiaaGreatDoor.er 0]) (by exact ⟨rfl, rfl, rfl⟩) hH hV (.tup (.cons h1 (.cons (.refl _) .nil))) (by simp -implicitDefEqProofs [go_sem, hz]) (ok_set (by simp -implicitDefEqProofs [go_sem, okV_slt, ht]) hokH)
theorem Fin.rd3Ok {m n c : CV} {x : Except Nat ((Nat × Nat) × List UInt8)} {a a' : Nat} {s : List UInt8} (hx : x = .ok ((a, a'), s)) (h0 : m = ci a) (h1 : n = ci a') (h2 : c = Go.Proofs.YtbnkggbpocaaiaaGreatDoor.er 0) (ht : okTk V.length tk) (hokH : ∀ (b : Nat) cs, H[b]? = some (some cs) → okL H.length V.length cs) {H' : Hp} {V' : List Nat} (hH : H'.take H.length = H.set b (some [.sl tk 1 (bs s)])) (hV : V'.take V.length = V) :
    Fin H.length V.length (Rd3 b tk x H V) (.tup [m, n, c]) H' V' := by
  subst hx h0 h1 h2
  exact Fin.pure (by exact ⟨rfl, rfl, rfl⟩) hH hV (.refl _) (by simp -implicitDefEqProofs [go_sem]) (ok_set (by simp -implicitDefEqProofs [go_sem, okV_slt, ht]) hokH)
theorem Fin.rd3Err {c : CV} {m n : Int} {x : Except Nat ((Nat × Nat) × List UInt8)} {e : Nat} {s : List UInt8} (hx : x = .error e) (h2 : c = Go.Proofs.YtbnkggbpocaaiaaGreatDoor.er e) (ht : okTk V.length tk) (hokH : ∀ (b : Nat) cs, H[b]? = some (some cs) → okL H.length V.length cs) {H' : Hp} {V' : List Nat} (hH : H'.take H.length = H.set b (some [.sl tk 1 (bs s)])) (hV : V'.take V.length = V) :
    Fin H.length V.length (Rd3 b tk x H V) (.tup [ci m, ci n, c]) H' V' := by
  subst hx h2
  exact Fin.pure (by exact ⟨m, n, s, rfl, rfl, rfl⟩) hH hV (.refl _) (by simp -implicitDefEqProofs [go_sem]) (ok_set (by simp -implicitDefEqProofs [go_sem, okV_slt, ht]) hokH)
theorem Fin.rdErr {z z' c : CV} {x : Except Nat (α × List UInt8)} {e : Nat} {s : List UInt8} (hx : x = .error e) (hZ : Z z') (hz : okV H.length V.length z') (h1 : Le z z') (h2 : c = Go.Proofs.YtbnkggbpocaaiaaGreatDoor.er e) (ht : okTk V.length tk) (hokH : ∀ (b : Nat) cs, H[b]? = some (some cs) → okL H.length V.length cs) {H' : Hp} {V' : List Nat} (hH : H'.take H.length = H.set b (some [.sl tk 1 (bs s)])) (hV : V'.take V.length = V) :
    Fin H.length V.length (Rd b tk val Z x H V) (.tup [z, c]) H' V' := by
  subst hx h2
  exact Fin.pure (r' := .tup [z', Go.Proofs.YtbnkggbpocaaiaaGreatDoor.er e]) (by exact ⟨z', s, hZ, rfl, rfl, rfl⟩) hH hV (.tup (.cons h1 (.cons (.refl _) .nil))) (by simp -implicitDefEqProofs [go_sem, hz]) (ok_set (by simp -implicitDefEqProofs [go_sem, okV_slt, ht]) hokH)
end
section
variable {H L : Hp} {b k : Nat} {c d : Option (List CV)} {cs : List CV} {K : List CV → Prop}
@[go_sem] theorem hbx_at (h : k = H.length) : hbx (H ++ some cs :: L) k K = K cs := by subst h; exact hbx_new H cs L K
@[go_sem] theorem set_at (h : k = H.length) : (H ++ c :: L).set k d = H ++ d :: L := by
  subst h; rw [List.set_append_right _ _ (Nat.le_refl _), Nat.sub_self]; rfl
theorem set_left (h : b < H.length) : (H ++ L).set b d = H.set b d ++ L := List.set_append_left _ _ h
theorem take_set : (H.set b d).take H.length = H.set b d := List.take_of_length_le (by simp)
theorem take_set2 : (H.set b d ++ L).take H.length = H.set b d := by
  rw [List.take_append_of_le_length (by simp), List.take_of_length_le (by simp)]
end
theorem lt_of_box {H : Hp} {b : Nat} {x : Option (List CV)} (h : H[b]? = some x) : b < H.length := (List.getElem?_eq_some_iff.1 h).1
theorem set_same {H : Hp} {b : Nat} {c : Option (List CV)} (h : H[b]? = some c) : H.set b c = H := by
  obtain ⟨h1, h2⟩ := List.getElem?_eq_some_iff.1 h
  rw [← h2]; exact List.set_getElem_self h1
theorem number_rd (H : Hp) (V : List Nat) (b : Nat) (tk : Tk) (src : List UInt8) (hb : H[b]? = some (some [.sl tk 1 (bs src)])) :
    CC Tryz.prog 205 [.ptr b 0] H V (Rd b tk (fun n : Nat => ci n) (· = ci 0) (number src) H V) := by
  refine CC.mono (number_cc _ _ _ _ _ hb) fun r H' V' h => ?_
  unfold Cur at h
  unfold Rd
  rcases hn : number src with e | ⟨n, s⟩ <;> rw [hn] at h
  · obtain ⟨h1, h2, h3⟩ := h
    exact ⟨_, src, rfl, h1, by rw [set_same hb]; exact h2, h3⟩
  · exact h
theorem Fin.rdErr0 {H : Hp} {V : List Nat} {b : Nat} {tk : Tk} {α : Type} {val : α → CV} {Z : CV → Prop} {z z' c : CV} {src : List UInt8} {x : Except Nat (α × List UInt8)} {e : Nat} (hb : H[b]? = some (some [.sl tk 1 (bs src)])) (hx : x = .error e) (hZ : Z z') (hz : okV H.length V.length z') (h1 : Le z z') (h2 : c = Go.Proofs.YtbnkggbpocaaiaaGreatDoor.er e) (ht : okTk V.length tk) (hokH : ∀ (b : Nat) cs, H[b]? = some (some cs) → okL H.length V.length cs) {H' : Hp} {V' : List Nat} (hH : H'.take H.length = H) (hV : V'.take V.length = V) :
    Fin H.length V.length (Rd b tk val Z x H V) (.tup [z, c]) H' V' :=
  Fin.rdErr hx hZ hz h1 h2 ht hokH (by rw [hH, set_same hb]) hV
theorem length_rd (H : Hp) (V : List Nat) (b : Nat) (tk : Tk) (src : List UInt8) (hb : H[b]? = some (some [.sl tk 1 (bs src)])) :
    CC Tryz.prog 227 [.ptr b 0] H V (Rd b tk (fun n : Nat => ci n) (fun z => ∃ n, z = ci n) (lengthP src) H V) := by
  have hbl := lt_of_box hb
  refine CC.of_swp Tryz.func227 rfl (by kernel_rfl) (by rw [Tryz.ntmps227]; exact len_le _ _ rfl) fun hok hokH => ?_
  have ht := tk_of_box hb hokH
  refine SWp.seq (Wp.s ?_)
  simp -implicitDefEqProofs [go_sem, args0]
  refine SWp.seq (Wp.s ?_)
  simp -implicitDefEqProofs [go_sem]
  refine CC.mono (number_rd _ _ _ _ _ hb) ?_
  intro r H' V' h
  unfold Rd at h
  rcases hn : number src with e | ⟨n, s⟩ <;> rw [hn] at h
  · obtain ⟨_, s, rfl, rfl, rfl, rfl⟩ := h
    have he := ne0_number _ _ hn
    simp -implicitDefEqProofs [go_sem]
    refine Wp.s ?_
    simp -implicitDefEqProofs [go_sem, he]
    exact Fin.rdErr (by unfold lengthP; rw [hn]) ⟨0, rfl⟩ (by simp -implicitDefEqProofs [go_sem]) (.refl _) rfl ht hokH take_set (by simp)
  · obtain ⟨rfl, rfl, rfl⟩ := h
    simp -implicitDefEqProofs [go_sem]
    refine Wp.s ?_
    simp -implicitDefEqProofs [go_sem]
    exact ⟨fun h => Fin.rdErr (e := 5) (by unfold lengthP; rw [hn]; dsimp only; rw [if_pos (by omega)]) ⟨n, rfl⟩ (by simp -implicitDefEqProofs [go_sem]) (.refl _) rfl ht hokH take_set (by simp), fun h => Fin.rdOk (by unfold lengthP; rw [hn]; dsimp only; rw [if_neg (by omega)]) (by simp -implicitDefEqProofs [go_sem]) (.refl _) rfl ht hokH take_set (by simp)⟩
theorem bytes_rd (H : Hp) (V : List Nat) (b : Nat) (tk : Tk) (src : List UInt8) (n : Nat) (hb : H[b]? = some (some [.sl tk 1 (bs src)])) :
    CC Tryz.prog 257 [.ptr b 0, ci n] H V (Rd b tk (fun s : List UInt8 => .sl .sh 1 (bs s)) (· = .v (.slice none 0 0)) (takeP n src) H V) := by
  have hbl := lt_of_box hb
  refine CC.of_swp Tryz.func257 rfl (by kernel_rfl) (by rw [Tryz.ntmps257]; exact len_le _ _ rfl) fun hok hokH => ?_
  have ht := tk_of_box hb hokH
  refine SWp.seq (Wp.s ?_)
  simp -implicitDefEqProofs [go_sem, args0]
  by_cases hn : src.length < n
  · refine Wp.s ?_
    simp -implicitDefEqProofs [go_sem, hbx_some hb, show (src.length : Int) < n by omega]
    exact Fin.rdErr0 (e := 10) hb (by unfold takeP; rw [if_pos hn]) (by exact rfl) (by simp -implicitDefEqProofs [go_sem]) (.refl _) rfl ht hokH (by simp) (by simp)
  · refine Wp.s ?_
    simp -implicitDefEqProofs [go_sem, hbx_some hb, show ¬ (src.length : Int) < n by omega]
    exact ⟨by omega, Fin.rdOk (by unfold takeP; rw [if_neg hn]) (by simp -implicitDefEqProofs [go_sem]) (.refl _) rfl ht hokH take_set (by simp)⟩
def Ag (n : Nat) (z : CV) : Prop := ∃ cs, z = .agg cs ∧ cs.length = n ∧ allOne cs = true ∧ ∀ i j, okL i j cs
theorem val_take (s : Sec) : s.val.take 8 = s.val := List.take_of_length_le (by rw [s.len]; exact Nat.le_refl _)
theorem val_len (s : Sec) : s.val.length = 8 := s.len
theorem sec_flat (s : Sec) : (bs s.val).flatten = secC s := by
  have : ∀ l : List UInt8, (bs l).flatten = l.map fun b => CV.v (.int .u8 (b.toNat : Int)) := by
    intro l
    induction l with
    | nil => rfl
    | cons b l ih => rw [bs, List.map_cons, List.flatten_cons, List.map_cons, ← ih]; rfl
  exact this _
theorem sec_take (src : List UInt8) : secP src = (match takeP 8 src with
    | .error e => .error e
    | .ok (q, s) => if h : q.length = 8 then .ok (⟨q, h⟩, s) else .error 10) := by
  unfold secP takeP
  by_cases h : src.length < 8
  · rw [dif_pos h, if_pos h]
  · rw [dif_neg h, if_neg h]; dsimp only; rw [dif_pos (by rw [List.length_take]; omega)]
theorem sector_rd (H : Hp) (V : List Nat) (b : Nat) (tk : Tk) (src : List UInt8) (hb : H[b]? = some (some [.sl tk 1 (bs src)])) :
    CC Tryz.prog 247 [.ptr b 0] H V (Rd b tk (fun s : Sec => .agg (secC s)) (Ag 8) (secP src) H V) := by
  have hbl := lt_of_box hb
  refine CC.of_swp Tryz.func247 rfl (by kernel_rfl) (by rw [Tryz.ntmps247]; exact len_le _ _ rfl) fun hok hokH => ?_
  have ht := tk_of_box hb hokH
  refine SWp.seq (Wp.s ?_)
  simp -implicitDefEqProofs [go_sem, args0]
  refine SWp.seq (Wp.s ?_)
  simp -implicitDefEqProofs [go_sem]
  refine CC.mono (bytes_rd _ _ _ _ _ 8 (by rw [List.getElem?_append_left hbl]; exact hb)) ?_
  intro r H' V' h
  unfold Rd at h
  rcases hn : takeP 8 src with e | ⟨q, s⟩ <;> rw [hn] at h
  · obtain ⟨_, s, rfl, rfl, rfl, rfl⟩ := h
    have he := ne0_take _ _ _ hn
    simp -implicitDefEqProofs [go_sem, set_left hbl]
    refine Wp.s ?_
    simp -implicitDefEqProofs [go_sem, he]
    exact Fin.rdErr (by rw [sec_take, hn]) (by exact ⟨_, rfl, rfl, rfl, fun i j => by simp -implicitDefEqProofs [go_sem]⟩) (by simp -implicitDefEqProofs [go_sem]) (.refl _) rfl ht hokH take_set2 (by simp)
  · obtain ⟨rfl, rfl, rfl⟩ := h
    obtain ⟨s0, rfl, hs0⟩ : ∃ s0 : Sec, q = s0.val ∧ secP src = .ok (s0, s) := by
      rw [sec_take, hn]
      dsimp only
      unfold takeP at hn
      split at hn
      · cases hn
      · rename_i h8
        cases hn
        exact ⟨⟨_, by rw [List.length_take]; omega⟩, rfl, by rw [dif_pos (by rw [List.length_take]; omega)]⟩
    simp -implicitDefEqProofs [go_sem, set_left hbl]
    refine Wp.s ?_
    simp -implicitDefEqProofs [go_sem, val_take, val_len, sec_flat]
    exact Fin.rdOk hs0 (by simp -implicitDefEqProofs [go_sem]) (.refl _) rfl ht hokH take_set2 (by simp)
theorem pair_rd (H : Hp) (V : List Nat) (b : Nat) (tk : Tk) (src : List UInt8) (hb : H[b]? = some (some [.sl tk 1 (bs src)])) :
    CC Tryz.prog 228 [.ptr b 0] H V (Rd3 b tk (pairP src) H V) := by
  have hbl := lt_of_box hb
  refine CC.of_swp Tryz.func228 rfl (by kernel_rfl) (by rw [Tryz.ntmps228]; exact len_le _ _ rfl) fun hok hokH => ?_
  have ht := tk_of_box hb hokH
  refine SWp.seq (Wp.s ?_)
  simp -implicitDefEqProofs [go_sem, args0]
  refine SWp.seq (Wp.s ?_)
  simp -implicitDefEqProofs [go_sem]
  refine CC.mono (number_rd _ _ _ _ _ hb) ?_
  intro r H' V' h
  unfold Rd at h
  rcases hn : number src with e | ⟨n, s⟩ <;> rw [hn] at h
  · obtain ⟨_, s, rfl, rfl, rfl, rfl⟩ := h
    have he := ne0_number _ _ hn
    simp -implicitDefEqProofs [go_sem]
    refine Wp.s ?_
    simp -implicitDefEqProofs [go_sem, he]
    exact Fin.rd3Err (by unfold pairP; rw [hn]) rfl ht hokH take_set (by simp)
  · obtain ⟨rfl, rfl, rfl⟩ := h
    simp -implicitDefEqProofs [go_sem]
    refine Wp.s ?_
    simp -implicitDefEqProofs [go_sem]
    refine CC.mono (number_rd _ _ _ _ _ (List.getElem?_set_self hbl)) ?_
    intro r H' V' h
    unfold Rd at h
    rcases hm : number s with e | ⟨m, s'⟩ <;> rw [hm] at h
    · obtain ⟨_, s', rfl, rfl, rfl, rfl⟩ := h
      have he := ne0_number _ _ hm
      simp -implicitDefEqProofs [go_sem]
      exact Fin.rd3Err (by unfold pairP; rw [hn]; dsimp only; rw [hm]) rfl ht hokH take_set (by simp)
    · obtain ⟨rfl, rfl, rfl⟩ := h
      simp -implicitDefEqProofs [go_sem]
      exact Fin.rd3Ok (by unfold pairP; rw [hn]; dsimp only; rw [hm]) rfl rfl rfl ht hokH take_set (by simp)
end Go.Proofs.YtbnkggbpocaaiaaGreatDoor
namespace Go.Proofs.YtbnkggbpocaaiaaGreatDoor
open Go.Proofs
def outC (o : Option Nat) (k sz : Nat) (xs : List (List CV)) : CV :=
  match o with
  | none => .v (.slice none 0 0)
  | some v => .sl (.own k v) sz xs
def outV (V : List Nat) : Option Nat → List Nat
  | none => V
  | some v => V ++ [v]
@[go_sem] theorem outC_none (k sz : Nat) (xs : List (List CV)) : outC none k sz xs = .v (.slice none 0 0) := rfl
@[go_sem] theorem outC_some (v k sz : Nat) (xs : List (List CV)) : outC (some v) k sz xs = .sl (.own k v) sz xs := rfl
@[go_sem] theorem outV_none (V : List Nat) : outV V none = V := rfl
@[go_sem] theorem outV_some (V : List Nat) (v : Nat) : outV V (some v) = V ++ [v] := rfl
theorem outV_take (V : List Nat) (o : Option Nat) : (outV V o).take V.length = V := by cases o <;> simp [outV]
theorem outC_le {α : Type} {f : α → List CV} (o : Option Nat) (k sz : Nat) (xs : List α) (h0 : 0 < sz) (h : o = none → xs = []) : Le (outC o k sz (xs.map f)) (.sl .sh sz (xs.map f)) := by
  cases o with
  | none => rw [h rfl]; exact .nil sz h0
  | some v => exact .sh ..
theorem okE_app {i j : Nat} (xs ys : List (List CV)) : okE i j (xs ++ ys) = (okE i j xs ∧ okE i j ys) := by
  simp only [okE_iff, List.mem_append]
  exact propext ⟨fun h => ⟨fun e he => h e (.inl he), fun e he => h e (.inr he)⟩, fun ⟨h1, h2⟩ e he => he.elim (h1 e) (h2 e)⟩
theorem okH_set {H : Hp} {V : List Nat} {b j : Nat} {tk : Tk} {s : List UInt8} (ht : okTk V.length tk) (hj : V.length ≤ j) (hokH : ∀ (b : Nat) cs, H[b]? = some (some cs) → okL H.length V.length cs) (b' : Nat) (cs : List CV) (h : (H.set b (some [.sl tk 1 (bs s)]))[b']? = some (some cs)) : okL H.length j cs :=
  okL_mono (Nat.le_refl _) hj (ok_set (by simp -implicitDefEqProofs [go_sem, okV_slt, ht]) hokH b' cs h)
theorem listSec_rd (H : Hp) (V : List Nat) (b : Nat) (tk : Tk) (src : List UInt8) (g : Nat) (p : Pr Sec) (hp : Ne0 p) (hs : Shr p)
    (hg : ∀ (H : Hp) (V : List Nat) (b : Nat) (tk : Tk) (src : List UInt8), src.length ≤ 1000000000 → H[b]? = some (some [.sl tk 1 (bs src)]) → CC Tryz.prog g [.ptr b 0] H V (Rd b tk (fun a => .agg (secC a)) (Ag 8) (p src) H V))
    (hl : src.length ≤ 1000000000) (hb : H[b]? = some (some [.sl tk 1 (bs src)])) : CC Tryz.prog 246 [.ptr b 0, .fn g []] H V (Rd b tk (fun l : List Sec => .sl .sh 8 (l.map secC)) (· = .v (.slice none 0 0)) (listP p src) H V) := by
  have hbl := lt_of_box hb
  refine CC.of_swp Tryz.func246 rfl (by kernel_rfl) (by rw [Tryz.ntmps246]; exact len_le _ _ rfl) fun hok hokH => ?_
  have ht := tk_of_box hb hokH
  clear hok
  refine SWp.seq (Wp.s ?_)
  simp -implicitDefEqProofs [go_sem, args0]
  refine SWp.seq (Wp.s ?_)
  simp -implicitDefEqProofs [go_sem]
  refine CC.mono (length_rd _ _ _ _ _ hb) ?_
  intro r H' V' h
  unfold Rd at h
  rcases hn : lengthP src with e | ⟨n, s⟩ <;> rw [hn] at h
  · obtain ⟨_, s, ⟨n, rfl⟩, rfl, rfl, rfl⟩ := h
    have he := ne0_length _ _ hn
    simp -implicitDefEqProofs [go_sem]
    refine Wp.s ?_
    simp -implicitDefEqProofs [go_sem, he]
    exact Fin.rdErr (by unfold listP; rw [hn]) (by exact rfl) (by simp -implicitDefEqProofs [go_sem]) (.refl _) rfl ht hokH take_set (by simp)
  · obtain ⟨rfl, rfl, rfl⟩ := h
    have hn5 := length_le hn
    have hls := shr_length _ _ _ hn
    simp -implicitDefEqProofs [go_sem]
    refine SWp.seq (Wp.s ?_)
    simp -implicitDefEqProofs [go_sem]
    refine SWp.seq (Wp.s ?_)
    simp -implicitDefEqProofs [go_sem]
    refine SWp.join (α := Option Nat × List Sec × List UInt8) (fun x => ([(8, outC x.1 V.length 8 (x.2.1.map secC))], H.set b (some [.sl tk 1 (bs x.2.2)]), outV V x.1)) (fun x => (x.1 = none → x.2.1 = []) ∧ listP p src = .ok (x.2.1, x.2.2)) ?_ ?_
    · refine SWp.seq (Wp.s ?_)
      simp -implicitDefEqProofs [go_sem]
      refine SWp.block ?_
      refine SWp.loop (α := Nat × Option Nat × List Sec × List UInt8) (fun x => ([(0, .ptr b 0), (1, .fn g []), (19, ci n), (20, ci x.1), (8, outC x.2.1 V.length 8 (x.2.2.1.map secC))], H.set b (some [.sl tk 1 (bs x.2.2.2)]), outV V x.2.1))
        (fun x => x.1 ≤ n ∧ x.2.2.1.length = x.1 ∧ (x.2.1 = none → x.2.2.1 = []) ∧ listP p src = ahead x.2.2.1 (repP p (n - x.1) x.2.2.2) ∧ x.2.2.2.length ≤ 1000000000) (fun x => n - x.1) (0, none, [], s) ⟨Nat.zero_le _, rfl, fun _ => rfl, by unfold listP; rw [hn]; exact (ahead_nil _).symm, by dsimp only; omega⟩
        (Sh.forget (by simp -implicitDefEqProofs [go_sem]) rfl rfl) ?_
      rintro ⟨i, o, xs, s⟩ ⟨hi, hx, ho, hL, hsl⟩
      dsimp only at hi hx ho hL hsl ⊢
      refine Wp.s ?_
      simp -implicitDefEqProofs [go_sem]
      refine ⟨fun h => ?_, fun h => ?_⟩
      · refine CC.mono (hg _ _ _ _ s hsl (List.getElem?_set_self hbl)) ?_
        intro r H' V' hr
        unfold Rd at hr
        have hnn : n - i = (n - (i + 1)) + 1 := by omega
        rcases hq : p s with e | ⟨a, s'⟩ <;> rw [hq] at hr
        · have he := hp _ _ hq
          obtain ⟨_, s', ⟨cs, rfl, hcs, hall, hokc⟩, rfl, rfl, rfl⟩ := hr
          simp -implicitDefEqProofs [go_sem, hcs, hall, he]
          exact Fin.rdErr (by rw [hL, hnn, rep_err hq]) (by exact rfl) (by simp -implicitDefEqProofs [go_sem]) (.refl _) rfl ht hokH take_set2 (outV_take _ _)
        · obtain ⟨rfl, rfl, rfl⟩ := hr
          have hs' := hs _ _ _ hq
          have hL' := hL
          rw [hnn, rep_ok hq] at hL'
          have hw := wrap_succ (show i ≤ 1000000000 by omega)
          cases o with
          | none =>
            obtain rfl := ho rfl
            simp -implicitDefEqProofs [go_sem]
            refine ⟨i + 1, some 0, [] ++ [a], s', ⟨by omega, by rw [List.length_append, hx]; rfl, by simp, hL', by omega⟩, by omega, Sh.cut H.length (V.length + 1) (by simp -implicitDefEqProofs [go_sem, hw]) (Nat.le_refl _) (Nat.le_succ _) (by simp -implicitDefEqProofs [go_sem, hbl, okE_app]) (okH_set ht (Nat.le_succ _) hokH) take_set2 (List.take_of_length_le (by simp -implicitDefEqProofs [go_sem]))⟩
          | some v =>
            simp -implicitDefEqProofs [go_sem]
            refine ⟨by omega, i + 1, some (v + 1), xs ++ [a], s', ⟨by omega, by rw [List.length_append, hx]; rfl, by simp, hL', by omega⟩, by omega, Sh.cut H.length (V.length + 1) (by simp -implicitDefEqProofs [go_sem, hw]) (Nat.le_refl _) (Nat.le_succ _) (by simp -implicitDefEqProofs [go_sem, hbl, okE_app]) (okH_set ht (Nat.le_succ _) hokH) take_set2 (List.take_of_length_le (by simp -implicitDefEqProofs [go_sem]))⟩
      · exact ⟨o, xs, s, ⟨ho, by rw [hL, show n - i = 0 by omega, repP]; simp [ahead]⟩, Sh.forget (by simp -implicitDefEqProofs [go_sem]) rfl rfl⟩
    · rintro ⟨o, xs, s⟩ ⟨ho, hL⟩
      dsimp only at ho hL ⊢
      refine Wp.s ?_
      simp -implicitDefEqProofs [go_sem]
      exact Fin.rdOk hL (by simp -implicitDefEqProofs [go_sem]) (by exact outC_le _ _ _ _ (by decide) ho) rfl ht hokH take_set (outV_take _ _)
theorem sectors_rd (H : Hp) (V : List Nat) (b : Nat) (tk : Tk) (src : List UInt8) (hl : src.length ≤ 1000000000) (hb : H[b]? = some (some [.sl tk 1 (bs src)])) :
    CC Tryz.prog 229 [.ptr b 0] H V (Rd b tk (fun l : List Sec => .sl .sh 8 (l.map secC)) (· = .v (.slice none 0 0)) (listP secP src) H V) := by
  have hbl := lt_of_box hb
  refine CC.of_swp Tryz.func229 rfl (by kernel_rfl) (by rw [Tryz.ntmps229]; exact len_le _ _ rfl) fun hok hokH => ?_
  have ht := tk_of_box hb hokH
  refine SWp.seq (Wp.s ?_)
  simp -implicitDefEqProofs [go_sem, args0]
  refine Wp.s ?_
  simp -implicitDefEqProofs [go_sem]
  refine CC.mono (listSec_rd _ _ _ _ _ _ _ ne0_sec shr_sec (fun H V b tk src _ hb => sector_rd H V b tk src hb) hl hb) ?_
  intro r H' V' h
  unfold Rd at h
  rcases hn : listP secP src with e | ⟨l, s⟩ <;> rw [hn] at h
  · obtain ⟨_, s, rfl, rfl, rfl, rfl⟩ := h
    simp -implicitDefEqProofs [go_sem]
    exact Fin.rdErr rfl (by exact rfl) (by simp -implicitDefEqProofs [go_sem]) (.refl _) rfl ht hokH take_set (by simp)
  · obtain ⟨rfl, rfl, rfl⟩ := h
    simp -implicitDefEqProofs [go_sem]
    exact Fin.rdOk rfl (by simp -implicitDefEqProofs [go_sem]) (.refl _) rfl ht hokH take_set (by simp)
theorem write_rd (H : Hp) (V : List Nat) (b : Nat) (tk : Tk) (src : List UInt8) (hl : src.length ≤ 1000000000) (hb : H[b]? = some (some [.sl tk 1 (bs src)])) :
    CC Tryz.prog 212 [.ptr b 0] H V (Rd b tk (fun x : Wr => .agg (wrC x)) (Ag 3) (wrP src) H V) := by
  have hbl := lt_of_box hb
  refine CC.of_swp Tryz.func212 rfl (by kernel_rfl) (by rw [Tryz.ntmps212]; exact len_le _ _ rfl) fun hok hokH => ?_
  have ht := tk_of_box hb hokH
  refine SWp.seq (Wp.s ?_)
  simp -implicitDefEqProofs [go_sem, args0]
  refine SWp.seq (Wp.s ?_)
  simp -implicitDefEqProofs [go_sem]
  refine CC.mono (pair_rd _ _ _ _ _ (by rw [List.getElem?_append_left hbl]; exact hb)) ?_
  intro r H' V' h
  unfold Rd3 at h
  rcases hn : pairP src with e | ⟨⟨m, n⟩, s⟩ <;> rw [hn] at h
  · have he := ne0_pair _ _ hn
    obtain ⟨m, n, s, rfl, rfl, rfl⟩ := h
    simp -implicitDefEqProofs [go_sem, set_left hbl]
    refine Wp.s ?_
    simp -implicitDefEqProofs [go_sem, he]
    exact Fin.rdErr (by unfold wrP; rw [hn]) (by exact ⟨_, rfl, rfl, rfl, fun i j => by simp -implicitDefEqProofs [go_sem]⟩) (by simp -implicitDefEqProofs [go_sem]) (.refl _) rfl ht hokH take_set2 (by simp)
  · obtain ⟨rfl, rfl, rfl⟩ := h
    have hls := shr_pair _ _ _ hn
    simp -implicitDefEqProofs [go_sem, set_left hbl]
    refine Wp.s ?_
    simp -implicitDefEqProofs [go_sem]
    refine CC.mono (sectors_rd _ _ _ _ s (by omega) (by rw [List.getElem?_append_left (by simpa using hbl)]; exact List.getElem?_set_self hbl)) ?_
    intro r H' V' h
    unfold Rd at h
    rcases hm : listP secP s with e | ⟨l, s'⟩ <;> rw [hm] at h
    · obtain ⟨_, s', rfl, rfl, rfl, rfl⟩ := h
      simp -implicitDefEqProofs [go_sem, set_left hbl, set_left (H := H.set b _) (by simpa using hbl : b < (H.set b _).length)]
      exact Fin.rdErr (by unfold wrP; rw [hn]; dsimp only; rw [hm]) (by exact ⟨_, rfl, rfl, rfl, fun i j => by simp -implicitDefEqProofs [go_sem]⟩) (by simp -implicitDefEqProofs [go_sem]) (.refl _) rfl ht hokH take_set2 (by simp)
    · obtain ⟨rfl, rfl, rfl⟩ := h
      simp -implicitDefEqProofs [go_sem, set_left hbl, set_left (H := H.set b _) (by simpa using hbl : b < (H.set b _).length)]
      exact Fin.rdOk (val := fun x : Wr => .agg (wrC x)) (a := ⟨m, n, l⟩) (by unfold wrP; rw [hn]; dsimp only; rw [hm]) (by simp -implicitDefEqProofs [go_sem]) (.refl _) rfl ht hokH take_set2 (by simp)
theorem listWr_rd (H : Hp) (V : List Nat) (b : Nat) (tk : Tk) (src : List UInt8) (g : Nat) (p : Pr Wr) (hp : Ne0 p) (hs : Shr p)
    (hg : ∀ (H : Hp) (V : List Nat) (b : Nat) (tk : Tk) (src : List UInt8), src.length ≤ 1000000000 → H[b]? = some (some [.sl tk 1 (bs src)]) → CC Tryz.prog g [.ptr b 0] H V (Rd b tk (fun a => .agg (wrC a)) (Ag 3) (p src) H V))
    (hl : src.length ≤ 1000000000) (hb : H[b]? = some (some [.sl tk 1 (bs src)])) : CC Tryz.prog 211 [.ptr b 0, .fn g []] H V (Rd b tk (fun l : List Wr => .sl .sh 3 (l.map wrC)) (· = .v (.slice none 0 0)) (listP p src) H V) := by
  have hbl := lt_of_box hb
  refine CC.of_swp Tryz.func211 rfl (by kernel_rfl) (by rw [Tryz.ntmps211]; exact len_le _ _ rfl) fun hok hokH => ?_
  have ht := tk_of_box hb hokH
  clear hok
  refine SWp.seq (Wp.s ?_)
  simp -implicitDefEqProofs [go_sem, args0]
  refine SWp.seq (Wp.s ?_)
  simp -implicitDefEqProofs [go_sem]
  refine CC.mono (length_rd _ _ _ _ _ hb) ?_
  intro r H' V' h
  unfold Rd at h
  rcases hn : lengthP src with e | ⟨n, s⟩ <;> rw [hn] at h
  · obtain ⟨_, s, ⟨n, rfl⟩, rfl, rfl, rfl⟩ := h
    have he := ne0_length _ _ hn
    simp -implicitDefEqProofs [go_sem]
    refine Wp.s ?_
    simp -implicitDefEqProofs [go_sem, he]
    exact Fin.rdErr (by unfold listP; rw [hn]) (by exact rfl) (by simp -implicitDefEqProofs [go_sem]) (.refl _) rfl ht hokH take_set (by simp)
  · obtain ⟨rfl, rfl, rfl⟩ := h
    have hn5 := length_le hn
    have hls := shr_length _ _ _ hn
    simp -implicitDefEqProofs [go_sem]
    refine SWp.seq (Wp.s ?_)
    simp -implicitDefEqProofs [go_sem]
    refine SWp.seq (Wp.s ?_)
    simp -implicitDefEqProofs [go_sem]
    refine SWp.join (α := Option Nat × List Wr × List UInt8) (fun x => ([(8, outC x.1 V.length 3 (x.2.1.map wrC))], H.set b (some [.sl tk 1 (bs x.2.2)]), outV V x.1)) (fun x => (x.1 = none → x.2.1 = []) ∧ listP p src = .ok (x.2.1, x.2.2)) ?_ ?_
    · refine SWp.seq (Wp.s ?_)
      simp -implicitDefEqProofs [go_sem]
      refine SWp.block ?_
      refine SWp.loop (α := Nat × Option Nat × List Wr × List UInt8) (fun x => ([(0, .ptr b 0), (1, .fn g []), (19, ci n), (20, ci x.1), (8, outC x.2.1 V.length 3 (x.2.2.1.map wrC))], H.set b (some [.sl tk 1 (bs x.2.2.2)]), outV V x.2.1))
        (fun x => x.1 ≤ n ∧ x.2.2.1.length = x.1 ∧ (x.2.1 = none → x.2.2.1 = []) ∧ listP p src = ahead x.2.2.1 (repP p (n - x.1) x.2.2.2) ∧ x.2.2.2.length ≤ 1000000000) (fun x => n - x.1) (0, none, [], s) ⟨Nat.zero_le _, rfl, fun _ => rfl, by unfold listP; rw [hn]; exact (ahead_nil _).symm, by dsimp only; omega⟩
        (Sh.forget (by simp -implicitDefEqProofs [go_sem]) rfl rfl) ?_
      rintro ⟨i, o, xs, s⟩ ⟨hi, hx, ho, hL, hsl⟩
      dsimp only at hi hx ho hL hsl ⊢
      refine Wp.s ?_
      simp -implicitDefEqProofs [go_sem]
      refine ⟨fun h => ?_, fun h => ?_⟩
      · refine CC.mono (hg _ _ _ _ s hsl (List.getElem?_set_self hbl)) ?_
        intro r H' V' hr
        unfold Rd at hr
        have hnn : n - i = (n - (i + 1)) + 1 := by omega
        rcases hq : p s with e | ⟨a, s'⟩ <;> rw [hq] at hr
        · have he := hp _ _ hq
          obtain ⟨_, s', ⟨cs, rfl, hcs, hall, hokc⟩, rfl, rfl, rfl⟩ := hr
          simp -implicitDefEqProofs [go_sem, hcs, hall, he]
          exact Fin.rdErr (by rw [hL, hnn, rep_err hq]) (by exact rfl) (by simp -implicitDefEqProofs [go_sem]) (.refl _) rfl ht hokH take_set2 (outV_take _ _)
        · obtain ⟨rfl, rfl, rfl⟩ := hr
          have hs' := hs _ _ _ hq
          have hL' := hL
          rw [hnn, rep_ok hq] at hL'
          have hw := wrap_succ (show i ≤ 1000000000 by omega)
          cases o with
          | none =>
            obtain rfl := ho rfl
            simp -implicitDefEqProofs [go_sem]
            refine ⟨i + 1, some 0, [] ++ [a], s', ⟨by omega, by rw [List.length_append, hx]; rfl, by simp, hL', by omega⟩, by omega, Sh.cut H.length (V.length + 1) (by simp -implicitDefEqProofs [go_sem, hw]) (Nat.le_refl _) (Nat.le_succ _) (by simp -implicitDefEqProofs [go_sem, hbl, okE_app]) (okH_set ht (Nat.le_succ _) hokH) take_set2 (List.take_of_length_le (by simp -implicitDefEqProofs [go_sem]))⟩
          | some v =>
            simp -implicitDefEqProofs [go_sem]
            refine ⟨by omega, i + 1, some (v + 1), xs ++ [a], s', ⟨by omega, by rw [List.length_append, hx]; rfl, by simp, hL', by omega⟩, by omega, Sh.cut H.length (V.length + 1) (by simp -implicitDefEqProofs [go_sem, hw]) (Nat.le_refl _) (Nat.le_succ _) (by simp -implicitDefEqProofs [go_sem, hbl, okE_app]) (okH_set ht (Nat.le_succ _) hokH) take_set2 (List.take_of_length_le (by simp -implicitDefEqProofs [go_sem]))⟩
      · exact ⟨o, xs, s, ⟨ho, by rw [hL, show n - i = 0 by omega, repP]; simp [ahead]⟩, Sh.forget (by simp -implicitDefEqProofs [go_sem]) rfl rfl⟩
    · rintro ⟨o, xs, s⟩ ⟨ho, hL⟩
      dsimp only at ho hL ⊢
      refine Wp.s ?_
      simp -implicitDefEqProofs [go_sem]
      exact Fin.rdOk hL (by simp -implicitDefEqProofs [go_sem]) (by exact outC_le _ _ _ _ (by decide) ho) rfl ht hokH take_set (outV_take _ _)
theorem writes_rd (H : Hp) (V : List Nat) (b : Nat) (tk : Tk) (src : List UInt8) (hl : src.length ≤ 1000000000) (hb : H[b]? = some (some [.sl tk 1 (bs src)])) :
    CC Tryz.prog 210 [.ptr b 0] H V (Rd b tk (fun l : List Wr => .sl .sh 3 (l.map wrC)) (· = .v (.slice none 0 0)) (listP wrP src) H V) := by
  have hbl := lt_of_box hb
  refine CC.of_swp Tryz.func210 rfl (by kernel_rfl) (by rw [Tryz.ntmps210]; exact len_le _ _ rfl) fun hok hokH => ?_
  have ht := tk_of_box hb hokH
  refine SWp.seq (Wp.s ?_)
  simp -implicitDefEqProofs [go_sem, args0]
  refine Wp.s ?_
  simp -implicitDefEqProofs [go_sem]
  refine CC.mono (listWr_rd _ _ _ _ _ _ _ ne0_wr shr_wr (fun H V b tk src hl hb => write_rd H V b tk src hl hb) hl hb) ?_
  intro r H' V' h
  unfold Rd at h
  rcases hn : listP wrP src with e | ⟨l, s⟩ <;> rw [hn] at h
  · obtain ⟨_, s, rfl, rfl, rfl, rfl⟩ := h
    simp -implicitDefEqProofs [go_sem]
    exact Fin.rdErr rfl (by exact rfl) (by simp -implicitDefEqProofs [go_sem]) (.refl _) rfl ht hokH take_set (by simp)
  · obtain ⟨rfl, rfl, rfl⟩ := h
    simp -implicitDefEqProofs [go_sem]
    exact Fin.rdOk rfl (by simp -implicitDefEqProofs [go_sem]) (.refl _) rfl ht hokH take_set (by simp)
end Go.Proofs.YtbnkggbpocaaiaaGreatDoor
namespace Go.Proofs.YtbnkggbpocaaiaaGreatDoor
open Go.Proofs
abbrev nilC : CV := .v (.slice none 0 0)
theorem readWrites_cc (H : Hp) (V : List Nat) (tk : Tk) (src : List UInt8) (hl : src.length ≤ 1000000000) : CC Tryz.prog 209 [.sl tk 1 (bs src), .fn 210 []] H V (Pu (rdv (fun l : List Wr => .sl .sh 3 (l.map wrC)) nilC (listP wrP src)) H V) := by
  refine CC.of_swp Tryz.func209 rfl (by kernel_rfl) (by rw [Tryz.ntmps209]; exact len_le _ _ rfl) fun hok hokH => Wp.s ?_
  simp -implicitDefEqProofs [go_sem, args0]
  refine CC.mono (writes_rd _ _ _ _ _ hl (at_len _ _)) ?_
  intro r H' V' h
  unfold Rd at h
  rcases hn : listP wrP src with e | ⟨l, s⟩ <;> rw [hn] at h
  · have he := (ne0_list ne0_wr) _ _ hn
    obtain ⟨_, s, rfl, rfl, rfl, rfl⟩ := h
    simp -implicitDefEqProofs [go_sem, he]
    exact Fin.pu (.refl _) (by simp -implicitDefEqProofs [go_sem, rdv]) hokH (by simp) (by simp)
  · have hs := (shr_list shr_wr) _ _ _ hn
    obtain ⟨rfl, rfl, rfl⟩ := h
    simp -implicitDefEqProofs [go_sem]
    refine CC.mono (clone_cc _ _ _ _ (by simp only [bs_len]; omega)) ?_
    rintro _ _ _ ⟨v', rfl, rfl, rfl⟩
    simp -implicitDefEqProofs [go_sem]
    exact Fin.pu (.tup (.cons (.refl _) (.cons (.sh ..) (.cons (.refl _) .nil)))) (by simp -implicitDefEqProofs [go_sem, rdv]) hokH (by simp) (by simp)
theorem Writes_cc (H : Hp) (V : List Nat) (tk : Tk) (src : List UInt8) (hl : src.length ≤ 1000000000) : CC Tryz.prog 188 [.sl tk 1 (bs src)] H V (Pu (rdv (fun l : List Wr => .sl .sh 3 (l.map wrC)) nilC (listP wrP src)) H V) := by
  refine CC.of_swp Tryz.func188 rfl (by kernel_rfl) (by rw [Tryz.ntmps188]; exact len_le _ _ rfl) fun hok hokH => Wp.s ?_
  simp -implicitDefEqProofs [go_sem, args0]
  refine CC.mono (readWrites_cc _ _ _ _ hl) ?_
  rintro _ _ _ ⟨rfl, rfl, rfl⟩
  rcases hn : listP wrP src with e | ⟨l, s⟩
  · simp -implicitDefEqProofs [go_sem, rdv]
    exact Fin.pu (.refl _) (by simp -implicitDefEqProofs [go_sem]) hokH (by simp) (by simp)
  · simp -implicitDefEqProofs [go_sem, rdv]
    exact Fin.pu (.refl _) (by simp -implicitDefEqProofs [go_sem]) hokH (by simp) (by simp)
end Go.Proofs.YtbnkggbpocaaiaaGreatDoor
namespace Go.Proofs.YtbnkggbpocaaiaaGreatDoor
open Go.Proofs
def Nm (src : List UInt8) (x : Except Nat (Nat × List UInt8)) (H : Hp) (V : List Nat) : CV → Hp → List Nat → Prop := fun r H' V' =>
  (match x with
  | .ok (m, s) => ∃ k : Nat, r = .tup [ci m, ci k, Go.Proofs.YtbnkggbpocaaiaaGreatDoor.er 0] ∧ k ≤ src.length ∧ s = src.drop k
  | .error e => r = .tup [ci 0, ci 0, Go.Proofs.YtbnkggbpocaaiaaGreatDoor.er e]) ∧ H = H' ∧ V = V'
section
variable {H H' : Hp} {V V' : List Nat} {src : List UInt8} {x : Except Nat (Nat × List UInt8)}
theorem Fin.nmOk {m k : Nat} {s : List UInt8} {a b c : CV} (hx : x = .ok (m, s)) (ha : a = ci m) (hb : b = ci k) (hc : c = Go.Proofs.YtbnkggbpocaaiaaGreatDoor.er 0) (hk : k ≤ src.length) (hs : s = src.drop k) (hokH : ∀ (b : Nat) cs, H[b]? = some (some cs) → okL H.length V.length cs) (hH : H'.take H.length = H) (hV : V'.take V.length = V) :
    Fin H.length V.length (Nm src x H V) (.tup [a, b, c]) H' V' := by
  subst hx ha hb hc
  exact Fin.pure ⟨⟨k, rfl, hk, hs⟩, rfl, rfl⟩ hH hV (.refl _) (by simp -implicitDefEqProofs [go_sem]) hokH
theorem Fin.nmErr {e : Nat} {c : CV} (hx : x = .error e) (hc : c = Go.Proofs.YtbnkggbpocaaiaaGreatDoor.er e) (hokH : ∀ (b : Nat) cs, H[b]? = some (some cs) → okL H.length V.length cs) (hH : H'.take H.length = H) (hV : V'.take V.length = V) :
    Fin H.length V.length (Nm src x H V) (.tup [ci 0, ci 0, c]) H' V' := by
  subst hx hc
  exact Fin.pure ⟨rfl, rfl, rfl⟩ hH hV (.refl _) (by simp -implicitDefEqProofs [go_sem]) hokH
end
theorem tmod128 (b : UInt8) : ((b.toNat : Int)).tmod 128 = ((b.toNat % 128 : Nat) : Int) := by
  rw [Int.tmod_eq_emod_of_nonneg (by omega)]; omega
theorem byte_wrap (b : UInt8) : IntKind.i64.wrap (b.toNat : Int) = (b.toNat : Int) := wrap_nat (by have := b.toNat_lt; omega)
theorem refNumber_cc (H : Hp) (V : List Nat) (tk : Tk) (src : List UInt8) : CC Tryz.prog 191 [.sl tk 1 (bs src)] H V (Nm src (number src) H V) := by
  refine CC.of_swp Tryz.func191 rfl (by kernel_rfl) (by rw [Tryz.ntmps191]; exact len_le _ _ rfl) fun hok hokH => ?_
  clear hok
  refine SWp.seq (Wp.s ?_)
  simp -implicitDefEqProofs [go_sem, args0]
  refine SWp.seq (Wp.s ?_)
  simp -implicitDefEqProofs [go_sem]
  refine SWp.join (α := Unit) (fun _ => ([], H, V)) (fun _ => number src = .error 3) ?_ ?_
  · refine SWp.seq (Wp.s ?_)
    simp -implicitDefEqProofs [go_sem]
    refine SWp.block ?_
    refine SWp.loop (α := Nat × Nat × Nat) (fun x => ([(0, .sl tk 1 (bs src)), (5, ci x.1), (6, ci x.2.2), (7, ci x.2.1)], H, V)) (fun x => x.2.1 ≤ 8 ∧ x.2.2 = 128 ^ x.2.1 ∧ x.1 < 128 ^ x.2.1 ∧ numG (8 - x.2.1) x.2.1 x.1 (src.drop x.2.1) = number src) (fun x => 8 - x.2.1) (0, 0, 1) ⟨by decide, rfl, by simp, rfl⟩ (Sh.forget (by simp -implicitDefEqProofs [go_sem]) rfl rfl) ?_
    rintro ⟨n, i, w⟩ ⟨hi, hw, hn, h⟩
    dsimp only at hi hw hn h ⊢
    by_cases h8 : i < 8
    · by_cases hs : i < src.length
      · rw [show 8 - i = (7 - i) + 1 by omega, List.drop_eq_getElem_cons hs, numG] at h
        have hpl := part_lt h8 (show src[i].toNat % 128 < 128 by omega)
        have h2 : 128 ^ i ≤ 128 ^ 7 := Nat.pow_le_pow_right (by omega) (by omega)
        have h3 : (128 : Nat) ^ 7 = 562949953421312 := by decide
        have hlt : n + src[i].toNat % 128 * 128 ^ i < 128 ^ (i + 1) := by
          have h1 : src[i].toNat % 128 * 128 ^ i ≤ 127 * 128 ^ i := Nat.mul_le_mul_right _ (by omega)
          rw [Nat.pow_succ]; omega
        have e1 : ((src[i].toNat % 128 : Nat) : Int) * ((w : Nat) : Int) = ((src[i].toNat % 128 * 128 ^ i : Nat) : Int) := by rw [hw]; simp
        have e2 : (n : Int) + ((src[i].toNat % 128 * 128 ^ i : Nat) : Int) = ((n + src[i].toNat % 128 * 128 ^ i : Nat) : Int) := by omega
        have e3 : (w : Int) * 128 = ((w * 128 : Nat) : Int) := by omega
        have hw8 : w * 128 = 128 ^ (i + 1) := by rw [hw, Nat.pow_succ]
        have hmod : src[i].toNat < 128 → src[i].toNat % 128 = src[i].toNat := fun h => Nat.mod_eq_of_lt h
        obtain ⟨B, hB⟩ : ∃ B, src[i].toNat % 128 = B := ⟨_, rfl⟩
        obtain ⟨P, hP⟩ : ∃ P, B * 128 ^ i = P := ⟨_, rfl⟩
        obtain ⟨N, hN⟩ : ∃ N, n + P = N := ⟨_, rfl⟩
        obtain ⟨w', hw'⟩ : ∃ w', w * 128 = w' := ⟨_, rfl⟩
        have hNb : N ≤ 72057594037927936 + 562949953421312 := by rw [← hN, ← hP, ← hB]; omega
        have hwb : w' < 9223372036854775808 := by
          have : w ≤ 562949953421312 := by rw [hw, ← h3]; exact h2
          omega
        rw [hB, hP] at e1 e2
        rw [hN] at e2
        rw [hw'] at e3
        have f1 : ((src[i].toNat : Int)).tmod 128 = (B : Int) := by rw [tmod128, hB]
        have f2 : IntKind.i64.wrap (P : Int) = (P : Int) := wrap_nat (by rw [← hP, ← hB]; omega)
        have f3 : IntKind.i64.wrap (N : Int) = (N : Int) := wrap_nat (by omega)
        have f4 : IntKind.i64.wrap (w' : Int) = (w' : Int) := wrap_nat hwb
        refine Wp.s ?_
        by_cases hb : src[i].toNat < 128
        · rw [if_pos hb] at h
          have hBb : src[i].toNat * 128 ^ i = P := by rw [← hP, ← hB, hmod hb]
          rw [hBb, hN] at h
          by_cases hz : (src[i].toNat = 0 ∧ 0 < i) ∨ 9007199254740991 < N
          · rw [if_pos hz] at h
            simp -implicitDefEqProofs [go_sem, byte_wrap, f1, e1, f2, e2, f3, e3, f4, hs, show (i : Int) < 8 by omega, show (src[i].toNat : Int) < 128 by omega, show ¬ src.length ≤ i by omega]
            exact ⟨fun h1 => ⟨fun h2 => ⟨fun _ => Fin.nmErr h.symm rfl hokH (by simp) (by simp), fun h4 => absurd hz (by omega)⟩, fun _ => Fin.nmErr h.symm rfl hokH (by simp) (by simp)⟩, fun h1 => ⟨fun _ => Fin.nmErr h.symm rfl hokH (by simp) (by simp), fun h4 => absurd hz (by omega)⟩⟩
          · rw [if_neg hz] at h
            simp -implicitDefEqProofs [go_sem, byte_wrap, f1, e1, f2, e2, f3, e3, f4, hs, show (i : Int) < 8 by omega, show (src[i].toNat : Int) < 128 by omega, show ¬ src.length ≤ i by omega]
            exact ⟨fun h1 => ⟨fun h2 => ⟨fun h4 => absurd (.inr (by omega)) hz, fun _ => Fin.nmOk (k := i + 1) h.symm rfl (by rw [wrap_succ (by omega)]) rfl (by omega) rfl hokH (by simp) (by simp)⟩, fun h2 => absurd (.inl ⟨h1, by omega⟩) hz⟩, fun h1 => ⟨fun h4 => absurd (.inr (by omega)) hz, fun _ => Fin.nmOk (k := i + 1) h.symm rfl (by rw [wrap_succ (by omega)]) rfl (by omega) rfl hokH (by simp) (by simp)⟩⟩
        · rw [if_neg hb] at h
          simp -implicitDefEqProofs [go_sem, byte_wrap, f1, e1, f2, e2, f3, e3, f4, hs, show (i : Int) < 8 by omega, show ¬ (src[i].toNat : Int) < 128 by omega, show ¬ src.length ≤ i by omega]
          refine ⟨N, i + 1, w', ⟨by omega, by rw [← hw', hw8], by rw [← hN, ← hP, ← hB]; exact hlt, ?_⟩, by omega, Sh.forget (by simp -implicitDefEqProofs [go_sem, wrap_succ (show i ≤ 1000000000 by omega)]) rfl rfl⟩
          rw [hB, hP, hN] at h
          rw [show 8 - (i + 1) = 7 - i by omega]; exact h
      · rw [show 8 - i = (7 - i) + 1 by omega, List.drop_eq_nil_of_le (by omega), numG] at h
        refine Wp.s ?_
        simp -implicitDefEqProofs [go_sem, show (i : Int) < 8 by omega, show src.length ≤ i by omega]
        exact Fin.nmErr h.symm rfl hokH (by simp) (by simp)
    · rw [show 8 - i = 0 by omega, numG] at h
      refine Wp.s ?_
      simp -implicitDefEqProofs [go_sem, show ¬ ((i : Int) < 8) by omega]
      exact ⟨h.symm, Sh.forget (by simp -implicitDefEqProofs [go_sem]) rfl rfl⟩
  · rintro _ he
    refine Wp.s ?_
    simp -implicitDefEqProofs [go_sem]
    exact Fin.nmErr he rfl hokH (by simp) (by simp)
theorem rest_cc (H : Hp) (V : List Nat) (tk : Tk) (src : List UInt8) (k : Nat) (hk : k ≤ src.length) (hl : src.length ≤ 1000000000) : CC Tryz.prog 192 [.sl tk 1 (bs src), ci k] H V (Fr 1 (bs (src.drop k)) H V) := by
  refine CC.of_swp Tryz.func192 rfl (by kernel_rfl) (by rw [Tryz.ntmps192]; exact len_le _ _ rfl) fun hok hokH => Wp.s ?_
  simp -implicitDefEqProofs [go_sem, args0]
  refine ⟨by omega, by omega, ?_⟩
  exact Fin.fresh rfl (okBs _ _ _) hokH (by simp)
theorem refInt_cc (H : Hp) (V : List Nat) (tk : Tk) (src : List UInt8) (hl : src.length ≤ 1000000000) : CC Tryz.prog 157 [.sl tk 1 (bs src)] H V (Pu (rdv (fun n : Nat => ci n) (ci 0) (number src)) H V) := by
  refine CC.of_swp Tryz.func157 rfl (by kernel_rfl) (by rw [Tryz.ntmps157]; exact len_le _ _ rfl) fun hok hokH => Wp.s ?_
  simp -implicitDefEqProofs [go_sem, args0]
  refine CC.mono (refNumber_cc _ _ _ _) ?_
  intro r H' V' h
  unfold Nm at h
  rcases hn : number src with e | ⟨n, s⟩ <;> rw [hn] at h
  · have he := ne0_number _ _ hn
    obtain ⟨rfl, rfl, rfl⟩ := h
    simp -implicitDefEqProofs [go_sem, he]
    exact Fin.pu (.refl _) (by simp -implicitDefEqProofs [go_sem, rdv]) hokH (by simp) (by simp)
  · obtain ⟨⟨k, rfl, hk, rfl⟩, rfl, rfl⟩ := h
    simp -implicitDefEqProofs [go_sem]
    refine CC.mono (rest_cc _ _ _ _ _ hk hl) ?_
    rintro _ _ _ ⟨v', rfl, rfl, rfl⟩
    simp -implicitDefEqProofs [go_sem]
    exact Fin.pu (.tup (.cons (.refl _) (.cons (.sh ..) (.cons (.refl _) .nil)))) (by simp -implicitDefEqProofs [go_sem, rdv]) hokH (by simp) (by simp)
theorem refLength_cc (H : Hp) (V : List Nat) (tk : Tk) (src : List UInt8) (hl : src.length ≤ 1000000000) : CC Tryz.prog 156 [.sl tk 1 (bs src)] H V (Pu (rdv (fun n : Nat => ci n) (ci 0) (lengthP src)) H V) := by
  refine CC.of_swp Tryz.func156 rfl (by kernel_rfl) (by rw [Tryz.ntmps156]; exact len_le _ _ rfl) fun hok hokH => Wp.s ?_
  simp -implicitDefEqProofs [go_sem, args0]
  refine CC.mono (refInt_cc _ _ _ _ hl) ?_
  rintro _ _ _ ⟨rfl, rfl, rfl⟩
  unfold lengthP
  rcases hn : number src with e | ⟨n, s⟩
  · have he := ne0_number _ _ hn
    simp -implicitDefEqProofs [go_sem, rdv, he]
    exact Fin.pu (.refl _) (by simp -implicitDefEqProofs [go_sem]) hokH (by simp) (by simp)
  · dsimp only
    by_cases h5 : 65536 < n
    · rw [if_pos h5]
      simp -implicitDefEqProofs [go_sem, rdv, show (65536 : Int) < n by omega]
      exact Fin.pu (.refl _) (by simp -implicitDefEqProofs [go_sem]) hokH (by simp) (by simp)
    · rw [if_neg h5]
      simp -implicitDefEqProofs [go_sem, rdv, show ¬ (65536 : Int) < n by omega]
      exact Fin.pu (.refl _) (by simp -implicitDefEqProofs [go_sem]) hokH (by simp) (by simp)
end Go.Proofs.YtbnkggbpocaaiaaGreatDoor
namespace Go.Proofs.YtbnkggbpocaaiaaGreatDoor
open Go.Proofs
def cell8 (b : UInt8) : CV := .v (.int .u8 (b.toNat : Int))
theorem take_tok (V : List Nat) (v w : Nat) : (V ++ [v, w]).take (V.length + 1) = V ++ [v] := by
  rw [List.take_append, List.take_of_length_le (by omega), show V.length + 1 - V.length = 1 by omega]; rfl
theorem fill_step {cs : List CV} {s : List UInt8} {j : Nat} (hj : j < s.length) (hc : j < cs.length) (ht : cs.take j = (s.take j).map cell8) : (cs.take j ++ cell8 s[j] :: cs.drop (j + 1)).take (j + 1) = (s.take (j + 1)).map cell8 := by
  have h : (cs.take j).length = j := by rw [List.length_take]; omega
  rw [List.take_append, List.take_of_length_le (by omega), h, show j + 1 - j = 1 by omega, List.take_succ_cons, List.take_zero, ht, List.take_succ_eq_append_getElem hj, List.map_append]; rfl
theorem refSectors_cc (H : Hp) (V : List Nat) (tk : Tk) (src : List UInt8) (hl : src.length ≤ 1000000000) : CC Tryz.prog 158 [.sl tk 1 (bs src)] H V (Pu (rdv (fun l : List Sec => .sl .sh 8 (l.map secC)) nilC (listP secP src)) H V) := by
  refine CC.of_swp Tryz.func158 rfl (by kernel_rfl) (by rw [Tryz.ntmps158]; exact len_le _ _ rfl) fun hok hokH => ?_
  clear hok
  refine SWp.seq (Wp.s ?_)
  simp -implicitDefEqProofs [go_sem, args0]
  refine SWp.seq (Wp.s ?_)
  simp -implicitDefEqProofs [go_sem]
  refine CC.mono (refLength_cc _ _ _ _ hl) ?_
  rintro _ _ _ ⟨rfl, rfl, rfl⟩
  rcases hn : lengthP src with e | ⟨n, s⟩
  · have he := ne0_length _ _ hn
    have hq : listP secP src = .error e := by unfold listP; rw [hn]
    rw [hq]
    simp -implicitDefEqProofs [go_sem, rdv]
    refine Wp.s ?_
    simp -implicitDefEqProofs [go_sem, he]
    exact Fin.pu (.refl _) (by simp -implicitDefEqProofs [go_sem]) hokH (by simp) (by simp)
  · have hn5 := length_le hn
    have hls := shr_length _ _ _ hn
    simp -implicitDefEqProofs [go_sem, rdv]
    refine SWp.seq (Wp.s ?_)
    simp -implicitDefEqProofs [go_sem]
    refine SWp.seq (Wp.s ?_)
    simp -implicitDefEqProofs [go_sem]
    refine SWp.join (α := Option Nat × List Sec × List UInt8) (fun x => ([(7, outC x.1 V.length 8 (x.2.1.map secC)), (0, .sl .sh 1 (bs x.2.2))], H, outV V x.1)) (fun x => (x.1 = none → x.2.1 = []) ∧ listP secP src = .ok (x.2.1, x.2.2)) ?_ ?_
    · refine SWp.seq (Wp.s ?_)
      simp -implicitDefEqProofs [go_sem]
      refine SWp.block ?_
      refine SWp.loop (α := Nat × Option Nat × List Sec × List UInt8) (fun x => ([(0, .sl .sh 1 (bs x.2.2.2)), (5, ci n), (8, ci x.1), (7, outC x.2.1 V.length 8 (x.2.2.1.map secC))], H, outV V x.2.1))
        (fun x => x.1 ≤ n ∧ x.2.2.1.length = x.1 ∧ (x.2.1 = none → x.2.2.1 = []) ∧ listP secP src = ahead x.2.2.1 (repP secP (n - x.1) x.2.2.2) ∧ x.2.2.2.length ≤ 1000000000) (fun x => n - x.1) (0, none, [], s) ⟨Nat.zero_le _, rfl, fun _ => rfl, by unfold listP; rw [hn]; exact (ahead_nil _).symm, by dsimp only; omega⟩
        (Sh.forget (by simp -implicitDefEqProofs [go_sem]) rfl rfl) ?_
      rintro ⟨i, o, xs, s⟩ ⟨hi, hx, ho, hL, hsl⟩
      dsimp only at hi hx ho hL hsl ⊢
      refine SWp.seq (Wp.s ?_)
      simp -implicitDefEqProofs [go_sem]
      refine And.symm ⟨?_, fun h => ?_⟩
      · intro h
        exact ⟨o, xs, s, ⟨ho, by rw [hL, show n - i = 0 by omega, repP]; simp [ahead]⟩, Sh.forget (by simp -implicitDefEqProofs [go_sem]) rfl rfl⟩
      have hnn : n - i = n - (i + 1) + 1 := by omega
      refine SWp.seq (SWp.block ?_)
      refine SWp.seq (Wp.s ?_)
      by_cases h8 : s.length < 8
      · have hq : secP s = .error 10 := by unfold secP; rw [dif_pos h8]
        have hL' := hL
        rw [hnn, rep_err hq] at hL'
        simp -implicitDefEqProofs [go_sem, show (s.length : Int) < 8 by omega]
        rw [hL']
        exact Fin.pu (.refl _) (by simp -implicitDefEqProofs [go_sem, rdv]) hokH (by simp) (outV_take _ _)
      · obtain ⟨s0, e0, hq⟩ : ∃ s0 : Sec, s0.val = s.take 8 ∧ secP s = .ok (s0, s.drop 8) := ⟨⟨s.take 8, by rw [List.length_take]; omega⟩, rfl, by unfold secP; rw [dif_neg h8]⟩
        simp -implicitDefEqProofs [go_sem, show ¬ (s.length : Int) < 8 by omega]
        refine SWp.seq (Wp.s ?_)
        simp -implicitDefEqProofs [go_sem]
        refine SWp.join (α := Unit) (fun _ => ([(9, .ptr H.length 0), (0, .sl .sh 1 (bs s)), (5, ci n), (8, ci i), (7, outC o V.length 8 (xs.map secC))], H ++ [some (secC s0)], outV V o)) (fun _ => True) ?_ ?_
        · refine SWp.seq (Wp.s ?_)
          simp -implicitDefEqProofs [go_sem]
          refine SWp.block ?_
          refine SWp.loop (α := Nat × List CV) (fun x => ([(10, ci x.1), (9, .ptr H.length 0), (0, .sl .sh 1 (bs s)), (5, ci n), (8, ci i), (7, outC o V.length 8 (xs.map secC))], H ++ [some x.2], outV V o))
            (fun x => x.1 ≤ 8 ∧ x.2.length = 8 ∧ x.2.take x.1 = (s.take x.1).map cell8) (fun x => 8 - x.1) (0, List.replicate 8 (cell8 0)) ⟨by decide, rfl, rfl⟩ (Sh.forget (by simp -implicitDefEqProofs [go_sem]) rfl rfl) ?_
          rintro ⟨j, cs⟩ ⟨hj, hc, ht⟩
          dsimp only at hj hc ht ⊢
          refine Wp.s ?_
          simp -implicitDefEqProofs [go_sem]
          refine ⟨fun h1 => ?_, fun h2 => ?_⟩
          · have hjs : j < s.length := by omega
            exact ⟨h1, by omega, hjs, j + 1, cs.take j ++ cell8 s[j] :: cs.drop (j + 1), ⟨by omega, by rw [List.length_append, List.length_cons, List.length_take, List.length_drop]; omega, (fill_step hjs (by omega) ht).trans List.map_take⟩, by omega, Sh.forget (by simp -implicitDefEqProofs [go_sem, wrap_succ (show j ≤ 1000000000 by omega)]) rfl rfl⟩
          · have e1 : cs = secC s0 := by
              have e2 : j = 8 := by omega
              rw [e2, List.take_of_length_le (by omega), ← e0] at ht
              rw [ht]; rfl
            rw [e1]
            exact Sh.forget (by simp -implicitDefEqProofs [go_sem]) rfl rfl
        · rintro _ -
          dsimp only
          refine Wp.s ?_
          have hs' := shr_sec _ _ _ hq
          have hL' := hL
          rw [hnn, rep_ok hq] at hL'
          have hw := wrap_succ (show i ≤ 1000000000 by omega)
          cases o with
          | none =>
            obtain rfl := ho rfl
            simp -implicitDefEqProofs [go_sem]
            refine CC.mono (rest_cc _ _ _ s 8 (by omega) hsl) ?_
            rintro _ _ _ ⟨v', rfl, rfl, rfl⟩
            simp -implicitDefEqProofs [go_sem]
            refine Wp.s ?_
            simp -implicitDefEqProofs [go_sem]
            exact ⟨i + 1, some 0, [] ++ [s0], s.drop 8, ⟨by omega, by rw [List.length_append, hx]; rfl, by simp, hL', by omega⟩, by omega, Sh.cut H.length (V.length + 1) (by simp -implicitDefEqProofs [go_sem, hw]) (Nat.le_refl _) (Nat.le_succ _) (by simp -implicitDefEqProofs [go_sem]) (fun b cs h => okL_mono (Nat.le_refl _) (Nat.le_succ _) (hokH b cs h)) (by simp) (take_tok ..)⟩
          | some v =>
            simp -implicitDefEqProofs [go_sem]
            refine ⟨by omega, ?_⟩
            refine CC.mono (rest_cc _ _ _ s 8 (by omega) hsl) ?_
            rintro _ _ _ ⟨v', rfl, rfl, rfl⟩
            simp -implicitDefEqProofs [go_sem]
            refine Wp.s ?_
            simp -implicitDefEqProofs [go_sem]
            exact ⟨i + 1, some (v + 1), xs ++ [s0], s.drop 8, ⟨by omega, by rw [List.length_append, hx]; rfl, by simp, hL', by omega⟩, by omega, Sh.cut H.length (V.length + 1) (by simp -implicitDefEqProofs [go_sem, hw]) (Nat.le_refl _) (Nat.le_succ _) (by simp -implicitDefEqProofs [go_sem, okE_app]) (fun b cs h => okL_mono (Nat.le_refl _) (Nat.le_succ _) (hokH b cs h)) (by simp) (take_tok ..)⟩
    · rintro ⟨o, xs, s⟩ ⟨ho, hL⟩
      dsimp only at ho hL ⊢
      refine Wp.s ?_
      simp -implicitDefEqProofs [go_sem]
      rw [hL]
      exact Fin.pu (.tup (.cons (outC_le _ _ _ _ (by decide) ho) (.cons (.refl _) (.cons (.refl _) .nil)))) (by simp -implicitDefEqProofs [go_sem, rdv]) hokH (by simp) (outV_take _ _)
theorem refWrites_cc (H : Hp) (V : List Nat) (tk : Tk) (src : List UInt8) (hl : src.length ≤ 1000000000) : CC Tryz.prog 100 [.sl tk 1 (bs src)] H V (Pu (rdv (fun l : List Wr => .sl .sh 3 (l.map wrC)) nilC (listP wrP src)) H V) := by
  refine CC.of_swp Tryz.func100 rfl (by kernel_rfl) (by rw [Tryz.ntmps100]; exact len_le _ _ rfl) fun hok hokH => ?_
  clear hok
  refine SWp.seq (Wp.s ?_)
  simp -implicitDefEqProofs [go_sem, args0]
  refine SWp.seq (Wp.s ?_)
  simp -implicitDefEqProofs [go_sem]
  refine CC.mono (refLength_cc _ _ _ _ hl) ?_
  rintro _ _ _ ⟨rfl, rfl, rfl⟩
  rcases hn : lengthP src with e | ⟨n, s⟩
  · have he := ne0_length _ _ hn
    have hq : listP wrP src = .error e := by unfold listP; rw [hn]
    rw [hq]
    simp -implicitDefEqProofs [go_sem, rdv]
    refine Wp.s ?_
    simp -implicitDefEqProofs [go_sem, he]
    exact Fin.pu (.refl _) (by simp -implicitDefEqProofs [go_sem]) hokH (by simp) (by simp)
  · have hn5 := length_le hn
    have hls := shr_length _ _ _ hn
    simp -implicitDefEqProofs [go_sem, rdv]
    refine SWp.seq (Wp.s ?_)
    simp -implicitDefEqProofs [go_sem]
    refine SWp.seq (Wp.s ?_)
    simp -implicitDefEqProofs [go_sem]
    refine SWp.join (α := Option Nat × List Wr × List UInt8) (fun x => ([(7, outC x.1 V.length 3 (x.2.1.map wrC)), (0, .sl .sh 1 (bs x.2.2))], H, outV V x.1)) (fun x => (x.1 = none → x.2.1 = []) ∧ listP wrP src = .ok (x.2.1, x.2.2)) ?_ ?_
    · refine SWp.seq (Wp.s ?_)
      simp -implicitDefEqProofs [go_sem]
      refine SWp.block ?_
      refine SWp.loop (α := Nat × Option Nat × List Wr × List UInt8) (fun x => ([(0, .sl .sh 1 (bs x.2.2.2)), (5, ci n), (8, ci x.1), (7, outC x.2.1 V.length 3 (x.2.2.1.map wrC))], H, outV V x.2.1))
        (fun x => x.1 ≤ n ∧ x.2.2.1.length = x.1 ∧ (x.2.1 = none → x.2.2.1 = []) ∧ listP wrP src = ahead x.2.2.1 (repP wrP (n - x.1) x.2.2.2) ∧ x.2.2.2.length ≤ 1000000000) (fun x => n - x.1) (0, none, [], s) ⟨Nat.zero_le _, rfl, fun _ => rfl, by unfold listP; rw [hn]; exact (ahead_nil _).symm, by dsimp only; omega⟩
        (Sh.forget (by simp -implicitDefEqProofs [go_sem]) rfl rfl) ?_
      rintro ⟨i, o, xs, s⟩ ⟨hi, hx, ho, hL, hsl⟩
      dsimp only at hi hx ho hL hsl ⊢
      refine Wp.s ?_
      simp -implicitDefEqProofs [go_sem]
      refine ⟨fun h => ?_, fun h => ?_⟩
      · refine CC.mono (refInt_cc _ _ _ s hsl) ?_
        rintro _ _ _ ⟨rfl, rfl, rfl⟩
        have hnn : n - i = n - (i + 1) + 1 := by omega
        rcases hm : number s with e | ⟨a, s1⟩
        · have he := ne0_number _ _ hm
          have hL' := hL
          rw [hnn, rep_err (show wrP s = .error e by unfold wrP pairP; rw [hm])] at hL'
          simp -implicitDefEqProofs [go_sem, rdv, he]
          rw [hL']
          exact Fin.pu (.refl _) (by simp -implicitDefEqProofs [go_sem, rdv]) hokH (by simp) (outV_take _ _)
        · have hs1 := shr_number _ _ _ hm
          simp -implicitDefEqProofs [go_sem, rdv]
          refine CC.mono (refInt_cc _ _ _ s1 (by omega)) ?_
          rintro _ _ _ ⟨rfl, rfl, rfl⟩
          rcases hm2 : number s1 with e | ⟨b, s2⟩
          · have he := ne0_number _ _ hm2
            have hL' := hL
            rw [hnn, rep_err (show wrP s = .error e by unfold wrP pairP; rw [hm]; dsimp only; rw [hm2])] at hL'
            simp -implicitDefEqProofs [go_sem, rdv, he]
            rw [hL']
            exact Fin.pu (.refl _) (by simp -implicitDefEqProofs [go_sem, rdv]) hokH (by simp) (outV_take _ _)
          · have hs2 := shr_number _ _ _ hm2
            simp -implicitDefEqProofs [go_sem, rdv]
            refine CC.mono (refSectors_cc _ _ _ s2 (by omega)) ?_
            rintro _ _ _ ⟨rfl, rfl, rfl⟩
            rcases hm3 : listP secP s2 with e | ⟨l, s3⟩
            · have he := ne0_list ne0_sec _ _ hm3
              have hL' := hL
              rw [hnn, rep_err (show wrP s = .error e by unfold wrP pairP; rw [hm]; dsimp only; rw [hm2]; dsimp only; rw [hm3])] at hL'
              simp -implicitDefEqProofs [go_sem, rdv, he]
              rw [hL']
              exact Fin.pu (.refl _) (by simp -implicitDefEqProofs [go_sem, rdv]) hokH (by simp) (outV_take _ _)
            · have hs3 := shr_list shr_sec _ _ _ hm3
              simp -implicitDefEqProofs [go_sem, rdv]
              have hq : wrP s = .ok (⟨a, b, l⟩, s3) := by unfold wrP pairP; rw [hm]; dsimp only; rw [hm2]; dsimp only; rw [hm3]
              have hs' := shr_wr _ _ _ hq
              have hL' := hL
              rw [hnn, rep_ok hq] at hL'
              have hw := wrap_succ (show i ≤ 1000000000 by omega)
              cases o with
              | none =>
                obtain rfl := ho rfl
                simp -implicitDefEqProofs [go_sem]
                exact ⟨i + 1, some 0, [] ++ [⟨a, b, l⟩], s3, ⟨by omega, by rw [List.length_append, hx]; rfl, by simp, hL', by omega⟩, by omega, Sh.forget (by simp -implicitDefEqProofs [go_sem, hw]; exact .refl _) rfl rfl⟩
              | some v =>
                simp -implicitDefEqProofs [go_sem]
                exact ⟨by omega, i + 1, some (v + 1), xs ++ [⟨a, b, l⟩], s3, ⟨by omega, by rw [List.length_append, hx]; rfl, by simp, hL', by omega⟩, by omega, Sh.forget (by simp -implicitDefEqProofs [go_sem, hw]; exact .refl _) rfl rfl⟩
      · exact ⟨o, xs, s, ⟨ho, by rw [hL, show n - i = 0 by omega, repP]; simp [ahead]⟩, Sh.forget (by simp -implicitDefEqProofs [go_sem]) rfl rfl⟩
    · rintro ⟨o, xs, s⟩ ⟨ho, hL⟩
      dsimp only at ho hL ⊢
      refine Wp.s ?_
      simp -implicitDefEqProofs [go_sem]
      rw [hL]
      exact Fin.pu (.tup (.cons (outC_le _ _ _ _ (by decide) ho) (.cons (.refl _) (.cons (.refl _) .nil)))) (by simp -implicitDefEqProofs [go_sem, rdv]) hokH (by simp) (outV_take _ _)
end Go.Proofs.YtbnkggbpocaaiaaGreatDoor
namespace Go.Proofs.YtbnkggbpocaaiaaGreatDoor
open Go.Proofs
@[go_sem] theorem hbx_at1 (H : Hp) (a : Option (List CV)) (cs : List CV) (L : Hp) (K : List CV → Prop) : hbx (H ++ a :: some cs :: L) (H.length + 1) K = K cs := by
  rw [show H ++ a :: some cs :: L = (H ++ [a]) ++ some cs :: L by simp]; exact hbx_at (by simp)
@[go_sem] theorem set_at1 (H : Hp) (a c d : Option (List CV)) (L : Hp) : (H ++ a :: c :: L).set (H.length + 1) d = H ++ a :: d :: L := by
  rw [show H ++ a :: c :: L = (H ++ [a]) ++ c :: L by simp, set_at (by simp)]; simp
def tabC : List CV := (List.range 256).map fun j => c32 (tabE j)
theorem tabC_len : tabC.length = 256 := by rw [tabC, List.length_map, List.length_range]
theorem tabC_get (i : Nat) (h : i < tabC.length) : tabC[i] = c32 (tabE i) := by
  simp only [tabC, List.getElem_map, List.getElem_range]
theorem tabC_all : allOne tabC = true := by
  simp only [allOne, tabC, List.all_map, List.all_eq_true]; intros; rfl
theorem okL_tabC (i j : Nat) : okL i j tabC = True := eq_true (by
  rw [okL_iff]; intro c hc
  simp only [tabC, List.mem_map] at hc
  obtain ⟨b, _, rfl⟩ := hc
  trivial)
theorem tabC_take : tabC.take 256 = tabC := List.take_of_length_le (by rw [tabC_len]; exact Nat.le_refl _)
theorem fill_tab {α : Type} {cs : List α} {f : Nat → α} {i : Nat} (hc : i < cs.length) (ht : cs.take i = (List.range i).map f) : (cs.take i ++ f i :: cs.drop (i + 1)).take (i + 1) = (List.range (i + 1)).map f := by
  have h : (cs.take i).length = i := by rw [List.length_take]; omega
  rw [List.take_append, List.take_of_length_le (by omega), h, show i + 1 - i = 1 by omega, List.take_succ_cons, List.take_zero, ht, List.range_succ, List.map_append]; rfl
set_option maxRecDepth 20000 in
theorem registers_cc (H : Hp) (V : List Nat) : CC Tryz.prog 218 [] H V (Pu (.agg tabC) H V) := by
  refine CC.of_swp Tryz.func218 rfl (by kernel_rfl) (by rw [Tryz.ntmps218]; exact len_le _ _ rfl) fun hok hokH => ?_
  refine SWp.seq (Wp.s ?_)
  simp -implicitDefEqProofs [go_sem, args0]
  refine SWp.seq (Wp.s ?_)
  simp -implicitDefEqProofs [go_sem]
  obtain ⟨zs, hzs⟩ : ∃ zs, z256.map CV.v = zs := ⟨_, rfl⟩
  have hzl : zs.length = 256 := by rw [← hzs, List.length_map, z256, List.length_replicate]
  rw [hzs]
  refine SWp.join (α := Unit) (fun _ => ([(1, .ptr (H.length + 1) 0), (0, .ptr H.length 0)], H ++ [some zs, some tabC], V)) (fun _ => True) ?_ ?_
  · refine SWp.seq (Wp.s ?_)
    simp -implicitDefEqProofs [go_sem]
    refine SWp.block ?_
    refine SWp.loop (α := Nat × List CV) (fun x => ([(5, ci x.1), (1, .ptr (H.length + 1) 0), (0, .ptr H.length 0)], H ++ [some zs, some x.2], V)) (fun x => x.1 ≤ 256 ∧ x.2.length = 256 ∧ x.2.take x.1 = (List.range x.1).map fun j => c32 (tabE j)) (fun x => 256 - x.1) (0, zs) ⟨Nat.zero_le _, hzl, rfl⟩ (Sh.forget (by simp -implicitDefEqProofs [go_sem]) rfl rfl) ?_
    rintro ⟨i, cs⟩ ⟨hi, hc, ht⟩
    dsimp only at hi hc ht ⊢
    refine SWp.seq (Wp.s ?_)
    simp -implicitDefEqProofs [go_sem]
    refine SWp.seq (Wp.s ?_)
    by_cases h : i < 256
    · simp -implicitDefEqProofs [go_sem, show (i : Int) < 256 by omega]
      refine SWp.seq (SWp.block ?_)
      refine SWp.seq (Wp.s ?_)
      simp -implicitDefEqProofs [go_sem]
      refine SWp.seq (Wp.s ?_)
      have hwi := ofNatR (show i < 4294967296 by omega)
      simp -implicitDefEqProofs [go_sem, hwi]
      refine SWp.join (α := Unit) (fun _ => ([(3, c32 (tabE i)), (2, ci i), (5, ci i), (1, .ptr (H.length + 1) 0), (0, .ptr H.length 0)], H ++ [some zs, some cs], V)) (fun _ => True) ?_ ?_
      · refine SWp.seq (Wp.s ?_)
        simp -implicitDefEqProofs [go_sem]
        refine SWp.block ?_
        refine SWp.loop (α := Nat × Reg) (fun x => ([(10, ci x.1), (3, c32 x.2), (2, ci i), (5, ci i), (1, .ptr (H.length + 1) 0), (0, .ptr H.length 0)], H ++ [some zs, some cs], V)) (fun x => x.1 ≤ 8 ∧ bits (8 - x.1) x.2 = tabE i) (fun x => 8 - x.1) (0, BitVec.ofNat 32 i) ⟨Nat.zero_le _, rfl⟩ (Sh.forget (by simp -implicitDefEqProofs [go_sem]) rfl rfl) ?_
        rintro ⟨q, r⟩ ⟨hq, hr⟩
        dsimp only at hq hr ⊢
        refine Wp.s ?_
        by_cases hq8 : q < 8
        · simp -implicitDefEqProofs [go_sem, show (q : Int) < 8 by omega, and1R, shr1R, stepR]
          refine ⟨q + 1, bit1 r, ⟨by omega, ?_⟩, by omega, Sh.forget (by simp -implicitDefEqProofs [go_sem, wrap_succ (show q ≤ 1000000000 by omega)]) rfl rfl⟩
          rw [show 8 - q = (8 - (q + 1)) + 1 by omega, bits] at hr
          exact hr
        · simp -implicitDefEqProofs [go_sem, show ¬ (q : Int) < 8 by omega]
          rw [show 8 - q = 0 by omega, bits] at hr
          subst hr
          exact Sh.forget (by simp -implicitDefEqProofs [go_sem]) rfl rfl
      · rintro _ -
        dsimp only
        refine Wp.s ?_
        simp -implicitDefEqProofs [go_sem, h]
        refine ⟨by omega, by omega, ?_⟩
        refine Wp.s ?_
        simp -implicitDefEqProofs [go_sem]
        exact ⟨i + 1, cs.take i ++ c32 (tabE i) :: cs.drop (i + 1), ⟨by omega, by rw [List.length_append, List.length_cons, List.length_take, List.length_drop]; omega, fill_tab (f := fun j => c32 (tabE j)) (by omega) ht⟩, by omega, Sh.forget (by simp -implicitDefEqProofs [go_sem, wrap_succ (show i ≤ 1000000000 by omega)]) rfl rfl⟩
    · simp -implicitDefEqProofs [go_sem, show ¬ (i : Int) < 256 by omega]
      have e : cs = tabC := by
        have e2 : i = 256 := by omega
        rw [e2, List.take_of_length_le (by omega)] at ht
        exact ht
      rw [e]
      exact Sh.forget (by simp -implicitDefEqProofs [go_sem]) rfl rfl
  · rintro _ -
    dsimp only
    refine Wp.s ?_
    simp -implicitDefEqProofs [go_sem, tabC_len, tabC_take, tabC_all, hzl]
    exact Fin.pu (.refl _) (by simp -implicitDefEqProofs [go_sem, okL_tabC]) hokH (by simp) (by simp)
end Go.Proofs.YtbnkggbpocaaiaaGreatDoor
namespace Go.Proofs.YtbnkggbpocaaiaaGreatDoor
open Go.Proofs
theorem Update_cc (H : Hp) (V : List Nat) (tk : Tk) (s : Reg) (l : List UInt8) (hl : l.length ≤ 900000000) : CC Tryz.prog 199 [c32 s, .sl tk 1 (bs l)] H V (Pu (c32 (~~~(crcR (~~~s) l))) H V) := by
  refine CC.of_swp Tryz.func199 rfl (by kernel_rfl) (by rw [Tryz.ntmps199]; exact len_le _ _ rfl) fun hok hokH => ?_
  clear hok
  refine SWp.seq (Wp.s ?_)
  simp -implicitDefEqProofs [go_sem, args0]
  refine SWp.seq (Wp.s ?_)
  simp -implicitDefEqProofs [go_sem]
  refine CC.mono (registers_cc _ _) ?_
  rintro _ _ _ ⟨rfl, rfl, rfl⟩
  have hzl : (z256.map CV.v).length = 256 := by rw [List.length_map, z256, List.length_replicate]
  have hzl' : z256.length = 256 := by rw [z256, List.length_replicate]
  simp -implicitDefEqProofs [go_sem, tabC_len, tabC_all, hzl', List.drop_eq_nil_of_le]
  refine SWp.seq (Wp.s ?_)
  simp -implicitDefEqProofs [go_sem, maxU32, notR]
  refine SWp.join (α := Unit) (fun _ => ([(6, c32 (crcR (~~~s) l))], H ++ [some tabC], V)) (fun _ => True) ?_ ?_
  · refine SWp.seq (Wp.s ?_)
    simp -implicitDefEqProofs [go_sem]
    refine SWp.block ?_
    refine SWp.loop (α := Nat × Reg) (fun x => ([(14, ci x.1), (6, c32 x.2), (5, .ptr H.length 0), (12, .sl tk 1 (bs l)), (13, ci l.length)], H ++ [some tabC], V)) (fun x => x.1 ≤ l.length ∧ crcR x.2 (l.drop x.1) = crcR (~~~s) l) (fun x => l.length - x.1) (0, ~~~s) ⟨Nat.zero_le _, rfl⟩ (Sh.forget (by simp -implicitDefEqProofs [go_sem]) rfl rfl) ?_
    rintro ⟨i, r⟩ ⟨hi, hr⟩
    dsimp only at hi hr ⊢
    refine Wp.s ?_
    by_cases h : i < l.length
    · rw [List.drop_eq_getElem_cons h] at hr
      have hr : crcR (regB r l[i]) (l.drop (i + 1)) = crcR (~~~s) l := hr
      rw [reg_table] at hr
      have hx : (r ^^^ BitVec.ofNat 32 l[i].toNat).toNat % 256 < 256 := Nat.mod_lt _ (by omega)
      have hx8 := xor8 r l[i]
      generalize (r ^^^ BitVec.ofNat 32 l[i].toNat).toNat % 256 = j at hr hx hx8
      simp -implicitDefEqProofs [go_sem, h, shr8R, hx8, hx, tabC_len, tabC_get, xorR]
      exact ⟨by omega, i + 1, r >>> 8 ^^^ tabE j, ⟨by omega, hr⟩, by omega, Sh.forget (by simp -implicitDefEqProofs [go_sem, wrap_succ (show i ≤ 1000000000 by omega)]) rfl rfl⟩
    · simp -implicitDefEqProofs [go_sem, h]
      rw [List.drop_eq_nil_of_le (by omega)] at hr
      have hr : r = crcR (~~~s) l := hr
      rw [← hr]
      exact Sh.forget (by simp -implicitDefEqProofs [go_sem]) rfl rfl
  · rintro _ -
    dsimp only
    refine Wp.s ?_
    simp -implicitDefEqProofs [go_sem, maxU32, notR]
    exact Fin.pu (.refl _) (by simp -implicitDefEqProofs [go_sem]) hokH (by simp) (by simp)
theorem Sum_cc (H : Hp) (V : List Nat) (tk : Tk) (l : List UInt8) (hl : l.length ≤ 900000000) : CC Tryz.prog 171 [.sl tk 1 (bs l)] H V (Pu (c32 (crc l)) H V) := by
  refine CC.of_swp Tryz.func171 rfl (by kernel_rfl) (by rw [Tryz.ntmps171]; exact len_le _ _ rfl) fun hok hokH => Wp.s ?_
  simp -implicitDefEqProofs [go_sem, args0]
  refine CC.mono (Update_cc H V tk 0#32 l hl) ?_
  rintro _ _ _ ⟨rfl, rfl, rfl⟩
  simp -implicitDefEqProofs [go_sem]
  exact Fin.pu (.refl _) (by simp -implicitDefEqProofs [go_sem]) hokH (by simp) (by simp)
theorem register_cc (H : Hp) (V : List Nat) (r : Reg) (b : UInt8) : CC Tryz.prog 219 [c32 r, .v (.int .u8 (b.toNat : Int))] H V (Pu (c32 (regB r b)) H V) := by
  refine CC.of_swp Tryz.func219 rfl (by kernel_rfl) (by rw [Tryz.ntmps219]; exact len_le _ _ rfl) fun hok hokH => ?_
  clear hok
  refine SWp.seq (Wp.s ?_)
  simp -implicitDefEqProofs [go_sem, args0]
  refine SWp.seq (Wp.s ?_)
  have hb := b.toNat_lt
  simp -implicitDefEqProofs [go_sem, ofNatR (show b.toNat < 4294967296 by omega), xorR]
  refine SWp.join (α := Unit) (fun _ => ([(0, c32 (regB r b))], H, V)) (fun _ => True) ?_ ?_
  · refine SWp.seq (Wp.s ?_)
    simp -implicitDefEqProofs [go_sem]
    refine SWp.block ?_
    refine SWp.loop (α := Nat × Reg) (fun x => ([(5, ci x.1), (0, c32 x.2)], H, V)) (fun x => x.1 ≤ 8 ∧ bits (8 - x.1) x.2 = regB r b) (fun x => 8 - x.1) (0, r ^^^ BitVec.ofNat 32 b.toNat) ⟨Nat.zero_le _, rfl⟩ (Sh.forget (by simp -implicitDefEqProofs [go_sem]) rfl rfl) ?_
    rintro ⟨q, x⟩ ⟨hq, hx⟩
    dsimp only at hq hx ⊢
    refine Wp.s ?_
    have hw := wrap_succ (show q ≤ 1000000000 by omega)
    by_cases h8 : q < 8
    · rw [show 8 - q = (8 - (q + 1)) + 1 by omega, bits] at hx
      by_cases hm : x.toNat % 2 = 1
      · rw [bit1_1 hm] at hx
        simp -implicitDefEqProofs [go_sem, show (q : Int) < 8 by omega, remR, hm, shr1R, xorP]
        exact ⟨q + 1, _, ⟨by omega, hx⟩, by omega, Sh.forget (by simp -implicitDefEqProofs [go_sem, hw]) rfl rfl⟩
      · rw [bit1_0 hm] at hx
        simp -implicitDefEqProofs [go_sem, show (q : Int) < 8 by omega, remR, show x.toNat % 2 = 0 by omega, shr1R]
        exact ⟨q + 1, _, ⟨by omega, hx⟩, by omega, Sh.forget (by simp -implicitDefEqProofs [go_sem, hw]) rfl rfl⟩
    · simp -implicitDefEqProofs [go_sem, show ¬ (q : Int) < 8 by omega]
      rw [show 8 - q = 0 by omega, bits] at hx
      rw [← hx]
      exact Sh.forget (by simp -implicitDefEqProofs [go_sem]) rfl rfl
  · rintro _ -
    dsimp only
    refine Wp.s ?_
    simp -implicitDefEqProofs [go_sem]
    exact Fin.pu (.refl _) (by simp -implicitDefEqProofs [go_sem]) hokH (by simp) (by simp)
theorem refUpdate_cc (H : Hp) (V : List Nat) (tk : Tk) (s : Reg) (l : List UInt8) (hl : l.length ≤ 900000000) : CC Tryz.prog 201 [c32 s, .sl tk 1 (bs l)] H V (Pu (c32 (~~~(crcR (~~~s) l))) H V) := by
  refine CC.of_swp Tryz.func201 rfl (by kernel_rfl) (by rw [Tryz.ntmps201]; exact len_le _ _ rfl) fun hok hokH => ?_
  clear hok
  refine SWp.seq (Wp.s ?_)
  simp -implicitDefEqProofs [go_sem, args0]
  refine SWp.seq (Wp.s ?_)
  simp -implicitDefEqProofs [go_sem, maxU32, notR]
  refine SWp.join (α := Unit) (fun _ => ([(5, c32 (crcR (~~~s) l))], H, V)) (fun _ => True) ?_ ?_
  · refine SWp.seq (Wp.s ?_)
    simp -implicitDefEqProofs [go_sem]
    refine SWp.block ?_
    refine SWp.loop (α := Nat × Reg) (fun x => ([(6, ci x.1), (5, c32 x.2), (1, .sl tk 1 (bs l))], H, V)) (fun x => x.1 ≤ l.length ∧ crcR x.2 (l.drop x.1) = crcR (~~~s) l) (fun x => l.length - x.1) (0, ~~~s) ⟨Nat.zero_le _, rfl⟩ (Sh.forget (by simp -implicitDefEqProofs [go_sem]) rfl rfl) ?_
    rintro ⟨i, r⟩ ⟨hi, hr⟩
    dsimp only at hi hr ⊢
    refine Wp.s ?_
    by_cases h : i < l.length
    · rw [List.drop_eq_getElem_cons h] at hr
      have hr : crcR (regB r l[i]) (l.drop (i + 1)) = crcR (~~~s) l := hr
      simp -implicitDefEqProofs [go_sem, h]
      refine CC.mono (register_cc _ _ _ _) ?_
      rintro _ _ _ ⟨rfl, rfl, rfl⟩
      simp -implicitDefEqProofs [go_sem]
      exact ⟨i + 1, _, ⟨by omega, hr⟩, by omega, Sh.forget (by simp -implicitDefEqProofs [go_sem, wrap_succ (show i ≤ 1000000000 by omega)]) rfl rfl⟩
    · simp -implicitDefEqProofs [go_sem, h]
      rw [List.drop_eq_nil_of_le (by omega)] at hr
      have hr : r = crcR (~~~s) l := hr
      rw [← hr]
      exact Sh.forget (by simp -implicitDefEqProofs [go_sem]) rfl rfl
  · rintro _ -
    dsimp only
    refine Wp.s ?_
    simp -implicitDefEqProofs [go_sem, maxU32, notR]
    exact Fin.pu (.refl _) (by simp -implicitDefEqProofs [go_sem]) hokH (by simp) (by simp)
theorem refSum_cc (H : Hp) (V : List Nat) (tk : Tk) (l : List UInt8) (hl : l.length ≤ 900000000) : CC Tryz.prog 177 [.sl tk 1 (bs l)] H V (Pu (c32 (crc l)) H V) := by
  refine CC.of_swp Tryz.func177 rfl (by kernel_rfl) (by rw [Tryz.ntmps177]; exact len_le _ _ rfl) fun hok hokH => Wp.s ?_
  simp -implicitDefEqProofs [go_sem, args0]
  refine CC.mono (refUpdate_cc H V tk 0#32 l hl) ?_
  rintro _ _ _ ⟨rfl, rfl, rfl⟩
  simp -implicitDefEqProofs [go_sem]
  exact Fin.pu (.refl _) (by simp -implicitDefEqProofs [go_sem]) hokH (by simp) (by simp)
end Go.Proofs.YtbnkggbpocaaiaaGreatDoor
namespace Go.Proofs.YtbnkggbpocaaiaaGreatDoor
open Go.Proofs
structure Rcd where
  kind : Int
  sq : Int
  pay : List UInt8
def rcC (r : Rcd) : List CV := [.v (.int .i64 r.kind), .v (.int .i64 r.sq), .sl .sh 1 (bs r.pay)]
@[go_sem, simp] theorem rcC_len (r : Rcd) : (rcC r).length = 3 := by rw [rcC]; rfl
@[go_sem, simp] theorem rcC_take (r : Rcd) : (rcC r).take 3 = rcC r := rfl
@[go_sem, simp] theorem rcC_drop (r : Rcd) : (rcC r).drop 3 = [] := rfl
@[go_sem, simp] theorem rcC_all (r : Rcd) : allOne (rcC r) = true := rfl
@[go_sem, simp] theorem rcC_0 (r : Rcd) (h : 0 < (rcC r).length) : (rcC r)[0] = CV.v (.int .i64 r.kind) := rfl
@[go_sem, simp] theorem rcC_1 (r : Rcd) (h : 1 < (rcC r).length) : (rcC r)[1] = CV.v (.int .i64 r.sq) := rfl
@[go_sem, simp] theorem rcC_2 (r : Rcd) (h : 2 < (rcC r).length) : (rcC r)[2] = .sl .sh 1 (bs r.pay) := rfl
@[go_sem] theorem okL_rcC (i j : Nat) (r : Rcd) : okL i j (rcC r) = True := by simp [rcC, go_sem, okL, okV]
@[go_sem] theorem okE_rcs (i j : Nat) (l : List Rcd) : okE i j (l.map rcC) = True := eq_true (okE_map rcC l fun e => by rw [okL_rcC]; trivial)
def zrc : Rcd := ⟨0, 0, []⟩
def bodyR (kind : Int) (p : List UInt8) : List UInt8 := byt kind :: UInt8.ofNat (p.length % 256) :: UInt8.ofNat (p.length / 256 % 256) :: p
def strmR (kind : Int) (p : List UInt8) : List UInt8 := bodyR kind p ++ le4 (crc (bodyR kind p)).toNat
def quadR (st : List UInt8) (i : Nat) : List UInt8 := let q := (st.drop (4 * i)).take 4; q ++ List.replicate (4 - q.length) 0
def secR (sq : Nat) (st : List UInt8) (i : Nat) : Sec := mkSec (le4 sq ++ quadR st i)
def secsR (sq : Nat) (st : List UInt8) : List Sec := (List.range ((st.length + 3) / 4)).map (secR sq st)
def szR (n : Int) : Int := if n < 0 ∨ 4096 < n then 0 else (n + 10) / 4
def encR (r : Rcd) : Except Nat (List Sec) :=
  if r.kind < 1 ∨ 255 < r.kind ∨ r.sq < 1 ∨ 4294967295 < r.sq then .error 2 else if 4096 < r.pay.length then .error 5 else .ok (secsR r.sq.toNat (strmR r.kind r.pay))
def lenR (s : Sec) : Nat := (s.val.getD 5 0).toNat + 256 * (s.val.getD 6 0).toNat
structure Jrn where
  start : Int
  count : Int
  head : Int
  tail : Int
  first : Int
  sizes : List Int
def jrC (j : Jrn) : List CV := [.v (.int .i64 j.start), .v (.int .i64 j.count), .v (.int .i64 j.head), .v (.int .i64 j.tail), .v (.int .i64 j.first), .sl .sh 1 (j.sizes.map ic)]
@[go_sem, simp] theorem jrC_len (r : Jrn) : (jrC r).length = 6 := by rw [jrC]; rfl
@[go_sem, simp] theorem jrC_take (r : Jrn) : (jrC r).take 6 = jrC r := rfl
@[go_sem, simp] theorem jrC_drop (r : Jrn) : (jrC r).drop 6 = [] := rfl
@[go_sem, simp] theorem jrC_take2 (r : Jrn) : (jrC r).take 2 = [.v (.int .i64 r.start), .v (.int .i64 r.count)] := rfl
@[go_sem, simp] theorem jrC_all (r : Jrn) : allOne (jrC r) = true := rfl
@[go_sem, simp] theorem jrC_0 (r : Jrn) (h : 0 < (jrC r).length) : (jrC r)[0] = CV.v (.int .i64 r.start) := rfl
@[go_sem, simp] theorem jrC_1 (r : Jrn) (h : 1 < (jrC r).length) : (jrC r)[1] = CV.v (.int .i64 r.count) := rfl
@[go_sem, simp] theorem jrC_2 (r : Jrn) (h : 2 < (jrC r).length) : (jrC r)[2] = CV.v (.int .i64 r.head) := rfl
@[go_sem, simp] theorem jrC_3 (r : Jrn) (h : 3 < (jrC r).length) : (jrC r)[3] = CV.v (.int .i64 r.tail) := rfl
@[go_sem, simp] theorem jrC_4 (r : Jrn) (h : 4 < (jrC r).length) : (jrC r)[4] = CV.v (.int .i64 r.first) := rfl
@[go_sem, simp] theorem jrC_5 (r : Jrn) (h : 5 < (jrC r).length) : (jrC r)[5] = .sl .sh 1 (r.sizes.map ic) := rfl
@[go_sem] theorem okL_jrC (i j : Nat) (r : Jrn) : okL i j (jrC r) = True := by simp [jrC, go_sem, okL, okV, okE_ints]
def zjr : Jrn := ⟨0, 0, 0, 0, 0, []⟩
def validJ (s c : Int) : Bool := decide (0 ≤ s) && decide (20 ≤ c) && decide (s ≤ 4096) && decide (c ≤ 4096 - s)
def sumI (l : List Int) : Int := l.foldl (· + ·) 0
def okSz (n : Int) : Bool := decide (2 ≤ n) && decide (n ≤ 1026)
def chkJ (j : Jrn) : Bool :=
  validJ j.start j.count && decide (0 ≤ j.head) && decide (j.head < j.count - 16) && decide (1 ≤ j.first) && decide (j.first ≤ 1073741824) && j.sizes.all okSz && decide (sumI j.sizes ≤ j.count - 16) &&
    decide (j.tail = (j.head + sumI j.sizes) % (j.count - 16)) && decide (j.first + j.sizes.length ≤ 1073741824)
def freeJ (j : Jrn) : Int := j.count - 16 - sumI j.sizes
def nextJ (j : Jrn) : Int := j.first + j.sizes.length
def wrapW (s c p : Int) (l : List Sec) : List Opn :=
  let k := min l.length (c - 16 - p).toNat
  opW (s + 16 + p) (l.take k) :: (if k < l.length then [opW (s + 16) (l.drop k)] else [])
def superJ (h f : Int) : List UInt8 := enc h ++ enc f
def formatJ (s c : Int) : Jrn × List Opn × Nat :=
  if validJ s c = false then (zjr, [], 2) else
  if (formatS s (superJ 0 1)).2 ≠ 0 then (zjr, [], (formatS s (superJ 0 1)).2) else (⟨s, c, 0, 0, 1, []⟩, opW (s + 16) (List.replicate (c - 16).toNat sec0) :: opS :: (formatS s (superJ 0 1)).1, 0)
def appJ (j : Jrn) (kind : Int) (p : List UInt8) : Jrn × List Opn × Nat :=
  if chkJ j = false then (zjr, [], 3) else
  match encR ⟨kind, nextJ j, p⟩ with
  | .error e => (zjr, [], e)
  | .ok l =>
    if 1073741824 ≤ nextJ j then (zjr, [], 6) else if freeJ j < l.length then (zjr, [], 11)
    else (⟨j.start, j.count, j.head, (j.tail + l.length) % (j.count - 16), j.first, j.sizes ++ [(l.length : Int)]⟩, wrapW j.start j.count j.tail l ++ [opS], 0)
end Go.Proofs.YtbnkggbpocaaiaaGreatDoor
namespace Go.Proofs.YtbnkggbpocaaiaaGreatDoor
open Go.Proofs
theorem sindexC_cc (H : Hp) (V : List Nat) (tk : Tk) (l : List Cach) (d : Dk) (b : Nat) (hb : H[b]? = some (some (dkC d))) (hl : l.length ≤ 900000000) :
    CC Tryz.prog 179 [.sl tk 9 (l.map cachC), .fn 138 [.ptr b 0]] H V (Ix (l.any (badAt d)) H V) := by
  refine CC.of_swp Tryz.func179 rfl (by kernel_rfl) (by rw [Tryz.ntmps179]; exact len_le _ _ rfl) fun hok hokH => ?_
  clear hok
  refine SWp.seq (Wp.s ?_)
  simp -implicitDefEqProofs [go_sem, args0]
  refine SWp.join (α := Unit) (fun _ => ([], H, V)) (fun _ => l.any (badAt d) = false) ?_ ?_
  · refine SWp.seq (Wp.s ?_)
    simp -implicitDefEqProofs [go_sem]
    refine SWp.block ?_
    refine SWp.loop (α := Nat) (fun i => ([(0, .sl tk 9 (l.map cachC)), (1, .fn 138 [.ptr b 0]), (7, ci l.length), (8, ci i)], H, V)) (fun i => i ≤ l.length ∧ (l.take i).any (badAt d) = false) (fun i => l.length - i) 0 ⟨Nat.zero_le _, rfl⟩
      (Sh.forget (by simp -implicitDefEqProofs [go_sem]) rfl rfl) ?_
    rintro i ⟨hi, hp⟩
    dsimp only
    refine Wp.s ?_
    simp -implicitDefEqProofs [go_sem]
    refine ⟨fun h => ⟨h, ?_⟩, fun h => ⟨?_, Sh.forget (by simp -implicitDefEqProofs [go_sem]) rfl rfl⟩⟩
    · refine CC.mono (sCheck1_cc _ _ d _ _ hb) ?_
      rintro _ _ _ ⟨rfl, rfl, rfl⟩
      rcases hq : badAt d l[i] with - | -
      · simp -implicitDefEqProofs [go_sem]
        refine ⟨i + 1, ⟨by omega, by simpa using any_take h hp hq⟩, by omega, Sh.forget ?_ rfl rfl⟩
        simp -implicitDefEqProofs [go_sem, wrap_succ (show i ≤ 1000000000 by omega)]
      · simp -implicitDefEqProofs [go_sem]
        exact Fin.ix (by rw [any_at h hq]; simp) hokH (by simp) (by simp)
    · rw [List.take_of_length_le h] at hp; simpa using hp
  · rintro _ hp
    dsimp only
    refine Wp.s ?_
    simp -implicitDefEqProofs [go_sem]
    exact Fin.ix (by rw [hp]; rfl) hokH (by simp) (by simp)
theorem scontainsC_cc (H : Hp) (V : List Nat) (tk : Tk) (l : List Cach) (d : Dk) (b : Nat) (hb : H[b]? = some (some (dkC d))) (hl : l.length ≤ 900000000) :
    CC Tryz.prog 137 [.sl tk 9 (l.map cachC), .fn 138 [.ptr b 0]] H V (Pu (cb (l.any (badAt d))) H V) := by
  refine CC.of_swp Tryz.func137 rfl (by kernel_rfl) (by rw [Tryz.ntmps137]; exact len_le _ _ rfl) fun hok hokH => Wp.s ?_
  simp -implicitDefEqProofs [go_sem, args0]
  refine CC.mono (sindexC_cc _ _ _ _ d _ hb hl) ?_
  rintro _ _ _ ⟨k, rfl, hk, rfl, rfl⟩
  simp -implicitDefEqProofs [go_sem]
  exact Fin.bool hk hokH (by simp) (by simp)
def DkS (d : Dk) : Prop := d.stable.length ≤ 1000000 ∧ d.cache.length ≤ 1000000
theorem sCheck_cc (H : Hp) (V : List Nat) (d : Dk) (hl : DkS d) : CC Tryz.prog 80 [.agg (dkC d)] H V (Pu (er (checkD d)) H V) := by
  refine CC.of_swp Tryz.func80 rfl (by kernel_rfl) (by rw [Tryz.ntmps80]; exact len_le _ _ rfl) fun hok hokH => ?_
  clear hok
  refine SWp.seq (Wp.s ?_)
  simp -implicitDefEqProofs [go_sem, args0]
  refine Wp.s ?_
  by_cases h1 : 4096 < d.stable.length
  · simp -implicitDefEqProofs [go_sem, show (4096 : Int) < d.stable.length by omega]
    exact Fin.er (by rw [checkD, if_pos (.inl h1)]) hokH (by simp) (by simp)
  · simp -implicitDefEqProofs [go_sem, show ¬ (4096 : Int) < d.stable.length by omega]
    refine CC.mono (scontainsC_cc _ _ .sh _ d _ (by simp) (by have := hl.2; omega)) ?_
    rintro _ _ _ ⟨rfl, rfl, rfl⟩
    rcases hq : d.cache.any (badAt d) with - | -
    · simp -implicitDefEqProofs [go_sem]
      exact Fin.er (by rw [checkD, if_neg (by simp only [hq, not_or]; exact ⟨h1, by decide⟩)]) hokH (by simp) (by simp)
    · simp -implicitDefEqProofs [go_sem]
      exact Fin.er (by rw [checkD, if_pos (.inr hq)]) hokH (by simp) (by simp)
theorem srCheck_cc (H : Hp) (V : List Nat) (d : Dk) (hl : DkS d) : CC Tryz.prog 90 [.agg (dkC d)] H V (Pu (er (checkD d)) H V) := by
  refine CC.of_swp Tryz.func90 rfl (by kernel_rfl) (by rw [Tryz.ntmps90]; exact len_le _ _ rfl) fun hok hokH => ?_
  clear hok
  refine SWp.seq (Wp.s ?_)
  simp -implicitDefEqProofs [go_sem, args0]
  refine SWp.seq (Wp.s ?_)
  by_cases h1 : 4096 < d.stable.length
  · simp -implicitDefEqProofs [go_sem, show (4096 : Int) < d.stable.length by omega]
    exact Fin.er (by rw [checkD, if_pos (.inl h1)]) hokH (by simp) (by simp)
  simp -implicitDefEqProofs [go_sem, show ¬ (4096 : Int) < d.stable.length by omega]
  have h2 := hl.2
  refine SWp.join (α := Unit) (fun _ => ([], H ++ [some (dkC d)], V)) (fun _ => d.cache.any (badAt d) = false) ?_ ?_
  · refine SWp.seq (Wp.s ?_)
    simp -implicitDefEqProofs [go_sem]
    refine SWp.block ?_
    refine SWp.loop (α := Nat) (fun i => ([(1, .ptr H.length 0), (3, ci i)], H ++ [some (dkC d)], V)) (fun i => i ≤ d.cache.length ∧ (d.cache.take i).any (badAt d) = false) (fun i => d.cache.length - i) 0 ⟨Nat.zero_le _, rfl⟩
      (Sh.forget (by simp -implicitDefEqProofs [go_sem]) rfl rfl) ?_
    rintro i ⟨hi, hp⟩
    dsimp only
    refine SWp.seq (Wp.s ?_)
    simp -implicitDefEqProofs [go_sem]
    refine ⟨fun h => ?_, fun h => ⟨?_, Sh.forget (by simp -implicitDefEqProofs [go_sem]) rfl rfl⟩⟩
    case refine_2 => rw [List.take_of_length_le h] at hp; simpa using hp
    refine SWp.seq (SWp.block ?_)
    refine SWp.seq (SWp.drawnL (List.range 19) (by kernel_rfl) (by kernel_rfl) rfl ?_)
    by_cases c1 : d.cache[i].pos < 0
    · simp -implicitDefEqProofs [go_sem, h, c1, List.range, List.range.loop]
      refine Wp.s ?_
      simp -implicitDefEqProofs [go_sem]
      exact Fin.er (by rw [checkD, if_pos (.inr (any_at h (by simp [badAt, c1])))]) hokH (by simp) (by simp)
    by_cases c2 : (d.stable.length : Int) ≤ d.cache[i].pos
    · simp -implicitDefEqProofs [go_sem, h, c1, c2, List.range, List.range.loop]
      refine Wp.s ?_
      simp -implicitDefEqProofs [go_sem]
      exact Fin.er (by rw [checkD, if_pos (.inr (any_at h (by simp [badAt, c2])))]) hokH (by simp) (by simp)
    simp -implicitDefEqProofs [go_sem, h, c1, c2, List.range, List.range.loop]
    refine Wp.s ?_
    simp -implicitDefEqProofs [go_sem]
    refine Wp.s ?_
    simp -implicitDefEqProofs [go_sem, wrap_succ (show i ≤ 1000000000 by omega)]
    refine ⟨i + 1, ⟨by omega, by simpa using any_take h hp (by simp [badAt, c1, c2])⟩, by omega, Sh.forget (by simp -implicitDefEqProofs [go_sem]) rfl rfl⟩
  · rintro _ hq
    dsimp only
    refine Wp.s ?_
    simp -implicitDefEqProofs [go_sem]
    exact Fin.er (by rw [checkD, if_neg (by simp only [hq, not_or]; exact ⟨h1, by decide⟩)]) hokH (by simp) (by simp)
end Go.Proofs.YtbnkggbpocaaiaaGreatDoor
namespace Go.Proofs.YtbnkggbpocaaiaaGreatDoor
open Go.Proofs
theorem scloneC_cc (H : Hp) (V : List Nat) (tk : Tk) (l : List Cach) (hx : l.length ≤ 1000000000) : CC Tryz.prog 139 [.sl tk 9 (l.map cachC)] H V (Fr 9 (l.map cachC) H V) := by
  refine CC.of_swp Tryz.func139 rfl (by kernel_rfl) (by rw [Tryz.ntmps139]; exact len_le _ _ rfl) fun hok hokH => ?_
  clear hok
  refine SWp.seq (Wp.s ?_)
  simp -implicitDefEqProofs [go_sem, args0]
  refine SWp.seq (Wp.s ?_)
  simp -implicitDefEqProofs [go_sem]
  refine ⟨Wp.s ?_, fun e => Fin.frtok (by decide) (.inl ⟨rfl, by rw [e]; rfl⟩) (by simp -implicitDefEqProofs [go_sem]) hokH (by simp) (by simp)⟩
  simp -implicitDefEqProofs [go_sem]
  exact ⟨by omega, Fin.fr (by simp -implicitDefEqProofs [go_sem]) hokH (by simp)⟩
theorem scloneS_cc (H : Hp) (V : List Nat) (tk : Tk) (l : List Sec) (hx : l.length ≤ 1000000000) : CC Tryz.prog 122 [.sl tk 8 (l.map secC)] H V (Fr 8 (l.map secC) H V) := by
  refine CC.of_swp Tryz.func122 rfl (by kernel_rfl) (by rw [Tryz.ntmps122]; exact len_le _ _ rfl) fun hok hokH => ?_
  clear hok
  refine SWp.seq (Wp.s ?_)
  simp -implicitDefEqProofs [go_sem, args0]
  refine SWp.seq (Wp.s ?_)
  simp -implicitDefEqProofs [go_sem]
  refine ⟨Wp.s ?_, fun e => Fin.frtok (by decide) (.inl ⟨rfl, by rw [e]; rfl⟩) (by simp -implicitDefEqProofs [go_sem]) hokH (by simp) (by simp)⟩
  simp -implicitDefEqProofs [go_sem]
  exact ⟨by omega, Fin.fr (by simp -implicitDefEqProofs [go_sem]) hokH (by simp)⟩
theorem scloneB_cc (H : Hp) (V : List Nat) (tk : Tk) (l : List Sec) (h0 : l ≠ []) (hx : l.length ≤ 1000000000) : CC Tryz.prog 122 [.sl tk 8 (l.map secC)] H V (fun r H' V' => r = .bsl H.length 0 l.length 8 ∧ H' = H ++ [some (secsF l)] ∧ V = V') := by
  have hne : l.map secC ≠ [] := fun e => h0 (by simpa using e)
  refine CC.of_swp Tryz.func122 rfl (by kernel_rfl) (by rw [Tryz.ntmps122]; exact len_le _ _ rfl) fun hok hokH => ?_
  clear hok
  refine SWp.seq (Wp.s ?_)
  simp -implicitDefEqProofs [go_sem, args0]
  refine SWp.seq (Wp.s ?_)
  simp -implicitDefEqProofs [go_sem]
  refine ⟨SWp.seq (SWp.opx (pre := [_, _]) (post := [_]) rfl (by intro c e; cases e) ?_), fun e => absurd e h0⟩
  simp -implicitDefEqProofs [go_sem]
  refine ⟨_, _, _, appbox (sz := 8) (tk := tk) (ys := l.map secC) slTy46 slTy46 rfl rfl hne (by rw [List.length_map]; omega), ?_⟩
  rw [List.length_map]
  refine Wp.s ?_
  simp -implicitDefEqProofs [go_sem]
  refine Fin.cut (H.length + 1) V.length ⟨rfl, rfl, rfl⟩ (Nat.le_succ _) (Nat.le_refl _) (List.take_of_length_le (by simp)) (List.take_of_length_le (Nat.le_refl _)) (.bsa _ _ _) (by simp -implicitDefEqProofs [go_sem]) ?_
  intro b cs hb
  rw [List.getElem?_append] at hb
  split at hb
  · exact okL_mono (Nat.le_succ _) (Nat.le_refl _) (hokH b cs hb)
  · exact okH_get (i := H.length + 1) (j := V.length) (L := [some (secsF l)]) (by simp -implicitDefEqProofs [go_sem]) _ _ hb
end Go.Proofs.YtbnkggbpocaaiaaGreatDoor
namespace Go.Proofs.YtbnkggbpocaaiaaGreatDoor
open Go.Proofs
@[go_sem, simp] theorem cachC_tail (c : Cach) : (cachC c).tail = secC c.data := rfl
def nst (d : Dk) (i : Nat) : List Sec := (d.cache.take i).foldl setC d.stable
theorem nst_len (d : Dk) (i : Nat) : (nst d i).length = d.stable.length := foldl_setC_len _ _
theorem nst_end (d : Dk) (i : Nat) (h : d.cache.length ≤ i) : nst d i = newestD d := by rw [nst, List.take_of_length_le h]; rfl
theorem nst_succ (d : Dk) (i : Nat) (h : i < d.cache.length) : nst d (i + 1) = (nst d i).set d.cache[i].pos.toNat d.cache[i].data := foldl_take_succ _ _ _ _ h
theorem chk_get {d : Dk} (h : checkD d = 0) (i : Nat) (hi : i < d.cache.length) : 0 ≤ d.cache[i].pos ∧ d.cache[i].pos.toNat < d.stable.length := (checkD_0 h).2 _ (List.getElem_mem hi)
theorem snewest_cc (H : Hp) (V : List Nat) (d : Dk) (hl : DkS d) (hc : checkD d = 0) : CC Tryz.prog 89 [.agg (dkC d)] H V (Pu (secsV (newestD d)) H V) := by
  refine CC.of_swp Tryz.func89 rfl (by kernel_rfl) (by rw [Tryz.ntmps89]; exact len_le _ _ rfl) fun hok hokH => ?_
  clear hok
  have hl1 := hl.1
  have hl2 := hl.2
  refine SWp.seq (Wp.s ?_)
  simp -implicitDefEqProofs [go_sem, args0]
  refine SWp.seq (Wp.s ?_)
  simp -implicitDefEqProofs [go_sem]
  by_cases h0 : d.stable = []
  · have h1 : d.cache = [] := by
      rcases hd : d.cache with - | ⟨c, l⟩
      · rfl
      · have := chk_get hc 0 (by rw [hd]; simp)
        rw [h0] at this; simp at this
    have hn : newestD d = [] := by rw [newestD, h1, h0]; rfl
    refine CC.mono (scloneS_cc _ _ .sh _ (by omega)) ?_
    rintro _ _ _ ⟨v, rfl, rfl, rfl⟩
    simp -implicitDefEqProofs [go_sem]
    refine SWp.join (α := Unit) (fun _ => ([(3, .sl .sh 8 [])], H ++ [some (dkC d)], V ++ [v])) (fun _ => True) ?_ ?_
    · refine SWp.seq (Wp.s ?_)
      simp -implicitDefEqProofs [go_sem]
      refine SWp.block ?_
      refine SWp.loop (α := Unit) (fun i => ([(3, .sl .sh 8 []), (11, ci 0), (12, ci 0)], H ++ [some (dkC d)], V ++ [v])) (fun i => True) (fun i => 0) () trivial (Sh.forget (by simp -implicitDefEqProofs [go_sem, h0, h1]) rfl rfl) ?_
      rintro i -
      dsimp only
      refine Wp.s ?_
      simp -implicitDefEqProofs [go_sem]
      exact Sh.forget (by simp -implicitDefEqProofs [go_sem]) rfl rfl
    · rintro _ -
      dsimp only
      refine Wp.s ?_
      simp -implicitDefEqProofs [go_sem]
      exact Fin.pu (by rw [hn]; exact .refl _) (by simp -implicitDefEqProofs [go_sem]) hokH (by simp) (by simp)
  refine CC.mono (scloneB_cc _ _ .sh _ h0 (by omega)) ?_
  rintro _ _ _ ⟨rfl, rfl, rfl⟩
  simp -implicitDefEqProofs [go_sem]
  refine SWp.join (α := Unit) (fun _ => ([(3, .bsl (H.length + 1) 0 d.stable.length 8)], H ++ [some (dkC d), some (secsF (newestD d))], V)) (fun _ => True) ?_ ?_
  · refine SWp.seq (Wp.s ?_)
    simp -implicitDefEqProofs [go_sem]
    refine SWp.block ?_
    refine SWp.loop (α := Nat) (fun i => ([(3, .bsl (H.length + 1) 0 d.stable.length 8), (10, cachV d.cache), (11, ci d.cache.length), (12, ci i)], H ++ [some (dkC d), some (secsF (nst d i))], V)) (fun i => i ≤ d.cache.length) (fun i => d.cache.length - i) 0 (Nat.zero_le _)
      (Sh.forget (by simp -implicitDefEqProofs [go_sem]) (by simp [nst]) rfl) ?_
    rintro i hi
    dsimp only
    refine Wp.s ?_
    simp -implicitDefEqProofs [go_sem]
    refine ⟨fun h => ?_, fun h => Sh.forget (by simp -implicitDefEqProofs [go_sem]) (by rw [nst_end _ _ h]) rfl⟩
    obtain ⟨c1, c2⟩ := chk_get hc i h
    refine ⟨h, c1, by omega, by rw [nst_len]; omega, i + 1, by omega, by omega, Sh.trim (L := [some (dkC d), some (secsF (nst d (i + 1)))]) ?_ ?_ hokH ?_ (Nat.le_refl _) ?_ (by simp)⟩
    · simp -implicitDefEqProofs [go_sem, wrap_succ (show i ≤ 1000000000 by omega)]
    · simp -implicitDefEqProofs [go_sem]
    · simp -implicitDefEqProofs [go_sem]
    · rw [nst_succ _ _ h, ← secsF_set' (by rw [nst_len]; omega)]; simp
  · rintro _ -
    dsimp only
    refine Wp.s ?_
    simp -implicitDefEqProofs [go_sem]
    refine Fin.froz (b := H.length + 1) (cs := secsF (newestD d)) ⟨rfl, rfl, rfl⟩ (.refl _) (by simp) (xs := (newestD d).map secC) (by rw [List.drop_zero, ← newestD_len, chunks_secs]) (by simp [newestD_len]; omega) (by omega) (by simp -implicitDefEqProofs [go_sem]) hokH (by simp) (by simp)
theorem srNewest_cc (H : Hp) (V : List Nat) (d : Dk) (hl : DkS d) (hc : checkD d = 0) : CC Tryz.prog 155 [.agg (dkC d)] H V (Pu (secsV (newestD d)) H V) := by
  refine CC.of_swp Tryz.func155 rfl (by kernel_rfl) (by rw [Tryz.ntmps155]; exact len_le _ _ rfl) fun hok hokH => ?_
  clear hok
  have hl1 := hl.1
  have hl2 := hl.2
  refine SWp.seq (Wp.s ?_)
  simp -implicitDefEqProofs [go_sem, args0]
  refine SWp.seq (Wp.s ?_)
  simp -implicitDefEqProofs [go_sem]
  by_cases h0 : d.stable = []
  · have h1 : d.cache = [] := by
      rcases hd : d.cache with - | ⟨c, l⟩
      · rfl
      · have := chk_get hc 0 (by rw [hd]; simp)
        rw [h0] at this; simp at this
    have hn : newestD d = [] := by rw [newestD, h1, h0]; rfl
    refine SWp.seq (Wp.s ?_)
    simp -implicitDefEqProofs [go_sem, h0]
    refine SWp.join (α := Unit) (fun _ => ([(3, .sl .sh 8 [])], H ++ [some (dkC d)], V ++ [0])) (fun _ => True) ?_ ?_
    · refine SWp.seq (Wp.s ?_)
      simp -implicitDefEqProofs [go_sem]
      refine SWp.block ?_
      refine SWp.loop (α := Unit) (fun i => ([(1, .ptr H.length 0), (3, .sl .sh 8 []), (4, ci 0)], H ++ [some (dkC d)], V ++ [0])) (fun i => True) (fun i => 0) () trivial (Sh.forget (by simp -implicitDefEqProofs [go_sem]) rfl rfl) ?_
      rintro i -
      dsimp only
      refine SWp.seq (Wp.s ?_)
      simp -implicitDefEqProofs [go_sem, h1]
      exact Sh.forget (by simp -implicitDefEqProofs [go_sem]) rfl rfl
    · rintro _ -
      dsimp only
      refine Wp.s ?_
      simp -implicitDefEqProofs [go_sem]
      exact Fin.pu (by rw [hn]; exact .refl _) (by simp -implicitDefEqProofs [go_sem]) hokH (by simp) (by simp)
  refine SWp.ghost (T' := [(1, .ptr H.length 0), (3, .sl .ti 8 [])]) (Gst.forget (TLe.get (by simp -implicitDefEqProofs [go_sem]; exact .nilti 8 (by decide)))) ?_
  refine SWp.seq (SWp.opx (pre := [_, _, _]) (post := [_]) rfl (by intro c e; cases e) ?_)
  simp -implicitDefEqProofs [go_sem]
  refine ⟨_, _, _, appbox (sz := 8) (tk := .sh) (ys := d.stable.map secC) slTy46 slTy46 rfl rfl (by simpa using h0) (by rw [List.length_map]; omega), ?_⟩
  rw [List.length_map]
  refine SWp.join (α := Unit) (fun _ => ([(3, .bsl (H.length + 1) 0 d.stable.length 8)], H ++ [some (dkC d), some (secsF (newestD d))], V)) (fun _ => True) ?_ ?_
  · refine SWp.seq (Wp.s ?_)
    simp -implicitDefEqProofs [go_sem]
    refine SWp.block ?_
    refine SWp.loop (α := Nat) (fun i => ([(1, .ptr H.length 0), (3, .bsl (H.length + 1) 0 d.stable.length 8), (4, ci i)], H ++ [some (dkC d), some (secsF (nst d i))], V)) (fun i => i ≤ d.cache.length) (fun i => d.cache.length - i) 0 (Nat.zero_le _)
      (Sh.forget (by simp -implicitDefEqProofs [go_sem]; exact .bsa _ _ _) (by simp [nst]; rfl) rfl) ?_
    rintro i hi
    dsimp only
    refine SWp.seq (Wp.s ?_)
    simp -implicitDefEqProofs [go_sem]
    refine ⟨fun h => ?_, fun h => Sh.forget (by simp -implicitDefEqProofs [go_sem]) (by rw [nst_end _ _ h]) rfl⟩
    obtain ⟨c1, c2⟩ := chk_get hc i h
    refine SWp.seq (SWp.block ?_)
    refine SWp.drawnT [] [14] (.s 0 .pl <| .s 1 .pl <| .s 2 .pl <| .s 3 .pl <| .s 4 .pl <| .s 5 .pl <| .s 6 .pl <| .s 7 .pl <| .s 8 .pl <| .s 9 .pl <| .s 10 .pl <| .s 11 .pl <| .s 12 .pl <| .s 13 .pl <| .s 14 .st <| .n) (by kernel_rfl) (by kernel_rfl) ?_
    simp -implicitDefEqProofs [go_sem, h, List.range, List.range.loop, c1, show d.cache[i].pos < (d.stable.length : Int) by omega, show d.cache[i].pos.toNat * 8 + 8 ≤ 8 * (nst d i).length by rw [nst_len]; omega]
    refine Wp.s ?_
    simp -implicitDefEqProofs [go_sem, wrap_succ (show i ≤ 1000000000 by omega)]
    refine ⟨i + 1, by omega, by omega, Sh.forget ?_ ?_ rfl⟩
    · simp -implicitDefEqProofs [go_sem]
    · rw [nst_succ _ _ h, ← secsF_set' (by rw [nst_len]; omega)]
  · rintro _ -
    dsimp only
    refine Wp.s ?_
    simp -implicitDefEqProofs [go_sem]
    refine Fin.froz (b := H.length + 1) (cs := secsF (newestD d)) ⟨rfl, rfl, rfl⟩ (.refl _) (by simp) (xs := (newestD d).map secC) (by rw [List.drop_zero, ← newestD_len, chunks_secs]) (by simp [newestD_len]; omega) (by omega) (by simp -implicitDefEqProofs [go_sem]) hokH (by simp) (by simp)
end Go.Proofs.YtbnkggbpocaaiaaGreatDoor
namespace Go.Proofs.YtbnkggbpocaaiaaGreatDoor
open Go.Proofs
theorem okV_er (i j : Nat) (e : Nat) : okV i j (er e) := by rw [er, okV]; trivial
theorem inside_f {d : Dk} {a n : Int} (h : a < 0 ∨ n < 0 ∨ (d.stable.length : Int) < n ∨ (d.stable.length : Int) - n < a) : insideB d a n = false := by
  rw [← Bool.not_eq_true]
  intro hq
  simp only [insideB, Bool.and_eq_true, decide_eq_true_eq] at hq
  omega
theorem sRead_cc (H : Hp) (V : List Nat) (d : Dk) (e : Ext2) (hl : DkS d) : CC Tryz.prog 29 [.agg (dkC d), .agg (extC e)] H V (Pu (.tup [secsV (readD d e.start e.count).1, er (readD d e.start e.count).2]) H V) := by
  refine CC.of_swp Tryz.func29 rfl (by kernel_rfl) (by rw [Tryz.ntmps29]; exact len_le _ _ rfl) fun hok hokH => ?_
  clear hok
  have hl1 := hl.1
  have hl2 := hl.2
  refine SWp.seq (Wp.s ?_)
  simp -implicitDefEqProofs [go_sem, args0]
  refine SWp.seq (Wp.s ?_)
  simp -implicitDefEqProofs [go_sem]
  refine CC.mono (sCheck_cc _ _ d hl) ?_
  rintro _ _ _ ⟨rfl, rfl, rfl⟩
  simp -implicitDefEqProofs [go_sem]
  refine ⟨fun hc => ?_, fun hc => ?_⟩
  case refine_1 =>
    have hr : readD d e.start e.count = ([], checkD d) := by rw [readD, if_pos hc]
    rw [hr]
    exact Fin.tup2 (by exact .nil 8 (by decide)) (.refl _) (by simp -implicitDefEqProofs [go_sem]) (by simp -implicitDefEqProofs [go_sem]) hokH (by simp) (by simp)
  refine SWp.seq (Wp.s ?_)
  simp -implicitDefEqProofs [go_sem]
  refine CC.mono (sinside_cc _ _ d e.start e.count (by omega)) ?_
  rintro _ _ _ ⟨rfl, rfl, rfl⟩
  simp -implicitDefEqProofs [go_sem]
  rcases hq : insideB d e.start e.count with - | -
  · simp -implicitDefEqProofs [go_sem]
    have hr : readD d e.start e.count = ([], 2) := by rw [readD, if_neg (by simp [hc]), if_pos hq]
    rw [hr]
    exact Fin.tup2 (by exact .nil 8 (by decide)) (.refl _) (by simp -implicitDefEqProofs [go_sem]) (by simp -implicitDefEqProofs [go_sem]) hokH (by simp) (by simp)
  have hi : 0 ≤ e.start ∧ 0 ≤ e.count ∧ e.count ≤ (d.stable.length : Int) ∧ e.start ≤ (d.stable.length : Int) - e.count := by
    simpa [insideB, and_assoc] using hq
  have hr : readD d e.start e.count = (((newestD d).drop e.start.toNat).take e.count.toNat, 0) := by rw [readD, if_neg (by simp [hc]), if_neg (by simp [hq])]
  rw [hr]
  obtain ⟨i1, i2, i3, i4⟩ := hi
  simp -implicitDefEqProofs [go_sem]
  refine SWp.seq (SWp.drawnL [0, 2, 3, 4, 5, 6, 7, 8, 9, 10, 11, 12, 13, 1, 14, 15, 16] (by kernel_rfl) (by kernel_rfl) rfl ?_)
  simp -implicitDefEqProofs [go_sem, IntWalk.i64_in (e.start + e.count) ⟨by omega, by omega⟩]
  refine CC.mono (snewest_cc _ _ d hl hc) ?_
  rintro _ _ _ ⟨rfl, rfl, rfl⟩
  simp -implicitDefEqProofs [go_sem]
  have hn := newestD_len d
  refine ⟨i1, by omega, by omega, by omega, Wp.s ?_⟩
  simp -implicitDefEqProofs [go_sem]
  refine Fin.tup2 ?_ (.refl _) (okV_secsV _ _ _) (okV_er _ _ _) hokH (by simp) (by simp)
  have e1 : (e.start + e.count).toNat = e.start.toNat + e.count.toNat := by omega
  refine .trans (.sh _ _ _) (.of_eq ?_)
  rw [secsV, e1, List.drop_take, Nat.add_sub_cancel_left, List.map_take, List.map_drop]
theorem srRead_cc (H : Hp) (V : List Nat) (d : Dk) (e : Ext2) (hl : DkS d) : CC Tryz.prog 99 [.agg (dkC d), .agg (extC e)] H V (Pu (.tup [secsV (readD d e.start e.count).1, er (readD d e.start e.count).2]) H V) := by
  refine CC.of_swp Tryz.func99 rfl (by kernel_rfl) (by rw [Tryz.ntmps99]; exact len_le _ _ rfl) fun hok hokH => ?_
  clear hok
  have hl1 := hl.1
  have hl2 := hl.2
  refine SWp.seq (Wp.s ?_)
  simp -implicitDefEqProofs [go_sem, args0]
  refine SWp.seq (Wp.s ?_)
  simp -implicitDefEqProofs [go_sem]
  refine CC.mono (srCheck_cc _ _ d hl) ?_
  rintro _ _ _ ⟨rfl, rfl, rfl⟩
  simp -implicitDefEqProofs [go_sem]
  refine ⟨fun hc => ?_, fun hc => ?_⟩
  case refine_1 =>
    have hr : readD d e.start e.count = ([], checkD d) := by rw [readD, if_pos hc]
    rw [hr]
    exact Fin.tup2 (by exact .nil 8 (by decide)) (.refl _) (by simp -implicitDefEqProofs [go_sem]) (by simp -implicitDefEqProofs [go_sem]) hokH (by simp) (by simp)
  refine SWp.seq (Wp.s ?_)
  have bad : ∀ {T : Tm} {H' : Hp} {V' : List Nat}, insideB d e.start e.count = false → H'.take H.length = H → V'.take V.length = V → Fin H.length V.length (Pu (.tup [secsV (readD d e.start e.count).1, er (readD d e.start e.count).2]) H V) (.tup [.v (.slice none 0 0), .v (.int .i64 2)]) H' V' := fun hq h1 h2 => by
    have hr : readD d e.start e.count = ([], 2) := by rw [readD, if_neg (by simp [hc]), if_pos hq]
    rw [hr]
    exact Fin.tup2 (by exact .nil 8 (by decide)) (.refl _) (by simp -implicitDefEqProofs [go_sem]) (by simp -implicitDefEqProofs [go_sem]) hokH h1 h2
  by_cases i1 : e.start < 0
  · simp -implicitDefEqProofs [go_sem, i1]
    exact bad (T := []) (inside_f (by omega)) (by simp) (by simp)
  by_cases i2 : e.count < 0
  · simp -implicitDefEqProofs [go_sem, i1, i2]
    exact bad (T := []) (inside_f (by omega)) (by simp) (by simp)
  by_cases i3 : (d.stable.length : Int) < e.count
  · simp -implicitDefEqProofs [go_sem, i1, i2, i3]
    exact bad (T := []) (inside_f (by omega)) (by simp) (by simp)
  by_cases i4 : (d.stable.length : Int) - e.count < e.start
  · simp -implicitDefEqProofs [go_sem, i1, i2, i3, i4, IntWalk.i64_in ((d.stable.length : Int) - e.count) ⟨by omega, by omega⟩]
    exact bad (T := []) (inside_f (by omega)) (by simp) (by simp)
  have hq : insideB d e.start e.count = true := by simp only [insideB, Bool.and_eq_true, decide_eq_true_eq]; omega
  have hr : readD d e.start e.count = (((newestD d).drop e.start.toNat).take e.count.toNat, 0) := by rw [readD, if_neg (by simp [hc]), if_neg (by simp [hq])]
  rw [hr]
  simp -implicitDefEqProofs [go_sem, i1, i2, i3, i4, IntWalk.i64_in ((d.stable.length : Int) - e.count) ⟨by omega, by omega⟩]
  refine SWp.seq (SWp.drawnL [0, 2, 3, 4, 5, 6, 7, 8, 1, 9, 10, 11] (by kernel_rfl) (by kernel_rfl) rfl ?_)
  simp -implicitDefEqProofs [go_sem, IntWalk.i64_in (e.start + e.count) ⟨by omega, by omega⟩]
  refine CC.mono (srNewest_cc _ _ d hl hc) ?_
  rintro _ _ _ ⟨rfl, rfl, rfl⟩
  simp -implicitDefEqProofs [go_sem]
  have hn := newestD_len d
  refine ⟨by omega, by omega, by omega, by omega, Wp.s ?_⟩
  simp -implicitDefEqProofs [go_sem]
  refine Fin.tup2 ?_ (.refl _) (okV_secsV _ _ _) (okV_er _ _ _) hokH (by simp) (by simp)
  have e1 : (e.start + e.count).toNat = e.start.toNat + e.count.toNat := by omega
  refine .trans (.sh _ _ _) (.of_eq ?_)
  rw [secsV, e1, List.drop_take, Nat.add_sub_cancel_left, List.map_take, List.map_drop]
end Go.Proofs.YtbnkggbpocaaiaaGreatDoor
namespace Go.Proofs.YtbnkggbpocaaiaaGreatDoor
open Go.Proofs
def Ap (j : Nat) (l : List Cach) (cv : CV) (V : List Nat) : Prop := (cv = .v (.slice none 0 0) ∧ l = []) ∨ ∃ k v, cv = .sl (.own k v) 9 (l.map cachC) ∧ V[k]? = some v ∧ j ≤ k
theorem Ap.le {j : Nat} {l : List Cach} {cv : CV} {V : List Nat} (h : Ap j l cv V) : Le cv (cachV l) := by
  rcases h with ⟨rfl, rfl⟩ | ⟨k, v, rfl, _⟩
  · exact .nil 9 (by decide)
  · exact .sh _ _ _
theorem Ap.one {j : Nat} {l : List Cach} {cv : CV} {V : List Nat} (h : Ap j l cv V) : cv.one = true := by
  rcases h with ⟨rfl, rfl⟩ | ⟨k, v, rfl, _⟩ <;> rfl
theorem Ap.ok {i j : Nat} {l : List Cach} {cv : CV} {V : List Nat} (h : Ap j l cv V) : okV i V.length cv := by
  rcases h with ⟨rfl, rfl⟩ | ⟨k, v, rfl, h, _⟩
  · rw [okV]; trivial
  · rw [okV_own, okE_cach]; exact ⟨(List.getElem?_eq_some_iff.1 h).1, trivial⟩
def XR (X j : Nat) (r : CV) (d : Dk) (H : Hp) (V : List Nat) : CV → Hp → List Nat → Prop := fun r' H' V' => r' = r ∧ ∃ cv, H' = H.set X (some [secsV d.stable, cv]) ∧ Ap j d.cache cv V' ∧ V'.take j = V.take j ∧ V.length ≤ V'.length
def puts (a : Int) (l : List Sec) : List Cach := l.zipIdx.map fun p => ⟨a + p.2, p.1⟩
theorem puts_len (a : Int) (l : List Sec) : (puts a l).length = l.length := by simp [puts]
theorem puts_succ (a : Int) (l : List Sec) (i : Nat) (h : i < l.length) : puts a (l.take (i + 1)) = puts a (l.take i) ++ [⟨a + i, l[i]⟩] := by
  rw [List.take_succ_eq_append_getElem h, puts, puts, List.zipIdx_append, List.map_append]
  simp [Nat.min_eq_left (Nat.le_of_lt h)]
def wrD (d : Dk) (a : Int) (l : List Sec) : Dk := ⟨d.stable, d.cache ++ puts a l⟩
theorem swrite_cc (H : Hp) (V : List Nat) (X j : Nat) (hX : X < H.length) (d : Dk) (o : Opn) (cv : CV) (ha : Ap j d.cache cv V) (hj : j ≤ V.length) (hl : DkS d) (hl2 : d.cache.length + o.data.length ≤ 1000000) (hok0 : ∀ (b : Nat) cs, (H.set X (some [secsV d.stable, cv]))[b]? = some (some cs) → okL H.length V.length cs) :
    CC Tryz.prog 140 [.ptr X 0, .agg (opC o)] (H.set X (some [secsV d.stable, cv])) V (XR X j (er (if insideB d o.pos o.data.length then 0 else 2)) (if insideB d o.pos o.data.length then wrD d o.pos o.data else d) H V) := by
  refine CC.of_swp Tryz.func140 rfl (by kernel_rfl) (by rw [Tryz.ntmps140]; exact len_le _ _ rfl) fun hok hokH => ?_
  clear hok
  have h1 := hl.1
  refine SWp.seq (Wp.s ?_)
  simp -implicitDefEqProofs [go_sem, args0]
  refine SWp.seq (SWp.seq (SWp.drawnL (List.range 11) (by kernel_rfl) (by kernel_rfl) rfl ?_))
  simp -implicitDefEqProofs [go_sem, List.range, List.range.loop, hX]
  refine CC.le (.cons (.agg (.cons (.refl _) (.cons ha.le .nil))) (.cons (.refl _) (.cons (.refl _) .nil))) (CC.mono (sinside_cc _ _ d o.pos _ (by omega)) ?_)
  rintro _ _ _ ⟨rfl, rfl, rfl⟩
  simp -implicitDefEqProofs [go_sem]
  refine Wp.s ?_
  have fin : ∀ (e : Nat) (d' : Dk) (cv' : CV) (L : Hp) (V' : List Nat), Ap j d'.cache cv' V' → V'.take j = V.take j → j ≤ V'.length → V.length ≤ V'.length → d'.stable = d.stable →
      Fin H.length V.length (XR X j (er e) d' H V) (er e) (H.set X (some [secsV d.stable, cv']) ++ L) V' := fun e d' cv' L V' h1 h2 h3 h4 h5 => by
    refine Fin.cut (H.length) V'.length ⟨rfl, cv', by rw [h5], h1, h2, h4⟩ (Nat.le_refl _) h4 (by rw [List.take_append_of_le_length (by simp), List.take_of_length_le (by simp)]) (List.take_of_length_le (Nat.le_refl _)) (.refl _) (okV_er _ _ _) ?_
    intro b cs hb
    by_cases hbX : b = X
    · subst hbX
      rw [List.getElem?_set_self hX] at hb
      simp at hb; subst hb
      rw [okL, okL, okL]
      exact ⟨okV_secsV _ _ _, h1.ok, trivial⟩
    · refine okL_mono (Nat.le_refl _) h4 (hok0 b cs ?_)
      rw [List.getElem?_set_ne (fun e => hbX e.symm)] at hb ⊢
      exact hb
  have okX : ∀ (l : List Cach) (cv' : CV) (V' : List Nat), Ap j l cv' V' → V.length ≤ V'.length → ∀ (b : Nat) cs, (H.set X (some [secsV d.stable, cv']) ++ [some (opC o)])[b]? = some (some cs) → okL (H.length + 1) V'.length cs := fun l cv' V' h1 h4 b cs hb => by
    rw [List.getElem?_append] at hb
    split at hb
    · by_cases hbX : b = X
      · subst hbX
        rw [List.getElem?_set_self hX] at hb
        simp at hb; subst hb
        rw [okL, okL, okL]
        exact ⟨okV_secsV _ _ _, h1.ok, trivial⟩
      · refine okL_mono (Nat.le_succ _) h4 (hok0 b cs ?_)
        rw [List.getElem?_set_ne (fun e => hbX e.symm)] at hb ⊢
        exact hb
    · exact okH_get (i := H.length + 1) (j := V'.length) (L := [some (opC o)]) (by rw [okH_some, okL_opC]; exact ⟨trivial, trivial⟩) _ _ hb
  rcases hq : insideB d o.pos o.data.length with - | -
  · simp -implicitDefEqProofs [go_sem, hq]
    exact fin 2 d cv _ V ha rfl hj (Nat.le_refl _) rfl
  simp -implicitDefEqProofs [go_sem, hq]
  have hin : 0 ≤ o.pos ∧ o.pos ≤ (d.stable.length : Int) - o.data.length := by
    simp only [insideB, Bool.and_eq_true, decide_eq_true_eq] at hq; omega
  refine SWp.join (α := CV × List Nat) (fun x => ([], H.set X (some [secsV d.stable, x.1]) ++ [some (opC o)], x.2)) (fun x => Ap j (d.cache ++ puts o.pos o.data) x.1 x.2 ∧ x.2.take j = V.take j ∧ j ≤ x.2.length ∧ V.length ≤ x.2.length) ?_ ?_
  · refine SWp.seq (Wp.s ?_)
    simp -implicitDefEqProofs [go_sem, hX]
    refine SWp.block ?_
    refine SWp.loop (α := Nat × CV × List Nat) (fun x => ([(0, .ptr X 0), (3, .ptr H.length 0), (19, secsV o.data), (20, ci o.data.length), (21, ci x.1)], H.set X (some [secsV d.stable, x.2.1]) ++ [some (opC o)], x.2.2))
      (fun x => x.1 ≤ o.data.length ∧ Ap j (d.cache ++ puts o.pos (o.data.take x.1)) x.2.1 x.2.2 ∧ x.2.2.take j = V.take j ∧ j ≤ x.2.2.length ∧ V.length ≤ x.2.2.length) (fun x => o.data.length - x.1) (0, cv, V) ⟨Nat.zero_le _, by simpa [puts] using ha, rfl, hj, Nat.le_refl _⟩
      (Sh.forget (by simp -implicitDefEqProofs [go_sem]) rfl rfl) ?_
    rintro ⟨i, cv', V'⟩ ⟨hi, hap, hv1, hv2, hv3⟩
    dsimp only at hi hap hv1 hv2 hv3 ⊢
    refine SWp.seq (Wp.s ?_)
    simp -implicitDefEqProofs [go_sem]
    refine SWp.seq (Wp.s ?_)
    simp -implicitDefEqProofs [go_sem]
    refine ⟨fun h => ?_, fun h => ⟨cv', V', ⟨by rw [List.take_of_length_le h] at hap; exact hap, hv1, hv2, hv3⟩, Sh.forget (by simp -implicitDefEqProofs [go_sem]) rfl rfl⟩⟩
    refine SWp.seq (SWp.block (SWp.seq (Wp.s ?_)))
    simp -implicitDefEqProofs [go_sem, h, hX]
    have hw : IntKind.i64.wrap (o.pos + (i : Int)) = o.pos + i := IntWalk.i64_in _ ⟨by omega, by omega⟩
    rcases hap with ⟨rfl, he⟩ | ⟨k, v, rfl, hv, hk⟩
    · refine SWp.drawnT [] [17] (.s 0 .pl <| .s 1 .pl <| .s 2 .pl <| .s 3 .pl <| .s 4 .pl <| .s 5 .pl <| .s 6 .pl <| .s 7 .pl <| .s 8 .pl <| .s 9 .pl <| .s 10 .pl <| .s 11 .pl <| .s 12 .pl <| .s 13 .pl <| .s 14 .pl <| .s 15 .pl <| .s 16 .pl <| .s 17 .st <| .n) (by kernel_rfl) (by kernel_rfl) ?_
      simp -implicitDefEqProofs [go_sem, h, hX]
      have he' : d.cache = [] ∧ puts o.pos (o.data.take i) = [] := List.append_eq_nil_iff.1 he
      have hap' : Ap j (d.cache ++ puts o.pos (o.data.take (i + 1))) (.sl (.own V'.length 0) 9 [.v (.int .i64 (o.pos + i)) :: secC o.data[i]]) (V' ++ [0]) :=
        .inr ⟨V'.length, 0, by rw [puts_succ _ _ _ h, he'.1, he'.2]; rfl, by simp, hv2⟩
      refine Wp.s ?_
      simp -implicitDefEqProofs [go_sem, wrap_succ (show i ≤ 1000000000 by omega), hw]
      refine ⟨i + 1, _, _, ⟨by omega, hap', by rw [List.take_append_of_le_length hv2]; exact hv1, by simp; omega, by simp; omega⟩, by omega, Sh.cut (H.length + 1) (V' ++ [0]).length (by simp -implicitDefEqProofs [go_sem]) (by omega) (by simp; omega) (TOk.all (by simp -implicitDefEqProofs [go_sem]; omega)) (okX _ _ _ hap' (by simp; omega)) ?_ (List.take_of_length_le (Nat.le_refl _))⟩
      simp [List.take_append]
      exact List.take_of_length_le (by simp)
    · refine SWp.drawnT [] [17] (.s 0 .pl <| .s 1 .pl <| .s 2 .pl <| .s 3 .pl <| .s 4 .pl <| .s 5 .pl <| .s 6 .pl <| .s 7 .pl <| .s 8 .pl <| .s 9 .pl <| .s 10 .pl <| .s 11 .pl <| .s 12 .pl <| .s 13 .pl <| .s 14 .pl <| .s 15 .pl <| .s 16 .pl <| .s 17 .st <| .n) (by kernel_rfl) (by kernel_rfl) ?_
      simp -implicitDefEqProofs [go_sem, h, hX, hv]
      have hkv := (List.getElem?_eq_some_iff.1 hv).1
      have hap' : Ap j (d.cache ++ puts o.pos (o.data.take (i + 1))) (.sl (.own k (v + 1)) 9 (d.cache.map cachC ++ ((puts o.pos (o.data.take i)).map cachC ++ [.v (.int .i64 (o.pos + i)) :: secC o.data[i]]))) (V'.set k (v + 1)) :=
        .inr ⟨k, v + 1, by rw [puts_succ _ _ _ h, List.map_append, List.map_append]; rfl, by rw [List.getElem?_set_self hkv], hk⟩
      refine ⟨by rw [puts_len, List.length_take]; omega, Wp.s ?_⟩
      simp -implicitDefEqProofs [go_sem, wrap_succ (show i ≤ 1000000000 by omega), hw]
      refine ⟨i + 1, _, _, ⟨by omega, hap', by rw [List.take_set_of_le hk]; exact hv1, by simpa using hv2, by simpa using hv3⟩, by omega, Sh.cut (H.length + 1) (V'.set k (v + 1)).length (by simp -implicitDefEqProofs [go_sem]) (by omega) (by simpa using hv3) (TOk.all (by simp -implicitDefEqProofs [go_sem]; omega)) (okX _ _ _ hap' (by simpa using hv3)) ?_ (List.take_of_length_le (Nat.le_refl _))⟩
      simp [List.take_append]
      exact List.take_of_length_le (by simp)
  · rintro ⟨cv', V'⟩ ⟨h1, h2, h3, h4⟩
    dsimp only
    refine Wp.s ?_
    simp -implicitDefEqProofs [go_sem]
    exact fin 0 (wrD d o.pos o.data) cv' _ V' h1 h2 h3 h4 rfl
theorem ssync_cc (H : Hp) (V : List Nat) (X j : Nat) (hX : X < H.length) (d : Dk) (o : Opn) (cv : CV) (ha : Ap j d.cache cv V) (hj : j ≤ V.length) (hl : DkS d) (hc : checkD d = 0) (hok0 : ∀ (b : Nat) cs, (H.set X (some [secsV d.stable, cv]))[b]? = some (some cs) → okL H.length V.length cs) :
    CC Tryz.prog 141 [.ptr X 0, .agg (opC o)] (H.set X (some [secsV d.stable, cv])) V (XR X j (er 0) ⟨newestD d, []⟩ H V) := by
  refine CC.of_swp Tryz.func141 rfl (by kernel_rfl) (by rw [Tryz.ntmps141]; exact len_le _ _ rfl) fun hok hokH => ?_
  clear hok
  refine SWp.seq (Wp.s ?_)
  simp -implicitDefEqProofs [go_sem, args0]
  refine SWp.seq (Wp.s ?_)
  simp -implicitDefEqProofs [go_sem, hX]
  refine CC.le (.cons (.agg (.cons (.refl _) (.cons ha.le .nil))) .nil) (CC.mono (snewest_cc _ _ d hl hc) ?_)
  rintro _ _ _ ⟨rfl, rfl, rfl⟩
  simp -implicitDefEqProofs [go_sem, hX]
  refine Wp.s ?_
  simp -implicitDefEqProofs [go_sem, hX]
  refine Fin.cut H.length V.length ⟨rfl, .v (.slice none 0 0), rfl, .inl ⟨rfl, rfl⟩, rfl, Nat.le_refl _⟩ (Nat.le_refl _) (Nat.le_refl _) (by rw [List.take_append_of_le_length (by simp), List.take_of_length_le (by simp)]) (List.take_of_length_le (Nat.le_refl _)) (.refl _) (okV_er _ _ _) ?_
  intro b cs hb
  by_cases hbX : b = X
  · subst hbX
    rw [List.getElem?_set_self hX] at hb
    simp at hb; subst hb
    rw [okL, okL, okL]
    exact ⟨okV_secsV _ _ _, by rw [okV]; trivial, trivial⟩
  · refine hok0 b cs ?_
    rw [List.getElem?_set_ne (fun e => hbX e.symm)] at hb ⊢
    exact hb
end Go.Proofs.YtbnkggbpocaaiaaGreatDoor
