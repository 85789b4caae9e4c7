import Derived.Test.YtmgoflhjblombaaGreatDoorA7
import Derived.Test.YtmgoflhjblombaaGreatDoorA5
import Derived.Test.YtmgoflhjblombaaGreatDoorA3
import Derived.ProofKit
import Derived.OpenShut
import Derived.Below
set_option linter.unusedSimpArgs false
set_option linter.unusedVariables false
set_option linter.unusedSectionVars false
namespace Go.Proofs.YtmgoflhjblombaaGreatDoor
open Go.Proofs
/-- What ref.Open answers, in two cases. -/
theorem openJ_bad {s c : Int} {d : Dk} (h : (rhead s c d).2.2 ≠ 0) : openJ s c d = (zjr, [], [], (rhead s c d).2.2) := by
  unfold rhead at h ⊢
  unfold openJ
  by_cases h1 : checkD d ≠ 0
  · rw [if_pos h1, if_pos h1]
  · rw [if_neg h1] at h ⊢
    rw [if_neg h1]
    by_cases h2 : validJ s c = false ∨ (d.stable.length : Int) < s + c
    · rw [if_pos h2, if_pos h2]
    · rw [if_neg h2] at h ⊢
      rw [if_neg h2, if_pos h]
theorem openJ_ok {s c : Int} {d : Dk} (h : (rhead s c d).2.2 = 0) : validJ s c = true ∧ (0 ≤ (rhead s c d).1 ∧ (rhead s c d).1 < c - 16 ∧ 1 ≤ (rhead s c d).2.1 ∧ (rhead s c d).2.1 ≤ 1073741824) ∧ ((readD d (s + 16) (c - 16)).1.length : Int) = c - 16 ∧
    openJ s c d = (jO s c (rhead s c d).1 (rhead s c d).2.1 (recsO (rhead s c d).2.1 (turnM (rhead s c d).1 (c - 16).toNat (readD d (s + 16) (c - 16)).1 (c - 16).toNat)),
      recsO (rhead s c d).2.1 (turnM (rhead s c d).1 (c - 16).toNat (readD d (s + 16) (c - 16)).1 (c - 16).toNat),
      remX (jO s c (rhead s c d).1 (rhead s c d).2.1 (recsO (rhead s c d).2.1 (turnM (rhead s c d).1 (c - 16).toNat (readD d (s + 16) (c - 16)).1 (c - 16).toNat))) (readD d (s + 16) (c - 16)).1, 0) := by
  by_cases h1 : checkD d ≠ 0
  · rw [rhead, if_pos h1] at h; exact absurd h h1
  by_cases h2 : validJ s c = false ∨ (d.stable.length : Int) < s + c
  · rw [rhead, if_neg h1, if_pos h2] at h; cases h
  have e : rhead s c d = headJ s c d := by rw [rhead, if_neg h1, if_neg h2]
  rw [e] at h ⊢
  have hh := headJ_ok h
  have hv : validJ s c = true := by
    cases hx : validJ s c with
    | true => rfl
    | false => exact absurd (.inl hx) h2
  have hvi := (validJ_iff s c).1 hv
  have hl : s + c ≤ (d.stable.length : Int) := by
    by_cases hq : (d.stable.length : Int) < s + c
    · exact absurd (.inr hq) h2
    · omega
  have hr : (readD d (s + 16) (c - 16)).2 = 0 := by
    rw [readD, if_neg h1, if_neg (by simp [insideB]; omega)]
  have hn : ((readD d (s + 16) (c - 16)).1.length : Int) = c - 16 := by
    have := readD_n hr (show c - 16 = (((c - 16).toNat : Nat) : Int) by omega)
    omega
  refine ⟨hv, hh, hn, ?_⟩
  unfold openJ
  rw [if_neg h1, if_neg h2, if_neg (by simp [h]), if_neg (by simp [hr])]
  dsimp only
  rw [if_neg]
  rw [chkJ_jO hv hh.1 hh.2.1 hh.2.2.1 hh.2.2.2 (by rw [turnM_len]; omega)]
  decide
/-- What is to be written, as it grows: a box that may be appended to, its last place's data under a token. -/
def Rep (j jv : Nat) (ops : List Opn) (cv : CV) (G : Hp) (W : List Nat) : Prop :=
  (ops = [] ∧ cv = .v (.slice none 0 0)) ∨ ∃ (A : List Opn) (a : Int) (K b k v : Nat), 0 < K ∧ ops = A ++ [opW a (List.replicate K sec0)] ∧ cv = .bsa b (A.length + 1) 3 ∧ j ≤ b ∧ jv ≤ k ∧ G[b]? = some (some ((A.map opC).flatten ++ [iv 0, iv a, .sl (.own k v) 8 ((List.replicate K sec0).map secC)])) ∧ W[k]? = some v
theorem take_hget {H G L : Hp} {n : Nat} (h : G.take (H.length + n) = H ++ L) (k : Nat) (hk : k < n) : G[H.length + k]? = L[k]? := by
  have := congrArg (fun l : Hp => l[H.length + k]?) h
  rw [List.getElem?_take, if_pos (by omega), hget] at this
  exact this
theorem flat_opC : ∀ A : List Opn, ((A.map opC).flatten).length = A.length * 3
  | [] => rfl
  | x :: A => by rw [List.map_cons, List.flatten_cons, List.length_append, flat_opC A, List.length_cons]; show 3 + _ = _; omega
theorem TokL.rfl' (k : Nat) : ∀ cs : List CV, TokL k cs cs
  | [] => trivial
  | c :: cs => ⟨.le (.refl c), TokL.rfl' k cs⟩
theorem TokL.app {k : Nat} {xs ys : List CV} : ∀ {cs ds : List CV}, TokL k cs ds → TokL k xs ys → TokL k (cs ++ xs) (ds ++ ys)
  | [], [], _, h => h
  | c :: cs, d :: ds, h, g => ⟨h.1, TokL.app h.2 g⟩
  | [], _ :: _, h, _ => h.elim
  | _ :: _, [], h, _ => h.elim
theorem noObj_ops (A : List Opn) : ∀ x ∈ (A.map opC).flatten, x.isObj = false := by
  intro x hx
  obtain ⟨l, hl, hx⟩ := List.mem_flatten.1 hx
  obtain ⟨o, ho, rfl⟩ := List.mem_map.1 hl
  rcases (show x = _ ∨ x = _ ∨ x = _ by simpa [opC, secsV] using hx) with rfl | rfl | rfl <;> rfl
theorem set_last (G : Hp) (b : Nat) (c : List CV) : (G.set b none ++ [some c])[G.length]? = some (some c) := by
  rw [List.getElem?_append_right (by simp)]; simp
theorem set_last2 (G : Hp) (b : Nat) (c d : List CV) : (G.set b none ++ [some c]).set G.length (some d) = G.set b none ++ [some d] := by
  rw [List.set_append_right _ _ (by simp)]; simp
theorem Fin.weak {nb nv : Nat} {R : CV → Hp → List Nat → Prop} {r : CV} {H : Hp} {V : List Nat} {b : Nat} {cs ds : List CV} (hb : H[b]? = some (some cs)) (h : LeL cs ds) (hno : ∀ x ∈ cs, x.isObj = false) (hf : Fin nb nv R r (H.set b (some ds)) V) : Fin nb nv R r H V := by
  obtain ⟨r', H', V', g, hR⟩ := hf
  exact ⟨r', H', V', Gst.trans (Gst.weak hb h hno) g, hR⟩
theorem chunks_ops : ∀ B : List Opn, chunks 3 B.length (B.map opC).flatten = B.map opC
  | [] => rfl
  | o :: B => by
    rw [List.length_cons, chunks, List.map_cons, List.flatten_cons]
    rw [show (opC o ++ (B.map opC).flatten).take 3 = opC o from rfl, show (opC o ++ (B.map opC).flatten).drop 3 = (B.map opC).flatten from rfl, chunks_ops B]
set_option maxRecDepth 8000 in
set_option maxHeartbeats 1600000 in
theorem refOpen_cc (H : Hp) (V : List Nat) (s c : Int) (d : Dk) (hl : DkS d) : CC Tryz.prog 11 [.agg (dkC d), .agg [iv s, iv c]] H V (Pu (opV (openJ s c d)) H V) := by
  refine CC.of_swp Tryz.func11 rfl (by kernel_rfl) (by rw [Tryz.ntmps11]; exact len_le _ _ rfl) fun hok hokH => ?_
  clear hok
  have bad : ∀ (e : Nat) (H' : Hp) (V' : List Nat), openJ s c d = (zjr, [], [], e) → H'.take H.length = H → V'.take V.length = V → Fin H.length V.length (Pu (opV (openJ s c d)) H V) (.tup [.agg zjC, .v (.slice none 0 0), .v (.slice none 0 0), er e]) H' V' := fun e H' V' h1 h2 h3 => by
    rw [h1]
    exact Fin.pu (.tup (.cons zj_le (.cons (.nil 3 (by decide)) (.cons (.nil 3 (by decide)) (.cons (.refl _) .nil))))) (okV_opV _ _ _) hokH h2 h3
  refine SWp.seq (Wp.s ?_)
  simp -implicitDefEqProofs [go_sem, args0]
  refine SWp.seq (Wp.s ?_)
  simp -implicitDefEqProofs [go_sem]
  refine CC.mono (refHead_cc _ _ s c d hl (loadS_len d s)) ?_
  rintro _ _ _ ⟨rfl, rfl, rfl⟩
  simp -implicitDefEqProofs [go_sem, hdV]
  refine SWp.seq (SWp.seq (Wp.s ?_))
  by_cases h0 : (rhead s c d).2.2 = 0
  case neg =>
    simp -implicitDefEqProofs [go_sem, h0]
    refine Wp.s ?_
    simp -implicitDefEqProofs [go_sem]
    exact bad _ _ _ (openJ_bad h0) (by simp) (by simp)
  obtain ⟨hv, hho, hct, e0⟩ := openJ_ok h0
  simp -implicitDefEqProofs [go_sem, h0]
  refine Wp.s ?_
  simp -implicitDefEqProofs [go_sem]
  generalize (rhead s c d).1 = hd at hho e0 ⊢
  generalize (rhead s c d).2.1 = fi at hho e0 ⊢
  have hvi := (validJ_iff s c).1 hv
  have wc : IntKind.i64.wrap (c - 16) = c - 16 := IntWalk.i64_in _ ⟨by omega, by omega⟩
  have ws : IntKind.i64.wrap (s + 16) = s + 16 := IntWalk.i64_in _ ⟨by omega, by omega⟩
  refine SWp.seq (Wp.s ?_)
  simp -implicitDefEqProofs [go_sem, wc]
  refine SWp.seq (Wp.s ?_)
  simp -implicitDefEqProofs [go_sem, ws]
  refine CC.mono (srRead_cc _ _ d ⟨s + 16, c - 16⟩ hl) ?_
  rintro _ _ _ ⟨rfl, rfl, rfl⟩
  simp -implicitDefEqProofs [go_sem]
  obtain ⟨n, hnn⟩ : ∃ n : Nat, c - 16 = (n : Int) := ⟨(c - 16).toNat, by omega⟩
  generalize (readD d (s + 16) (c - 16)).1 = ct at hct e0 ⊢
  generalize (readD d (s + 16) (c - 16)).2 = ec
  rw [show (c - 16).toNat = n by omega] at e0
  refine SWp.seq (Wp.s ?_)
  simp -implicitDefEqProofs [go_sem]
  have hctn : ct.length = n := by omega
  refine SWp.join (α := Nat) (fun v => ([(3, .ptr (H.length + 1) 0), (4, .ptr (H.length + 2) 0), (8, iv hd), (9, iv fi), (11, iv n), (12, secsV ct), (14, .sl (.own V.length v) 8 ((turnM hd n ct n).map secC))], H ++ [some (dkC d), some [iv s, iv c], some zjC], V ++ [v])) (fun _ => True) ?_ ?_
  · refine SWp.seq (Wp.s ?_)
    simp -implicitDefEqProofs [go_sem, hnn]
    refine SWp.block ?_
    refine SWp.loop (α := Nat × Nat) (fun x => ([(3, .ptr (H.length + 1) 0), (4, .ptr (H.length + 2) 0), (8, iv hd), (9, iv fi), (11, iv n), (12, secsV ct), (14, .sl (.own V.length x.2) 8 ((turnM hd n ct x.1).map secC)), (15, ci x.1)], H ++ [some (dkC d), some [iv s, iv c], some zjC], V ++ [x.2])) (fun x => x.1 ≤ n) (fun x => n - x.1) (0, 0) (Nat.zero_le _) (Sh.tokT (by simp [go_sem, hnn, turnM]) rfl rfl) ?_
    rintro ⟨i, v⟩ hi
    dsimp only at hi ⊢
    refine SWp.seq (SWp.seq (Wp.s ?_))
    by_cases h : i < n
    case neg =>
      simp -implicitDefEqProofs [go_sem, h]
      refine Wp.s ?_
      simp -implicitDefEqProofs [go_sem]
      obtain rfl : i = n := by omega
      exact ⟨v, Sh.forget (by simp [go_sem]) rfl rfl⟩
    have hq1 := Int.emod_nonneg (hd + (i : Int)) (show (n : Int) ≠ 0 by omega)
    have hq2 := Int.emod_lt_of_pos (hd + (i : Int)) (show 0 < (n : Int) by omega)
    have hmx := turnM_succ hd n ct i
    have hln := turnM_len hd n ct i
    generalize turnM hd n ct i = M at hmx hln ⊢
    have t5 := Int.tmod_eq_emod_of_nonneg (b := (n : Int)) (show 0 ≤ hd + (i : Int) by omega)
    have w1 : IntKind.i64.wrap (hd + (i : Int)) = hd + (i : Int) := IntWalk.i64_in _ ⟨by omega, by omega⟩
    obtain ⟨q, hqq⟩ : ∃ q : Nat, (hd + (i : Int)) % (n : Int) = (q : Int) := ⟨((hd + (i : Int)) % (n : Int)).toNat, by omega⟩
    rw [hqq] at hq1 hq2 hmx t5
    rw [Int.toNat_natCast] at hmx
    have hqc : q < ct.length := by omega
    have hgd : ct.getD q sec0 = ct[q] := by rw [List.getD_eq_getElem?_getD, List.getElem?_eq_getElem hqc]; rfl
    rw [hgd] at hmx
    have hn0 : ¬ (n : Int) = 0 := by omega
    simp -implicitDefEqProofs [go_sem, h]
    refine Wp.s ?_
    simp -implicitDefEqProofs [go_sem]
    refine SWp.seq (SWp.block (Wp.s ?_))
    simp -implicitDefEqProofs [go_sem, w1, t5, hqc, hn0]
    refine ⟨by omega, by omega, Wp.s ?_⟩
    simp -implicitDefEqProofs [go_sem, wrap_succ (show i ≤ 1000000000 by omega)]
    refine ⟨i + 1, by omega, by omega, v + 1, ?_⟩
    rw [hmx]
    exact Sh.forget (by simp [go_sem]) rfl (by simp)
  rintro v -
  dsimp only
  have htl := turnM_len hd n ct n
  generalize turnM hd n ct n = l at htl e0 ⊢
  refine SWp.seq (Wp.s ?_)
  simp -implicitDefEqProofs [go_sem]
  refine CC.le (.cons (.sh _ _ _) (.cons (.refl _) .nil)) ?_
  refine CC.mono (refScan_cc _ _ l fi (by omega) (by omega) (by omega)) ?_
  rintro _ _ _ ⟨rfl, rfl, rfl⟩
  simp -implicitDefEqProofs [go_sem, scV]
  have hR : recsO fi l = (scanA l fi).1.take (min (scanA l fi).1.length (1073741824 - fi).toNat) := rfl
  have hRl := recsO_le fi l
  have hsl : (scanA l fi).1.length ≤ l.length := scanX_len _ _ _
  have hck := chkJ_jO hv hho.1 hho.2.1 hho.2.2.1 hho.2.2.2 (l := l) (by omega)
  generalize (scanA l fi).1 = rs0 at hR hsl ⊢
  generalize (scanA l fi).2 = na
  obtain ⟨m, hm⟩ : ∃ m, m = min rs0.length (1073741824 - fi).toNat := ⟨_, rfl⟩
  have hml : m ≤ rs0.length := by omega
  rw [← hm] at hR
  rw [hR] at e0 hRl hck
  refine SWp.seq (Wp.s ?_)
  simp -implicitDefEqProofs [go_sem]
  refine SWp.join (α := Nat) (fun u => ([(3, .ptr (H.length + 1) 0), (4, .ptr (H.length + 2) 0), (8, iv hd), (9, iv fi), (11, iv n), (12, secsV ct), (16, .sl .sh 3 (rs0.map rcC)), (18, .ptr (H.length + 3) 0)], H ++ [some (dkC d), some [iv s, iv c], some zjC, some [iv s, iv c, iv hd, iv 0, iv fi, .sl (.own (V.length + 1) u) 1 ((szs (rs0.take m)).map ic)]], V ++ [v, u])) (fun _ => True) ?_ ?_
  · refine SWp.seq (Wp.s ?_)
    simp -implicitDefEqProofs [go_sem]
    refine SWp.block ?_
    refine SWp.loop (α := Nat × Nat) (fun x => ([(3, .ptr (H.length + 1) 0), (4, .ptr (H.length + 2) 0), (8, iv hd), (9, iv fi), (11, iv n), (12, secsV ct), (16, .sl .sh 3 (rs0.map rcC)), (18, .ptr (H.length + 3) 0), (19, ci x.1)], H ++ [some (dkC d), some [iv s, iv c], some zjC, some [iv s, iv c, iv hd, iv 0, iv fi, .sl (.own (V.length + 1) x.2) 1 ((szs (rs0.take x.1)).map ic)]], V ++ [v, x.2])) (fun x => x.1 ≤ m) (fun x => m - x.1) (0, 0) (Nat.zero_le _) (Sh.tokL (b := H.length + 3) (ds := [iv s, iv c, iv hd, iv 0, iv fi, .sl (.own (V.length + 1) 0) 1 []]) (by rw [hget]; rfl) (by simp [go_sem]) (by simp [CV.isObj]) (by simp [go_sem]) (by simp [szs]) (by simp)) ?_
    rintro ⟨i, u⟩ hi
    dsimp only at hi ⊢
    have w1 : IntKind.i64.wrap (fi + (i : Int)) = fi + (i : Int) := IntWalk.i64_in _ ⟨by omega, by omega⟩
    refine SWp.seq (SWp.seq (Wp.s ?_))
    by_cases h : i < m
    case neg =>
      obtain rfl : i = m := by omega
      by_cases h5 : i < rs0.length
      · have h6 : ¬ fi + (i : Int) < 1073741824 := by omega
        simp -implicitDefEqProofs [go_sem, h5, w1, h6]
        refine Wp.s ?_
        simp -implicitDefEqProofs [go_sem]
        exact ⟨u, Sh.forget (by simp [go_sem]) rfl rfl⟩
      · simp -implicitDefEqProofs [go_sem, h5]
        refine Wp.s ?_
        simp -implicitDefEqProofs [go_sem]
        exact ⟨u, Sh.forget (by simp [go_sem]) rfl rfl⟩
    have h5 : i < rs0.length := by omega
    have h6 : fi + (i : Int) < 1073741824 := by omega
    have hsn := szs_snoc rs0 i h5
    have hsx := szR_in (rs0[i].pay.length : Int)
    have hlz : (szs (rs0.take i)).length = i := by rw [szs, List.length_map, List.length_take]; omega
    simp -implicitDefEqProofs [go_sem, h5, w1, h6]
    refine Wp.s ?_
    simp -implicitDefEqProofs [go_sem]
    refine SWp.seq (SWp.block ?_)
    refine SWp.drawnT [] [12] (.s 0 .pl <| .s 1 .pl <| .s 2 .pl <| .s 3 .pl <| .s 4 .pl <| .s 5 .pl <| .s 6 .pl <| .s 7 .pl <| .s 8 .pl <| .s 9 .pl <| .s 10 .pl <| .s 11 .pl <| .s 12 .st <| .n) (by kernel_rfl) (by kernel_rfl) ?_
    simp -implicitDefEqProofs [go_sem, h5]
    refine CC.mono (refSize_cc _ _ _) ?_
    rintro _ _ _ ⟨rfl, rfl, rfl⟩
    simp -implicitDefEqProofs [go_sem]
    generalize szR (rs0[i].pay.length : Int) = sz at hsn hsx ⊢
    refine ⟨by omega, Wp.s ?_⟩
    simp -implicitDefEqProofs [go_sem, wrap_succ (show i ≤ 1000000000 by omega)]
    refine ⟨i + 1, by omega, by omega, u + 1, ?_⟩
    rw [hsn]
    exact Sh.forget (by simp [go_sem]) (by simp [ic]) (by simp)
  rintro u -
  dsimp only
  have hrs : (rs0.take m).length = m := by rw [List.length_take]; omega
  obtain ⟨rs, hrsd⟩ : ∃ rs, rs = rs0.take m := ⟨_, rfl⟩
  have hlz : (szs rs).length = m := by rw [szs, List.length_map, hrsd, hrs]
  have emap : List.take m (rs0.map rcC) = rs.map rcC := by rw [hrsd, List.map_take]
  rw [← hrsd] at e0 hRl hck ⊢
  have hmm : m ≤ (rs0.map rcC).length := by simpa using hml
  refine SWp.seq (Wp.s ?_)
  simp -implicitDefEqProofs [go_sem, hlz]
  refine ⟨hml, ?_⟩
  rw [emap]
  obtain ⟨J, hJd⟩ : ∃ J, J = jO s c hd fi rs := ⟨_, rfl⟩
  rw [← hJd] at e0 hck
  have hJz : J.sizes = szs rs := by rw [hJd]; rfl
  have hsu := chkJ_sum hck
  have hci := (chkJ_iff J).1 hck
  have htx := tailX_sum (n := c - 16) (h := hd) (by omega) hho.1 hho.2.1 (szs rs)
  have hlm : m ≤ 4096 := by omega
  rw [hJz, hlz] at hsu
  refine SWp.seq (Wp.s ?_)
  simp -implicitDefEqProofs [go_sem]
  refine CC.le (.cons (.sh _ _ _) .nil) ?_
  refine CC.mono (sum_cc _ _ (szs rs) (by rw [← hJz]; exact hci.2.2.1) (by omega)) ?_
  rintro _ _ _ ⟨rfl, rfl, rfl⟩
  have hcJ : J.count = c := by rw [hJd]; rfl
  rw [hcJ, hnn] at hsu
  rw [hnn] at htx
  have hn0 : ¬ (n : Int) = 0 := by omega
  have w2 : IntKind.i64.wrap (hd + sumI (szs rs)) = hd + sumI (szs rs) := IntWalk.i64_in _ ⟨by omega, by omega⟩
  have t2 := Int.tmod_eq_emod_of_nonneg (b := (n : Int)) (show 0 ≤ hd + sumI (szs rs) by omega)
  simp -implicitDefEqProofs [go_sem, w2, t2, hn0]
  refine ⟨by omega, ?_⟩
  refine SWp.seq (Wp.s ?_)
  simp -implicitDefEqProofs [go_sem]
  refine SWp.seq (Wp.s ?_)
  simp -implicitDefEqProofs [go_sem]
  have hJc : [iv s, iv c, iv hd, iv ((hd + sumI (szs rs)) % (n : Int)), iv fi, .sl .sh 1 ((szs rs).map ic)] = jrC J := by rw [hJd, jO, hnn, htx]; rfl
  refine SWp.join (α := Int × CV × Hp × List Nat) (fun x => ([(4, .ptr (H.length + 2) 0), (16, .sl .sh 3 (rs.map rcC)), (18, .ptr (H.length + 3) 0), (20, x.2.1)], x.2.2.1, x.2.2.2))
    (fun x => ∃ ops, Grp s (mkJ J ct) n ops x.1 ∧ ops.length ≤ n ∧ Rep (H.length + 4) V.length ops x.2.1 x.2.2.1 x.2.2.2 ∧ x.2.2.1.take (H.length + 4) = H ++ [some (dkC d), some [iv s, iv c], some zjC, some (jrC J)] ∧ V.length ≤ x.2.2.2.length ∧ x.2.2.2.take V.length = V) ?_ ?_
  · refine SWp.seq (Wp.s ?_)
    simp -implicitDefEqProofs [go_sem]
    refine SWp.block ?_
    refine SWp.loop (α := Nat × Int × CV × Hp × List Nat) (fun x => ([(3, .ptr (H.length + 1) 0), (4, .ptr (H.length + 2) 0), (8, iv hd), (9, iv fi), (11, iv n), (12, secsV ct), (16, .sl .sh 3 (rs.map rcC)), (18, .ptr (H.length + 3) 0), (20, x.2.2.1), (21, iv x.2.1), (22, ci x.1)], x.2.2.2.1, x.2.2.2.2))
      (fun x => x.1 ≤ n ∧ (-2 ≤ x.2.1 ∧ x.2.1 ≤ n) ∧ ∃ ops, Grp s (mkJ J ct) x.1 ops x.2.1 ∧ ops.length ≤ x.1 ∧ Rep (H.length + 4) V.length ops x.2.2.1 x.2.2.2.1 x.2.2.2.2 ∧ x.2.2.2.1.take (H.length + 4) = H ++ [some (dkC d), some [iv s, iv c], some zjC, some (jrC J)] ∧ V.length ≤ x.2.2.2.2.length ∧ x.2.2.2.2.take V.length = V)
      (fun x => n - x.1) (0, -2, .v (.slice none 0 0), H ++ [some (dkC d), some [iv s, iv c], some zjC, some (jrC J)], V ++ [v, u]) ⟨Nat.zero_le _, ⟨show (-2 : Int) ≤ -2 by omega, show (-2 : Int) ≤ n by omega⟩, [], Grp.new _ _, Nat.zero_le _, .inl ⟨rfl, rfl⟩, by simp, by simp, by simp⟩ ?_ ?_
    · refine Sh.weak (b := H.length + 3) (ds := jrC J) (by rw [hget]; rfl) ?_ (by simp [CV.isObj]) (Sh.forget (by simp [go_sem]) (by simp) rfl)
      rw [← hJc]
      exact .cons (.refl _) (.cons (.refl _) (.cons (.refl _) (.cons (.refl _) (.cons (.refl _) (.cons (.sh _ _ _) .nil)))))
    rintro ⟨i, la, cv, G, W⟩ ⟨hi, ⟨hla1, hla2⟩, ops, hg, hol, hrep, hG, hW1, hW2⟩
    dsimp only at hi hla1 hla2 hg hol hrep hG hW1 hW2 ⊢
    refine SWp.seq (SWp.seq (Wp.s ?_))
    by_cases h : i < n
    case neg =>
      simp -implicitDefEqProofs [go_sem, h]
      refine Wp.s ?_
      simp -implicitDefEqProofs [go_sem]
      obtain rfl : i = n := by omega
      exact ⟨la, cv, G, W, ⟨ops, hg, hol, hrep, hG, hW1, hW2⟩, Sh.forget (by simp [go_sem]) rfl rfl⟩
    have hG1 : G[H.length + 1]? = some (some [iv s, iv c]) := take_hget hG 1 (by decide)
    have hG3 : G[H.length + 3]? = some (some (jrC J)) := take_hget hG 3 (by decide)
    have w3 : IntKind.i64.wrap ((i : Int) - hd) = (i : Int) - hd := IntWalk.i64_in _ ⟨by omega, by omega⟩
    have w4 : IntKind.i64.wrap ((i : Int) - hd + n) = (i : Int) - hd + n := IntWalk.i64_in _ ⟨by omega, by omega⟩
    have t4 := Int.tmod_eq_emod_of_nonneg (b := (n : Int)) (show 0 ≤ (i : Int) - hd + n by omega)
    simp -implicitDefEqProofs [go_sem, h]
    refine Wp.s ?_
    simp -implicitDefEqProofs [go_sem]
    refine SWp.seq (SWp.block (SWp.seq (SWp.seq ?_)))
    refine SWp.drawnT [] [] (.s 0 .pl <| .s 1 .pl <| .s 2 .pl <| .s 3 .pl <| .s 4 .pl <| .s 5 .pl <| .s 6 .pl <| .s 7 .pl <| .s 8 .pl <| .s 9 .pl <| .s 10 .pl <| .s 11 .pl <| .s 12 .pl <| .s 13 .pl <| .s 14 .pl <| .s 15 .pl <| .s 18 .pl <| .s 19 .pl <| .s 20 .pl <| .s 21 .pl <| .s 22 .pl <| .s 16 .pl <| .s 17 .pl <| .s 23 .pl <| .s 24 .pl <| .n) (by kernel_rfl) (by kernel_rfl) ?_
    simp -implicitDefEqProofs [go_sem, w3, w4, t4, hn0, hbx_of hG3]
    refine ⟨by omega, ?_⟩
    refine CC.mono (sum_cc _ _ J.sizes hci.2.2.1 (by rw [hJz, hlz]; omega)) ?_
    rintro _ _ _ ⟨rfl, rfl, rfl⟩
    have hnx : nextJ J = fi + m := by rw [nextJ, hJz, hlz, hJd]; rfl
    have hmk := mkJ_get hck (ct := ct) (by rw [hcJ]; exact hnn) i h
    have hict : i < ct.length := by omega
    have hgd : ct.getD i sec0 = ct[i] := by rw [List.getD_eq_getElem?_getD, List.getElem?_eq_getElem hict]; rfl
    have hJh : J.head = hd := by rw [hJd]; rfl
    rw [hgd, hnx, hJh, Int.add_emod_right] at hmk
    have hmn : (mkJ J ct).length = n := by rw [mkJ_len, hcJ, hnn]; rfl
    by_cases hc1 : ((i : Int) - hd) % n < sumI J.sizes
    · rw [decide_eq_true hc1] at hmk
      simp -implicitDefEqProofs [go_sem, hc1]
      refine Wp.s ?_
      simp -implicitDefEqProofs [go_sem]
      refine Wp.s ?_
      simp -implicitDefEqProofs [go_sem]
      refine ⟨i + 1, la, cv, G, W, ⟨by omega, ⟨hla1, hla2⟩, ops, hg.no hmk, by omega, hrep, hG, hW1, hW2⟩, by omega, Sh.forget ?_ rfl rfl⟩
      simp [go_sem, wrap_succ (show i ≤ 1000000000 by omega)]
    rw [decide_eq_false hc1] at hmk
    have hgl := gn_lt ct[i]
    have w5 : IntKind.i64.wrap (fi + (m : Int)) = fi + (m : Int) := IntWalk.i64_in _ ⟨by omega, by omega⟩
    have w6 : IntKind.i64.wrap (gn ct[i] : Int) = (gn ct[i] : Int) := IntWalk.i64_in _ ⟨by omega, by omega⟩
    have hJl : J.sizes.length = m := by rw [hJz, hlz]
    simp -implicitDefEqProofs [go_sem, hc1, hict, hbx_of hG3, hJl]
    refine CC.mono (sGeneration_cc _ _ ct[i]) ?_
    rintro _ _ _ ⟨rfl, rfl, rfl⟩
    by_cases hc2 : (gn ct[i] : Int) < fi + m
    · rw [decide_eq_true hc2] at hmk
      simp -implicitDefEqProofs [go_sem, w5, w6, hc2]
      refine Wp.s ?_
      simp -implicitDefEqProofs [go_sem]
      refine Wp.s ?_
      simp -implicitDefEqProofs [go_sem]
      refine ⟨i + 1, la, cv, G, W, ⟨by omega, ⟨hla1, hla2⟩, ops, hg.no hmk, by omega, hrep, hG, hW1, hW2⟩, by omega, Sh.forget ?_ rfl rfl⟩
      simp [go_sem, wrap_succ (show i ≤ 1000000000 by omega)]
    rw [decide_eq_false hc2] at hmk
    simp -implicitDefEqProofs [go_sem, w5, w6, hc2]
    refine Wp.s ?_
    simp -implicitDefEqProofs [go_sem]
    refine SWp.seq (SWp.seq (Wp.s ?_))
    have w7 : IntKind.i64.wrap (la + 1) = la + 1 := IntWalk.i64_in _ ⟨by omega, by omega⟩
    by_cases hc3 : (i : Int) = la + 1
    · obtain ⟨A, p, K, hK, hpK, hops, hg2⟩ := hg.more hmk hc3
      obtain rfl : la = (i : Int) - 1 := by omega
      have w7 : IntKind.i64.wrap (i : Int) = (i : Int) := IntWalk.i64_in _ ⟨by omega, by omega⟩
      rcases hrep with ⟨ho, _⟩ | ⟨A', a', K', b, k, v', hK', ho, hcv, hb, hk, hGb, hWk⟩
      · rw [ho] at hops; exact absurd hops (by simp)
      have hin := hops.symm.trans ho
      obtain ⟨e1, e2⟩ := List.append_inj' hin rfl
      have e3 : K = K' := by
        have := congrArg (fun l : List Opn => l.map fun x => x.data.length) e2
        simpa [opW] using this
      have e4 : s + 16 + (p : Int) = a' := by
        have := congrArg (fun l : List Opn => l.map fun x => x.pos) e2
        simpa [opW] using this
      subst e1 e3 e4 hcv
      have hXl := flat_opC A
      have hol2 : A.length + 1 ≤ i := by rw [ho] at hol; simpa using hol
      obtain ⟨X, hX⟩ : ∃ X, X = (A.map opC).flatten := ⟨_, rfl⟩
      rw [← hX] at hGb hXl
      have w8 : IntKind.i64.wrap (A.length : Int) = (A.length : Int) := IntWalk.i64_in _ ⟨by omega, by omega⟩
      rw [List.map_replicate] at hGb
      have hgx : ∀ (D : CV) (h : A.length * 3 + 2 < (X ++ [iv 0, iv (s + 16 + (p : Int)), D]).length), (X ++ [iv 0, iv (s + 16 + (p : Int)), D])[A.length * 3 + 2] = D := fun D h => by
        rw [List.getElem_append_right (by omega)]
        simp [hXl]
      have htk : ∀ (D : CV), (X ++ [iv 0, iv (s + 16 + (p : Int)), D]).take (A.length * 3 + 2) = X ++ [iv 0, iv (s + 16 + (p : Int))] := fun D => by
        rw [List.take_append, List.take_of_length_le (by omega), hXl, Nat.add_sub_cancel_left]; rfl
      have hdr : ∀ (D : CV), (X ++ [iv 0, iv (s + 16 + (p : Int)), D]).drop (A.length * 3 + 2 + 1) = [] := fun D => List.drop_eq_nil_of_le (by simp [hXl])
      simp -implicitDefEqProofs [go_sem, w7]
      refine Wp.s ?_
      simp -implicitDefEqProofs [go_sem, w8, hbx_of hGb, hgx, hWk, htk, hdr, hXl]
      refine ⟨by omega, by omega, by omega, ?_⟩
      refine Wp.s ?_
      simp -implicitDefEqProofs [go_sem]
      refine Wp.s ?_
      simp -implicitDefEqProofs [go_sem]
      have hbG : b < G.length := (List.getElem?_eq_some_iff.1 hGb).1
      have hkW : k < W.length := (List.getElem?_eq_some_iff.1 hWk).1
      refine ⟨i + 1, i, .bsa b (A.length + 1) 3, _, W.set k (v' + 1), ⟨by omega, ⟨by omega, by omega⟩, _, hg2, by simpa using by omega, .inr ⟨A, _, K + 1, b, k, v' + 1, by omega, rfl, rfl, hb, hk, by rw [List.getElem?_set_self hbG], List.getElem?_set_self hkW⟩, by rw [List.take_set_of_le hb]; exact hG, by simpa using hW1, by rw [List.take_set_of_le hk]; exact hW2⟩, by omega, Sh.forget ?_ ?_ rfl⟩
      · simp [go_sem, wrap_succ (show i ≤ 1000000000 by omega)]
      · rw [hX, List.map_replicate, List.replicate_succ']
        rfl
    have hGl : H.length + 4 ≤ G.length := by
      have := congrArg List.length hG
      simp at this; omega
    have hi2 : IntKind.i64.wrap (s + 16 + (i : Int)) = s + 16 + (i : Int) := IntWalk.i64_in _ ⟨by omega, by omega⟩
    have hg2 := hg.open hmk hc3
    rcases hrep with ⟨ho, hcv⟩ | ⟨A, a', K, b, k, v', hK, ho, hcv, hb, hk, hGb, hWk⟩
    · subst ho hcv
      simp -implicitDefEqProofs [go_sem, w7, hc3]
      refine SWp.condF (by simp [go_sem]) ?_
      refine SWp.opx (pre := [_, _, _, _, _, _, _, _, _, _]) (post := [_]) rfl (by intro c e; cases e) ?_
      simp -implicitDefEqProofs [go_sem, hbx_of hG1, ws, hi2]
      refine ⟨_, _, _, appboxN (sz := 3) (tk := .ti) (ys := [[iv 0, iv (s + 16 + (i : Int)), .sl .ti 8 [secC sec0]]]) slTy34 slTy34 (by decide) rfl rfl (by simp) (by simp), ?_⟩
      simp -implicitDefEqProofs [go_sem]
      refine Wp.s ?_
      simp -implicitDefEqProofs [go_sem]
      refine Wp.s ?_
      simp -implicitDefEqProofs [go_sem]
      refine ⟨i + 1, i, .bsa G.length 1 3, G ++ [some [iv 0, iv (s + 16 + (i : Int)), .sl (.own W.length 0) 8 [secC sec0]]], W ++ [0], ⟨by omega, ⟨by omega, by omega⟩, _, hg2, by simp, .inr ⟨[], _, 1, G.length, W.length, 0, by omega, rfl, rfl, by omega, by omega, by simp, at_len _ _⟩, ?_, by simp; omega, by rw [List.take_append_of_le_length hW1]; exact hW2⟩, by omega, Sh.tokL (b := G.length) (ds := [iv 0, iv (s + 16 + (i : Int)), .sl (.own W.length 0) 8 [secC sec0]]) (at_len _ _) ⟨.le (.refl _), .le (.refl _), .ti, trivial⟩ ?_ ?_ (by simp) rfl⟩
      · rw [List.take_append_of_le_length hGl]; exact hG
      · simp [CV.isObj]
      · simp [go_sem, wrap_succ (show i ≤ 1000000000 by omega)]
    · subst hcv
      have hol2 : A.length + 1 ≤ i := by rw [ho] at hol; simpa using hol
      have hXl := flat_opC A
      obtain ⟨X, hX⟩ : ∃ X, X = (A.map opC).flatten := ⟨_, rfl⟩
      rw [← hX] at hGb hXl
      have hbG : b < G.length := (List.getElem?_eq_some_iff.1 hGb).1
      simp -implicitDefEqProofs [go_sem, w7, hc3]
      refine Wp.s ?_
      simp -implicitDefEqProofs [go_sem, hbx_of hG1, hbx_of hGb, ws, hi2, hXl]
      refine ⟨by omega, by omega, ?_⟩
      refine Wp.s ?_
      simp -implicitDefEqProofs [go_sem]
      refine Wp.s ?_
      simp -implicitDefEqProofs [go_sem]
      refine ⟨i + 1, i, .bsa G.length (A.length + 1 + 1) 3, G.set b none ++ [some (X ++ [iv 0, iv a', .sl .sh 8 (List.replicate K (secC sec0)), iv 0, iv (s + 16 + (i : Int)), .sl (.own W.length 0) 8 [secC sec0]])], W ++ [0], ⟨by omega, ⟨by omega, by omega⟩, _, hg2, by simpa using hol, .inr ⟨A ++ [opW a' (List.replicate K sec0)], _, 1, G.length, W.length, 0, by omega, by rw [ho], by rw [List.length_append]; rfl, by omega, by omega, ?_, at_len _ _⟩, ?_, by simp; omega, by rw [List.take_append_of_le_length hW1]; exact hW2⟩, by omega, Sh.tokL (b := G.length) (ds := X ++ [iv 0, iv a', .sl .sh 8 (List.replicate K (secC sec0)), iv 0, iv (s + 16 + (i : Int)), .sl (.own W.length 0) 8 [secC sec0]]) (set_last _ _ _) (.app (.rfl' _ _) ⟨.le (.refl _), .le (.refl _), .le (.sh _ _ _), .le (.refl _), .le (.refl _), .ti, trivial⟩) ?_ ?_ (set_last2 _ _ _ _) rfl⟩
      · rw [set_last, List.map_append, List.flatten_append, hX, List.append_assoc, show (List.map opC [opW a' (List.replicate K sec0)]).flatten = [iv 0, iv a', .sl .sh 8 ((List.replicate K sec0).map secC)] from rfl, List.map_replicate]
        rfl
      · rw [List.take_append_of_le_length (by simp; omega), List.take_set_of_le hb]; exact hG
      · intro x hx
        rcases List.mem_append.1 hx with hx | hx
        · exact noObj_ops A x (hX ▸ hx)
        · simp only [List.mem_cons, List.not_mem_nil, or_false] at hx
          rcases hx with rfl | rfl | rfl | rfl | rfl | rfl <;> rfl
      · simp [go_sem, wrap_succ (show i ≤ 1000000000 by omega)]
  rintro ⟨la, cv, G, W⟩ ⟨ops, hg, hol, hrep, hG, hW1, hW2⟩
  dsimp only at hg hol hrep hG hW1 hW2 ⊢
  have hG2 : G[H.length + 2]? = some (some zjC) := take_hget hG 2 (by decide)
  have hG3 : G[H.length + 3]? = some (some (jrC J)) := take_hget hG 3 (by decide)
  have hGl : H.length + 4 ≤ G.length := by
    have := congrArg List.length hG
    simp at this; omega
  have hGH : G.take H.length = H := by
    have := congrArg (List.take H.length) hG
    rwa [List.take_take, Nat.min_eq_left (by omega), List.take_left] at this
  have hR := remX_eq J ct
  rw [show J.start = s by rw [hJd]; rfl, hg.stop (by rw [mkJ_len, hcJ, hnn]; simp)] at hR
  refine SWp.seq (SWp.seq (Wp.s ?_))
  rcases hrep with ⟨ho, hcv⟩ | ⟨A, a', K, b, k, v', hK, ho, hcv, hb, hk, hGb, hWk⟩
  · subst ho hcv
    rw [if_pos rfl] at hR
    rw [hR] at e0
    simp -implicitDefEqProofs [go_sem]
    refine Wp.s ?_
    simp -implicitDefEqProofs [go_sem]
    refine Wp.s ?_
    simp -implicitDefEqProofs [go_sem, hbx_of hG2, hbx_of hG3]
    rw [hbx_of (List.getElem?_set_self (by omega))]
    refine ⟨by simp, ?_⟩
    rw [e0, jrC_take]
    exact Fin.pu (.tup (.cons (.refl _) (.cons (.refl _) (.cons (.nil 3 (by decide)) (.cons (.refl _) .nil))))) (okV_opV _ _ _) hokH (by rw [List.take_set_of_le (by omega)]; exact hGH) hW2
  · subst hcv
    have hXl := flat_opC A
    obtain ⟨X, hX⟩ : ∃ X, X = (A.map opC).flatten := ⟨_, rfl⟩
    rw [← hX] at hGb hXl
    have hbG : b < G.length := (List.getElem?_eq_some_iff.1 hGb).1
    have hol2 : A.length + 1 ≤ n := by rw [ho] at hol; simpa using hol
    rw [if_neg (by rw [ho]; simp)] at hR
    rw [hR] at e0
    have hS2 : ∀ (z : List CV) (K : List CV → Prop), hbx (G.set b none ++ [some z]) (H.length + 2) K = K zjC := fun z K => hbx_of (by rw [List.getElem?_append_left (by simp; omega), List.getElem?_set_ne (by omega)]; exact hG2) K
    have hS3 : ∀ (z : List CV) (K : List CV → Prop), hbx (G.set b none ++ [some z]) (H.length + 3) K = K (jrC J) := fun z K => hbx_of (by rw [List.getElem?_append_left (by simp; omega), List.getElem?_set_ne (by omega)]; exact hG3) K
    simp -implicitDefEqProofs [go_sem]
    refine Wp.s ?_
    simp -implicitDefEqProofs [go_sem, hbx_of hGb, hXl]
    refine ⟨by omega, by omega, ?_⟩
    refine Wp.s ?_
    simp -implicitDefEqProofs [go_sem, hS2, hS3]
    rw [hbx_of (List.getElem?_set_self (by simp; omega))]
    refine ⟨by simp, ?_⟩
    rw [e0, jrC_take]
    have hbb : b ≠ G.length := by omega
    have hlast : ∀ (z : List CV), ((G.set b none ++ [some z]).set (H.length + 2) (some (jrC J)))[G.length]? = some (some z) := fun z => by
      rw [List.getElem?_set_ne (by omega)]; exact set_last G b z
    have hops : (ops ++ [opS]).length = A.length + 1 + 1 := by rw [ho]; simp
    have hflat : ((ops ++ [opS]).map opC).flatten = X ++ [iv 0, iv a', .sl .sh 8 (List.replicate K (secC sec0)), iv 1, iv 0, .sl .sh 8 []] := by
      rw [ho, hX, List.map_append, List.map_append, List.flatten_append, List.flatten_append, show (List.map opC [opW a' (List.replicate K sec0)]).flatten = [iv 0, iv a', .sl .sh 8 ((List.replicate K sec0).map secC)] from rfl, List.map_replicate, List.append_assoc]
      rfl
    refine Fin.weak (b := G.length) (ds := ((ops ++ [opS]).map opC).flatten) (hlast _) (by rw [hflat]; exact LeL.app (LeL.rfl' _) (.cons (.refl _) (.cons (.refl _) (.cons (.sh _ _ _) (.cons (.refl _) (.cons (.refl _) (.cons (.nil 8 (by decide)) .nil)))))))
      (fun x hx => by
        rcases List.mem_append.1 hx with hx | hx
        · exact noObj_ops A x (hX ▸ hx)
        · simp only [List.mem_cons, List.not_mem_nil, or_false] at hx
          rcases hx with rfl | rfl | rfl | rfl | rfl | rfl <;> rfl) ?_
    have hGs : (((G.set b none ++ [some (X ++ [iv 0, iv a', .sl (.own k v') 8 (List.replicate K (secC sec0)), iv 1, iv 0, .v (.slice none 0 0)])]).set (H.length + 2) (some (jrC J))).length) = G.length + 1 := by simp
    refine Fin.frozG (b := G.length) (cs := ((ops ++ [opS]).map opC).flatten) (r1 := .tup [.agg (jrC J), .sl .sh 3 (rs.map rcC), .bsl G.length 0 (ops ++ [opS]).length 3, er 0]) (r2 := opV (J, rs, ops ++ [opS], 0)) ⟨rfl, rfl, rfl⟩ ?_ (List.getElem?_set_self (by rw [hGs]; omega)) ?_ (by omega) (okV_opV _ _ _) hokH ?_ hW2
    · rw [hops]
      exact .tup (.cons (.refl _) (.cons (.refl _) (.cons (.bsa _ _ _) (.cons (.refl _) .nil))))
    · have := Fz.bsl (b := G.length) (cs := ((ops ++ [opS]).map opC).flatten) 0 (ops ++ [opS]).length 3 (by rw [flat_opC]; omega)
      rw [List.drop_zero, chunks_ops] at this
      exact .tup (.cons (.refl _) (.cons (.refl _) (.cons this (.cons (.refl _) .nil))))
    · rw [List.take_set_of_le (by omega), List.take_set_of_le (by omega), List.take_append_of_le_length (by simp; omega), List.take_set_of_le (by omega)]
      exact hGH
end Go.Proofs.YtmgoflhjblombaaGreatDoor
namespace Go.Proofs.YtmgoflhjblombaaGreatDoor
open Go.Proofs
theorem runsX_bd (s : Int) : ∀ (f : Nat) (M : List Bool) (p : Nat), (runsX s f M p).length ≤ f ∧ ∀ o ∈ runsX s f M p, o.data.length ≤ M.length
  | 0, M, p => ⟨Nat.le_refl _, fun o h => by cases h⟩
  | f + 1, M, p => by
    rw [runsX]
    split
    · exact ⟨Nat.zero_le _, fun o h => by cases h⟩
    · split
      · have := runsX_bd s f M (p + 1)
        exact ⟨by omega, this.2⟩
      · have := runsX_bd s f M (p + runL (M.drop p) + 1)
        refine ⟨by rw [List.length_cons]; omega, fun o h => ?_⟩
        rcases List.mem_cons.1 h with rfl | h
        · show (List.replicate _ _).length ≤ _
          have := runL_le (M.drop p)
          rw [List.length_drop] at this
          rw [List.length_replicate]; omega
        · exact this.2 o h
theorem remX_bd {j : Jrn} {ct : List Sec} (h : j.count ≤ 4096) : (remX j ct).length ≤ 900000 ∧ ∀ o ∈ remX j ct, o.data.length ≤ 900000 := by
  have hb := runsX_bd j.start ((mkJ j ct).length + 1) (mkJ j ct) 0
  have hl := mkJ_len j ct
  rw [remX_eq]
  split
  · exact ⟨Nat.zero_le _, fun o h => by cases h⟩
  · refine ⟨by rw [List.length_append]; show _ + 1 ≤ _; omega, fun o ho => ?_⟩
    rcases List.mem_append.1 ho with ho | ho
    · have := hb.2 o ho; omega
    · obtain rfl : o = opS := by simpa using ho
      exact Nat.zero_le _
theorem openJ_bd (s c : Int) (d : Dk) : (openJ s c d).1.sizes.length ≤ 1000000000 ∧ (openJ s c d).2.1.length ≤ 1000000 ∧ (openJ s c d).2.2.1.length ≤ 900000000 ∧ ∀ o ∈ (openJ s c d).2.2.1, o.data.length ≤ 900000000 := by
  by_cases h : (rhead s c d).2.2 = 0
  case neg => rw [openJ_bad h]; exact ⟨Nat.zero_le _, Nat.zero_le _, Nat.zero_le _, fun o h => by cases h⟩
  obtain ⟨hv, -, -, e⟩ := openJ_ok h
  rw [e]
  have hvi := (validJ_iff s c).1 hv
  have hr := recsO_le (rhead s c d).2.1 (turnM (rhead s c d).1 (c - 16).toNat (readD d (s + 16) (c - 16)).1 (c - 16).toNat)
  rw [turnM_len] at hr
  have hb := remX_bd (j := jO s c (rhead s c d).1 (rhead s c d).2.1 (recsO (rhead s c d).2.1 (turnM (rhead s c d).1 (c - 16).toNat (readD d (s + 16) (c - 16)).1 (c - 16).toNat))) (ct := (readD d (s + 16) (c - 16)).1) (show c ≤ 4096 by omega)
  refine ⟨?_, ?_, ?_, fun o ho => ?_⟩
  · show (szs _).length ≤ _
    rw [szs, List.length_map]; omega
  · show (recsO _ _).length ≤ _; omega
  · show (remX _ _).length ≤ _; omega
  · have := hb.2 o ho; omega
set_option maxRecDepth 8000 in
theorem Opens_law (H : Hp) (V : List Nat) (d : Dk) (s c : Int) : CC Tryz.prog 3 [.agg (dkC d), .agg [iv s, iv c]] H V (Pu (cb true) H V) := by
  refine CC.of_swp Tryz.func3 rfl (by kernel_rfl) (by rw [Tryz.ntmps3]; exact len_le _ _ rfl) fun hok hokH => ?_
  clear hok
  obtain ⟨o1, o2, o3, o4⟩ := openJ_bd s c d
  refine SWp.seq (Wp.s ?_)
  simp -implicitDefEqProofs [go_sem, args0]
  refine SWp.join (α := Unit) (fun _ => ([(2, .ptr H.length 0), (3, .ptr (H.length + 1) 0)], H ++ [some (dkC d), some [iv s, iv c]], V)) (fun _ => d.stable.length ≤ 120 ∧ d.cache.length ≤ 60) ?_ ?_
  · refine SWp.seq (Wp.s ?_)
    simp -implicitDefEqProofs [go_sem]
    refine CC.le (ys := [.agg (jrC zjr), .agg (dkC d)]) (.cons zj_le (.cons (.refl _) .nil)) ?_
    refine CC.mono (few_cc _ _ zjr d) ?_
    rintro _ _ _ ⟨rfl, rfl, rfl⟩
    by_cases c1 : d.stable.length ≤ 120
    case neg =>
      simp -implicitDefEqProofs [go_sem, c1]
      refine Wp.s ?_
      simp -implicitDefEqProofs [go_sem]
      refine CC.mono (awake_cc _ _) ?_
      rintro _ _ _ ⟨rfl, rfl, rfl⟩
      simp -implicitDefEqProofs [go_sem]
      exact Fin.bool rfl hokH (by simp) (by simp)
    by_cases c2 : d.cache.length ≤ 60
    case neg =>
      simp -implicitDefEqProofs [go_sem, c1, c2]
      refine Wp.s ?_
      simp -implicitDefEqProofs [go_sem]
      refine CC.mono (awake_cc _ _) ?_
      rintro _ _ _ ⟨rfl, rfl, rfl⟩
      simp -implicitDefEqProofs [go_sem]
      exact Fin.bool rfl hokH (by simp) (by simp)
    simp -implicitDefEqProofs [go_sem, c1, c2, zjr]
    refine Wp.s ?_
    simp -implicitDefEqProofs [go_sem]
    exact Sh.forget (by simp [go_sem]) rfl rfl
  rintro _ ⟨h1, h2⟩
  dsimp only
  have hl : DkS d := ⟨by omega, by omega⟩
  generalize hx : openJ s c d = x at o1 o2 o3 o4
  refine SWp.seq (Wp.s ?_)
  simp -implicitDefEqProofs [go_sem]
  refine CC.mono (Open_cc _ _ s c d hl (loadS_len d s)) ?_
  rintro _ _ _ ⟨rfl, rfl, rfl⟩
  rw [hx]
  simp -implicitDefEqProofs [go_sem, opV]
  refine SWp.seq (Wp.s ?_)
  simp -implicitDefEqProofs [go_sem]
  refine CC.mono (refOpen_cc _ _ s c d hl) ?_
  rintro _ _ _ ⟨rfl, rfl, rfl⟩
  rw [hx]
  simp -implicitDefEqProofs [go_sem, opV]
  refine SWp.seq (Wp.s ?_)
  simp -implicitDefEqProofs [go_sem]
  refine CC.mono (awake_cc _ _) ?_
  rintro _ _ _ ⟨rfl, rfl, rfl⟩
  simp -implicitDefEqProofs [go_sem]
  refine CC.mono (Same_cc _ _ _ o1) ?_
  rintro _ _ _ ⟨rfl, rfl, rfl⟩
  simp -implicitDefEqProofs [go_sem]
  refine CC.mono (SameList_cc _ _ .sh .sh _ o2) ?_
  rintro _ _ _ ⟨rfl, rfl, rfl⟩
  simp -implicitDefEqProofs [go_sem]
  refine CC.mono (sSameOps_cc _ _ .sh .sh _ o3 o4) ?_
  rintro _ _ _ ⟨rfl, rfl, rfl⟩
  simp -implicitDefEqProofs [go_sem]
  refine Wp.s ?_
  simp -implicitDefEqProofs [go_sem]
  exact Fin.bool rfl hokH (by simp) (by simp)
end Go.Proofs.YtmgoflhjblombaaGreatDoor
namespace Go.Proofs.YtmgoflhjblombaaGreatDoor
open Go.RowKit

/-- The ghost state at the beginning of a call: all blocks are fixed; no boxes, no tokens. -/
def gh0 (w : World) : Gh where
  lim k := match w.heap[k]? with
    | some (.cells c _ _) => c.size
    | _ => 0
  box := []
  tip := []

theorem gh0_inv (w : World) : Inv (gh0 w) w [] [] where
  boxlen := rfl
  tiplen := rfl
  limv k h := by
    simp only [gh0] at h ⊢
    split at h
    · rename_i c e fr hc
      exact ⟨c, e, fr, hc, by simp⟩
    · omega
  tips := by intro t k h; simp [gh0] at h
  boxes := by intro b k h; simp [gh0] at h
  uniq := by intro b b' k cs cs' h; simp at h
  live := by intro b cs h; simp at h

theorem gh0_lim {w : World} {k o : Nat} {u : Value} (h : w.cell? ⟨k, o, none⟩ = some u) : o < (gh0 w).lim k := by
  simp only [World.cell?] at h
  simp only [gh0]
  split at h
  · rename_i c e fr hc
    simp only [hc]
    simp at h
    obtain ⟨h, _⟩ := Array.getElem?_eq_some_iff.1 h
    exact h
  · cases h

/-- What a law gives: true, and below nothing is changed. -/
theorem law_calls {P : Program} {f : FuncId} {args : Array Value} {W : World} {cs : List CV} {R : CV → Hp → List Nat → Prop} (hrel : RelL (gh0 W) W [] cs args.toList) (h : CC P f cs [] [] R)
    (hR : ∀ r H V, R r H V → r = .v (.bool true)) : Calls P f args W fun e W' => e = .returned (.bool true) ∧ Below W.heap.size W W' := by
  have := h.2 (gh0 W) W args.toList (gh0_inv W) hrel
  rw [Array.toArray_toList] at this
  refine this.mono ?_
  rintro e w' ⟨u, m', r, H', V', rfl, hr, _, hu, hx⟩
  obtain rfl := hR _ _ _ hr
  rw [RelV] at hu
  subst hu
  exact ⟨rfl, hx.os, hx.tape, hx.output, hx.size, fun k hk => hx.same k hk (by simp [gh0]) (by simp [gh0])⟩

/-- The cells of a value of type t that came in: S holds of their contents. -/
def Opens (P : Program) (t : TypeId) (S : List CV → Prop) : Prop :=
  ∀ (H : Type) (enc : TypeId × Value → H) (w : World) (base : Nat) (spare : Nat → Bool) (held : Bool) (fuel : Nat) (us : List Value) (x : DataW H × List MemPlace),
    DataW.trod enc P w base spare held fuel t us = some x → ∃ cs, S cs ∧ RelL (gh0 w) w [] cs us ∧ ∀ u ∈ us, u.oneCell' = true

theorem relL_one {m : Gh} {w : World} {V : List Nat} {c : CV} {u : Value} (h : RelV m w V c u) : RelL m w V [c] [u] := by
  rw [RelL]; exact ⟨u, [], rfl, h, by rw [RelL]⟩

theorem relL_one' {m : Gh} {w : World} {V : List Nat} {c : CV} {u : Value} (h : RelL m w V [c] [u]) : RelV m w V c u := by
  rw [RelL] at h; obtain ⟨_, _, h1, h2, _⟩ := h; cases h1; exact h2

theorem relL_nil {m : Gh} {w : World} {V : List Nat} : RelL m w V [] [] := by rw [RelL]
theorem relL_mk2 {m : Gh} {w : World} {V : List Nat} {c : CV} {u : Value} {cs : List CV} {us : List Value} (h : RelV m w V c u) (h2 : RelL m w V cs us) : RelL m w V (c :: cs) (u :: us) := by
  rw [RelL]; exact ⟨u, us, rfl, h, h2⟩
variable {P : Program} {t e : TypeId}
theorem Opens.int {k : IntKind} (ht : P.underlying t = some (.int k)) : Opens P t fun cs => ∃ n, cs = [.v (.int k n)] ∧ (Lit.int k n).wf = true := by
  intro H enc w base spare held fuel us x h
  obtain ⟨n, rfl, _, hw⟩ := DataW.trod_int ht h
  exact ⟨_, ⟨n, rfl, hw⟩, relL_one (by rw [RelV]), by simp [Value.oneCell']⟩

theorem Opens.bool (ht : P.underlying t = some .bool) : Opens P t fun cs => ∃ b, cs = [.v (.bool b)] := by
  intro H enc w base spare held fuel us x h
  obtain ⟨n, rfl, _⟩ := DataW.trod_bool ht h
  exact ⟨_, ⟨n, rfl⟩, relL_one (by rw [RelV]), by simp [Value.oneCell']⟩

theorem Opens.string (ht : P.underlying t = some .string) : Opens P t fun cs => ∃ s : ByteArray, cs = [.v (.string s)] ∧ s.size ≤ maxLen := by
  intro H enc w base spare held fuel us x h
  obtain ⟨n, rfl, _, hs⟩ := DataW.trod_string ht h
  exact ⟨_, ⟨n, rfl, hs⟩, relL_one (by rw [RelV]), by simp [Value.oneCell']⟩

theorem cells_get {w : World} {base : Nat} {a : Addr} {n : Nat} {us : List Value} (h : w.cells? base a n = some us) : us.length = n ∧ ∀ j, j < n → w.cell? (a.add j) = us[j]? := by
  unfold World.cells? at h
  split at h
  · exact ⟨by simpa using mapM_some_length h, fun j hj => mapM_some_get h j j (by simp [hj])⟩
  · cases h

theorem add_none {a : Addr} (ha : a.spot = none) (i : Nat) : a.add i = ⟨a.block, a.off + i, none⟩ := by
  cases a with
  | mk b o s =>
    simp only at ha
    subst ha
    unfold Addr.add
    split <;> simp_all

theorem Opens.slice {sz : Nat} {S : List CV → Prop} (ht : P.underlying t = some (.slice e)) (hs : P.cellsOf e = sz) (h0 : 0 < sz) (he : Opens P e S) :
    Opens P t fun cs => ∃ xs, cs = [.sl .sh sz xs] ∧ xs.length ≤ maxLen ∧ ∀ x ∈ xs, S x := by
  intro H enc w base spare held fuel us x h
  rcases DataW.trod_slice ht h with ⟨rfl, _⟩ | ⟨a, len, cap, elems, rest, n, _, rfl, rfl, hb, hl, hm, hlen, hel, hsp, hns⟩
  · refine ⟨_, ⟨[], rfl, by simp, by simp⟩, relL_one ?_, by simp [Value.oneCell']⟩
    rw [RelV]
    exact ⟨none, 0, rfl, by simp, trivial, h0, .inl rfl⟩
  · have key : ∀ i, i < len → ∃ (cs : List CV) (vs : List Value), S cs ∧ RelL (gh0 w) w [] cs vs ∧ (∀ u ∈ vs, u.oneCell' = true) ∧ vs.length = sz ∧ ∀ j, j < sz → w.cell? ((a.add (i * sz)).add j) = vs[j]? := by
      intro i hi
      have h1 := hel i hi
      rw [List.getElem?_eq_getElem (by omega)] at h1
      obtain ⟨vs, h2, h3⟩ := Option.bind_eq_some_iff.1 h1
      obtain ⟨cs, h4, h5, h6⟩ := he _ enc w base spare held n vs _ h3
      rw [hs] at h2
      obtain ⟨h7, h8⟩ := cells_get h2
      exact ⟨cs, vs, h4, h5, h6, h7, h8⟩
    by_cases hz : len = 0
    · subst hz
      refine ⟨_, ⟨[], rfl, by simp, by simp⟩, relL_one ?_, by simp [Value.oneCell']⟩
      rw [RelV]
      exact ⟨some a, cap, rfl, by simp, trivial, h0, .inl rfl⟩
    · have hsp : a.spot = none := by
        obtain ⟨cs, vs, _, _, _, h7, h8⟩ := key 0 (by omega)
        have h9 := h8 0 h0
        rw [List.getElem?_eq_getElem (by omega)] at h9
        have : (a.add (0 * sz)).add 0 = a := by simp [Addr.add]
        rw [this] at h9
        simp only [World.cell?] at h9
        split at h9
        · split at h9
          · cases h9
          · rename_i h; simpa using h
        · cases h9
      let g : Nat → List CV := fun i => if h : i < len then Classical.choose (key i h) else []
      have hg : ∀ i (h : i < len), ∃ (vs : List Value), S (g i) ∧ RelL (gh0 w) w [] (g i) vs ∧ (∀ u ∈ vs, u.oneCell' = true) ∧ vs.length = sz ∧ ∀ j, j < sz → w.cell? ((a.add (i * sz)).add j) = vs[j]? := by
        intro i h
        have := Classical.choose_spec (key i h)
        simp only [g, h, dif_pos]
        exact this
      have cell : ∀ i j, i < len → j < sz → ∃ u, w.cell? ⟨a.block, a.off + i * sz + j, none⟩ = some u := by
        intro i j hi hj
        obtain ⟨vs, _, _, _, h7, h8⟩ := hg i hi
        have h9 := h8 j hj
        rw [List.getElem?_eq_getElem (by omega), add_none hsp, add_none rfl] at h9
        exact ⟨_, h9⟩
      refine ⟨_, ⟨(List.range len).map g, rfl, by simp; omega, ?_⟩, relL_one ?_, by simp [Value.oneCell']⟩
      · intro x hx
        obtain ⟨i, hi, rfl⟩ := List.mem_map.1 hx
        obtain ⟨_, h4, _⟩ := hg i (by simpa using hi)
        exact h4
      · rw [RelV]
        refine ⟨some a, cap, by simp, by simp; omega, trivial, h0, .inr ⟨a.block, a.off, by cases a; simp_all, ?_, relE_mk fun j c hc => ?_⟩⟩
        · obtain ⟨u, hu⟩ := cell (len - 1) (sz - 1) (by omega) (by omega)
          have := gh0_lim hu
          simp only [List.length_map, List.length_range]
          have h1 : len * sz = (len - 1) * sz + sz := by
            rw [← Nat.succ_mul]; congr 1; omega
          omega
        · simp only [List.getElem?_map, Option.map_eq_some_iff] at hc
          obtain ⟨i, hi, rfl⟩ := hc
          obtain ⟨hi', hi⟩ := List.getElem?_eq_some_iff.1 hi
          simp at hi hi'
          subst hi
          obtain ⟨vs, h4, h5, h6, h7, h8⟩ := hg j hi'
          have hl := relL_length h5
          refine ⟨by omega, relC_mk fun q c hc => ?_⟩
          obtain ⟨u, hu, hv⟩ := relL_get h5 q c hc
          have hq : q < sz := by
            have := (List.getElem?_eq_some_iff.1 hc).1
            omega
          have h9 := h8 q hq
          rw [hu, add_none hsp, add_none rfl] at h9
          exact ⟨u, h9, hv, h6 u (List.mem_of_getElem? hu)⟩

/-- Fields, from cell o on, of a struct of N cells. -/
def OpensF (P : Program) (N : Nat) (fs : List Field) (o : Nat) (S : List CV → Prop) : Prop :=
  ∀ (H : Type) (enc : TypeId × Value → H) (w : World) (base : Nat) (spare : Nat → Bool) (held : Bool) (fuel : Nat) (us : List Value), us.length = N →
    (∀ f ∈ fs, ∃ x, DataW.trod enc P w base spare held fuel f.type ((us.drop f.offset).take (P.cellsOf f.type)) = some x) →
    ∃ cs, S cs ∧ RelL (gh0 w) w [] cs (us.drop o) ∧ ∀ u ∈ us.drop o, u.oneCell' = true

theorem OpensF.nil {N : Nat} : OpensF P N [] N fun cs => cs = [] := by
  intro H enc w base spare held fuel us hl h
  subst hl
  exact ⟨_, rfl, by rw [List.drop_length, RelL], by simp⟩

theorem OpensF.cons {N : Nat} {f : Field} {fs : List Field} {o n : Nat} {S S' : List CV → Prop} (ho : f.offset = o) (hn : P.cellsOf f.type = n) (h1 : Opens P f.type S) (h2 : OpensF P N fs (o + n) S') :
    OpensF P N (f :: fs) o fun cs => ∃ a b, cs = a ++ b ∧ S a ∧ S' b := by
  intro H enc w base spare held fuel us hl h
  obtain ⟨x, hx⟩ := h f (by simp)
  rw [ho, hn] at hx
  obtain ⟨a, ha, ra, oa⟩ := h1 _ enc w base spare held fuel _ _ hx
  obtain ⟨b, hb, rb, ob⟩ := h2 _ enc w base spare held fuel us hl fun g hg => h g (List.mem_cons_of_mem _ hg)
  have hd : us.drop o = (us.drop o).take n ++ us.drop (o + n) := by
    rw [← List.drop_drop, List.take_append_drop]
  refine ⟨_, ⟨a, b, rfl, ha, hb⟩, ?_, ?_⟩
  · rw [hd]; exact relL_append ra rb
  · rw [hd]
    intro u hu
    rcases List.mem_append.1 hu with h | h
    · exact oa u h
    · exact ob u h

theorem Opens.struct {fs : Array Field} {S : List CV → Prop} (ht : P.underlying t = some (.struct fs)) {N : Nat} (hN : P.cellsOf t = N) (h : OpensF P N fs.toList 0 S) : Opens P t S := by
  intro H enc w base spare held fuel us x hx
  obtain ⟨xs, n, _, _, hl, hl2, hf⟩ := DataW.trod_struct ht hx
  obtain ⟨cs, h1, h2, h3⟩ := h _ enc w base spare held n us (by omega) (by
    intro f hf'
    obtain ⟨i, hi⟩ := List.getElem?_of_mem hf'
    have := hf i f (by simpa using hi)
    have hi' : i < fs.size := by
      have := (List.getElem?_eq_some_iff.1 hi).1
      simpa using this
    rw [this, List.getElem?_eq_getElem (by omega)]
    exact ⟨_, rfl⟩)
  exact ⟨cs, h1, by simpa using h2, by simpa using h3⟩

theorem Opens.array {n sz : Nat} {S : List CV → Prop} (ht : P.underlying t = some (.array n e)) (hs : P.cellsOf e = sz) (hN : P.cellsOf t = n * sz) (he : Opens P e S) :
    Opens P t fun cs => ∃ xs : List (List CV), cs = xs.flatten ∧ xs.length = n ∧ ∀ x ∈ xs, S x := by
  intro H enc w base spare held fuel us x hx
  obtain ⟨xs, m, _, _, hl, hl2, hf⟩ := DataW.trod_array ht hx
  rw [hN] at hl
  rw [hs] at hf
  have key : ∀ q, q ≤ n → ∃ ys : List (List CV), ys.length = q ∧ (∀ x ∈ ys, S x) ∧ RelL (gh0 w) w [] ys.flatten (us.drop ((n - q) * sz)) ∧ ∀ u ∈ us.drop ((n - q) * sz), u.oneCell' = true := by
    intro q
    induction q with
    | zero =>
      intro _
      refine ⟨[], rfl, by simp, ?_, ?_⟩
      · rw [Nat.sub_zero, List.drop_of_length_le (by omega), List.flatten_nil, RelL]
      · rw [Nat.sub_zero, List.drop_of_length_le (by omega)]; simp
    | succ q ih =>
      intro hq
      obtain ⟨ys, h1, h2, h3, h4⟩ := ih (by omega)
      have hx := hf (n - (q + 1)) (by omega)
      rw [List.getElem?_eq_getElem (by omega)] at hx
      obtain ⟨a, ha, ra, oa⟩ := he _ enc w base spare held m _ _ hx
      have hd : us.drop ((n - (q + 1)) * sz) = (us.drop ((n - (q + 1)) * sz)).take sz ++ us.drop ((n - q) * sz) := by
        have : (n - q) * sz = (n - (q + 1)) * sz + sz := by
          rw [← Nat.succ_mul]; congr 1; omega
        rw [this, ← List.drop_drop, List.take_append_drop]
      refine ⟨a :: ys, by simp [h1], by simpa using ⟨ha, h2⟩, ?_, ?_⟩
      · rw [hd, List.flatten_cons]; exact relL_append ra h3
      · rw [hd]
        intro u hu
        rcases List.mem_append.1 hu with h | h
        · exact oa u h
        · exact h4 u h
  obtain ⟨ys, h1, h2, h3, h4⟩ := key n (Nat.le_refl _)
  rw [Nat.sub_self, Nat.zero_mul, List.drop_zero] at h3 h4
  exact ⟨_, ⟨ys, rfl, h1, h2⟩, h3, h4⟩

theorem Opens.mono {S S' : List CV → Prop} (h : Opens P t S) (hs : ∀ cs, S cs → S' cs) : Opens P t S' := by
  intro H enc w base spare held fuel us x hx
  obtain ⟨cs, h1, h2, h3⟩ := h _ enc w base spare held fuel us x hx
  exact ⟨cs, hs cs h1, h2, h3⟩

variable {H : Type} {enc : TypeId × Value → H} {w : World} {base : Nat} {spare : Nat → Bool} {held : Bool}
/-- An argument of one cell. -/
theorem Opens.arg {S : List CV → Prop} (h : Opens P t S) {v : Value} {d : DataW H} {p : List MemPlace} (hv : v.cells.toList = [v]) (hd : DataW.Trod enc P w base spare held t v d p) :
    ∃ c, S [c] ∧ RelV (gh0 w) w [] c v := by
  obtain ⟨fuel, hf⟩ := hd
  rw [hv] at hf
  obtain ⟨cs, h1, h2, _⟩ := h _ enc w base spare held fuel _ _ hf
  have := relL_length h2
  match cs, this with
  | [c], _ => exact ⟨c, h1, relL_one' h2⟩
/-- A struct or an array. -/
theorem Opens.args {S : List CV → Prop} (h : Opens P t S) {us : Array Value} {d : DataW H} {p : List MemPlace} (hd : DataW.Trod enc P w base spare held t (.agg us) d p) :
    ∃ cs, S cs ∧ RelV (gh0 w) w [] (.agg cs) (.agg us) := by
  obtain ⟨fuel, hf⟩ := hd
  obtain ⟨cs, h1, h2, _⟩ := h _ enc w base spare held fuel _ _ hf
  refine ⟨cs, h1, ?_⟩
  rw [RelV]
  refine ⟨us.toList, by simp, ?_⟩
  simpa [Value.cells] using h2

/-- All arguments read as they did. -/
theorem trodAll_below (hl : laidOutB P = true) {W W' : World} (hb : Below W.heap.size W W') : ∀ {ts : List TypeId} {vs : List Value} {ds : List (DataW H)} {p : List MemPlace},
    (ts.all fun t => P.readableRec t && decide (t < P.types.size)) = true → DataW.TrodAll enc P W 0 (fun _ => true) true ts vs ds p → DataW.TrodAll enc P W' 0 (fun b => decide (b < W.heap.size)) true ts vs ds p
  | [], [], [], p, _, h => h
  | t :: ts, v :: vs, d :: ds, p, ht, h => by
    obtain ⟨p, q, h1, h2, rfl⟩ := h
    simp only [List.all_cons, Bool.and_eq_true, decide_eq_true_eq] at ht
    refine ⟨p, q, Below.trod hl ht.1.1 ht.1.2 h1 hb ?_, trodAll_below hl hb ht.2 h2, rfl⟩
    obtain ⟨m, hm⟩ := h1
    exact DataW.trod_lt m _ _ _ hm
  | [], [], _ :: _, _, _, h => h.elim
  | [], _ :: _, _, _, _, h => h.elim
  | _ :: _, [], _, _, _, h => h.elim
  | _ :: _, _ :: _, [], _, _, h => h.elim
end Go.Proofs.YtmgoflhjblombaaGreatDoor
namespace Go.Proofs.YtmgoflhjblombaaGreatDoor
open Go.Proofs
theorem opens_int : Opens Tryz.prog 3 fun cs => ∃ n, cs = ic n :=
  (Opens.int Tryz.underlying3).mono fun _ ⟨n, h, _⟩ => ⟨n, h⟩
/-- Two numbers. -/
structure Rgn where
  s : Int
  c : Int
def rgnC (x : Rgn) : List CV := [iv x.s, iv x.c]
theorem opens_rgn : Opens Tryz.prog 27 fun cs => ∃ x, cs = rgnC x :=
  (Opens.struct Tryz.underlying27 (N := 2) (by kernel_rfl) (.cons rfl (n := 1) (by kernel_rfl) opens_int (.cons rfl (n := 1) (by kernel_rfl) opens_int .nil))).mono fun cs h => by
    obtain ⟨_, _, rfl, ⟨a, rfl⟩, _, _, rfl, ⟨b, rfl⟩, rfl⟩ := h
    exact ⟨⟨a, b⟩, rfl⟩
theorem opens_sl {t e sz : Nat} {α : Type} {f : α → List CV} (ht : Tryz.prog.underlying t = some (.slice e)) (hs : Tryz.prog.cellsOf e = sz) (h0 : 0 < sz) (he : Opens Tryz.prog e fun cs => ∃ a, cs = f a) :
    Opens Tryz.prog t fun cs => ∃ l : List α, cs = [.sl .sh sz (l.map f)] ∧ l.length ≤ maxLen :=
  (Opens.slice ht hs h0 he).mono fun _ ⟨xs, h, hl, hx⟩ => by
    obtain ⟨ys, rfl⟩ := exMap hx
    exact ⟨ys, h, by simpa using hl⟩
theorem opens_u8 : Opens Tryz.prog 5 fun cs => ∃ b, cs = u8 b :=
  (Opens.int Tryz.underlying5).mono fun _ ⟨n, h, hw⟩ => ⟨byt n, by
    simp only [Lit.wf, Bool.and_eq_true, decide_eq_true_eq] at hw
    have h1 : 0 ≤ n := hw.1
    have h2 : n ≤ 255 := hw.2
    rw [h, u8, byt_toNat, Int.emod_eq_of_lt h1 (by omega)]⟩
theorem flat_u8' : ∀ l : List UInt8, (l.map u8).flatten = l.map fun b => CV.v (.int .u8 (b.toNat : Int))
  | [] => rfl
  | b :: l => by rw [List.map_cons, List.flatten_cons]; exact congrArg (_ :: ·) (flat_u8' l)
theorem opens_sec : Opens Tryz.prog 57 fun cs => ∃ s : Sec, cs = secC s :=
  (Opens.array (sz := 1) Tryz.underlying57 (by kernel_rfl) (by kernel_rfl) opens_u8).mono fun cs ⟨xs, h, hl, hx⟩ => by
    obtain ⟨l, rfl⟩ := exMap hx
    refine ⟨⟨l, by simpa using hl⟩, ?_⟩
    rw [h]; exact flat_u8' l
theorem opens_secs : Opens Tryz.prog 22 fun cs => ∃ l : List Sec, cs = [.sl .sh 8 (l.map secC)] ∧ l.length ≤ maxLen := opens_sl Tryz.underlying22 (by kernel_rfl) (by decide) opens_sec
theorem opens_cach : Opens Tryz.prog 115 fun cs => ∃ x, cs = cachC x :=
  (Opens.struct Tryz.underlying115 (N := 9) (by kernel_rfl) (.cons rfl (n := 1) (by kernel_rfl) opens_int (.cons rfl (n := 8) (by kernel_rfl) opens_sec .nil))).mono fun cs h => by
    obtain ⟨_, _, rfl, ⟨a, rfl⟩, _, _, rfl, ⟨b, rfl⟩, rfl⟩ := h
    exact ⟨⟨a, b⟩, by rw [List.append_nil]; rfl⟩
theorem opens_cachs : Opens Tryz.prog 23 fun cs => ∃ l : List Cach, cs = [.sl .sh 9 (l.map cachC)] ∧ l.length ≤ maxLen := opens_sl Tryz.underlying23 (by kernel_rfl) (by decide) opens_cach
theorem opens_dk : Opens Tryz.prog 25 fun cs => ∃ d, cs = dkC d :=
  (Opens.struct Tryz.underlying25 (N := 2) (by kernel_rfl) (.cons rfl (n := 1) (by kernel_rfl) opens_secs (.cons rfl (n := 1) (by kernel_rfl) opens_cachs .nil))).mono fun cs h => by
    obtain ⟨_, _, rfl, ⟨a, rfl, _⟩, _, _, rfl, ⟨b, rfl, _⟩, rfl⟩ := h
    exact ⟨⟨a, b⟩, rfl⟩
theorem Opens_lawR (d : Dk) (x : Rgn) : CC Tryz.prog 3 [.agg (dkC d), .agg (rgnC x)] [] [] (Pu (cb true) [] []) := Opens_law [] [] d x.s x.c
end Go.Proofs.YtmgoflhjblombaaGreatDoor
