import Derived.Test.YtmgoflhjblombaaGreatDoorD6
import Derived.Test.YtmgoflhjblombaaGreatDoorD4
import Derived.Test.YtmgoflhjblombaaGreatDoorD5
set_option linter.unusedSimpArgs false
set_option linter.unusedVariables false
set_option linter.unusedSectionVars false
namespace Go.Proofs.YtmgoflhjblombaaGreatDoor
open Go.Proofs
def turnM (h : Int) (n : Nat) (ct : List Sec) (i : Nat) : List Sec := (List.range i).map fun (k : Nat) => ct.getD ((h + (k : Int)) % (n : Int)).toNat sec0
theorem turnM_succ (h : Int) (n : Nat) (ct : List Sec) (i : Nat) : turnM h n ct (i + 1) = turnM h n ct i ++ [ct.getD ((h + (i : Int)) % (n : Int)).toNat sec0] := by rw [turnM, List.range_succ, List.map_append]; rfl
@[go_sem, simp] theorem turnM_len (h : Int) (n : Nat) (ct : List Sec) (i : Nat) : (turnM h n ct i).length = i := by rw [turnM, List.length_map, List.length_range]
/-- The sizes of records, and where the last of them ends. -/
def szs (l : List Rcd) : List Int := l.map fun r => szR (r.pay.length : Int)
def tailX (n h : Int) (l : List Int) : Int := l.foldl (fun t x => (t + x) % n) h
def recsO (first : Int) (l : List Sec) : List Rcd := let r := (scanA l first).1; r.take (min r.length (1073741824 - first).toNat)
def jO (s c h f : Int) (rs : List Rcd) : Jrn := ⟨s, c, h, tailX (c - 16) h (szs rs), f, szs rs⟩
def openJ (s c : Int) (d : Dk) : Jrn × List Rcd × List Opn × Nat :=
  if checkD d ≠ 0 then (zjr, [], [], checkD d) else
  if validJ s c = false ∨ (d.stable.length : Int) < s + c then (zjr, [], [], 2) else
  if (headJ s c d).2.2 ≠ 0 then (zjr, [], [], (headJ s c d).2.2) else
  if (readD d (s + 16) (c - 16)).2 ≠ 0 then (zjr, [], [], (readD d (s + 16) (c - 16)).2) else
  let ct := (readD d (s + 16) (c - 16)).1
  let rs := recsO (headJ s c d).2.1 (turnM (headJ s c d).1 (c - 16).toNat ct (c - 16).toNat)
  if chkJ (jO s c (headJ s c d).1 (headJ s c d).2.1 rs) = false then (zjr, [], [], 3)
  else (jO s c (headJ s c d).1 (headJ s c d).2.1 rs, rs, remX (jO s c (headJ s c d).1 (headJ s c d).2.1 rs) ct, 0)
def opV (x : Jrn × List Rcd × List Opn × Nat) : CV := .tup [.agg (jrC x.1), .sl .sh 3 (x.2.1.map rcC), opsV x.2.2.1, er x.2.2.2]
theorem okV_opV (i j : Nat) (x : Jrn × List Rcd × List Opn × Nat) : okV i j (opV x) := by
  rw [opV, okV, okL, okL, okL, okL, okL]
  simp [go_sem, okL, okV, okL_jrC, okE_ops, okE_rcs]
theorem headP_ok {c : Int} {p : List UInt8} (h : (headP c p).2.2 = 0) : 0 ≤ (headP c p).1 ∧ (headP c p).1 < c - 16 ∧ 1 ≤ (headP c p).2.1 ∧ (headP c p).2.1 ≤ 1073741824 := by
  cases hn : number p with
  | error e => rw [headP, hn] at h; cases h
  | ok x =>
    obtain ⟨a, r⟩ := x
    cases hn2 : number r with
    | error e => rw [headP, hn] at h; simp only at h; rw [hn2] at h; cases h
    | ok x =>
      obtain ⟨f, r'⟩ := x
      have hP : headP c p = if 0 < r'.length ∨ c - 16 ≤ (a : Int) ∨ (f : Int) < 1 ∨ 1073741824 < (f : Int) then (0, 0, 3) else ((a : Int), (f : Int), 0) := by
        rw [headP, hn]; simp only; rw [hn2]
      rw [hP] at h ⊢
      by_cases hb : 0 < r'.length ∨ c - 16 ≤ (a : Int) ∨ (f : Int) < 1 ∨ 1073741824 < (f : Int)
      · rw [if_pos hb] at h; cases h
      · rw [if_neg hb]
        exact ⟨by show (0 : Int) ≤ a; omega, by show (a : Int) < _; omega, by show 1 ≤ (f : Int); omega, by show (f : Int) ≤ _; omega⟩
theorem headJ_ok {s c : Int} {d : Dk} (h : (headJ s c d).2.2 = 0) : 0 ≤ (headJ s c d).1 ∧ (headJ s c d).1 < c - 16 ∧ 1 ≤ (headJ s c d).2.1 ∧ (headJ s c d).2.1 ≤ 1073741824 := by
  by_cases h1 : (loadS d s).2.2 ≠ 0
  · rw [headJ, if_pos h1] at h; exact absurd h h1
  · rw [headJ, if_neg h1] at h ⊢
    exact headP_ok h
theorem readD_n {d : Dk} {a m : Int} {n : Nat} (h : (readD d a m).2 = 0) (hm : m = (n : Int)) : (readD d a m).1.length = n := by
  subst hm
  by_cases h1 : checkD d = 0
  · by_cases h2 : insideB d a n = true
    · have e : readD d a n = (((newestD d).drop a.toNat).take (n : Int).toNat, 0) := by rw [readD, if_neg (by simp [h1]), if_neg (by simp [h2])]
      rw [e]
      simp only [insideB, Bool.and_eq_true, decide_eq_true_eq] at h2
      rw [List.length_take, List.length_drop, newestD_len]
      omega
    · rw [readD, if_neg (by simp [h1]), if_pos (by simpa using h2)] at h; cases h
  · rw [readD, if_pos h1] at h; exact absurd h h1
theorem scanX_len : ∀ (f : Nat) (l : List Sec) (sq : Int), (scanX f l sq).1.length ≤ l.length
  | 0, l, sq => by rw [scanX]; exact Nat.zero_le _
  | f + 1, l, sq => by
    rw [scanX]
    split
    · exact Nat.zero_le _
    · split
      · exact Nat.zero_le _
      · rename_i r n h
        split
        · exact Nat.zero_le _
        · have h1 := scanX_len f (l.drop n) (sq + 1)
          have h2 := decX_n h
          rw [List.length_drop] at h1
          rw [List.length_cons]; omega
theorem szs_snoc (l : List Rcd) (i : Nat) (h : i < l.length) : szs (l.take (i + 1)) = szs (l.take i) ++ [szR (l[i].pay.length : Int)] := by
  rw [szs, List.take_succ_eq_append_getElem h, List.map_append]; rfl
theorem tailX_snoc (n h : Int) (l : List Int) (x : Int) : tailX n h (l ++ [x]) = (tailX n h l + x) % n := by rw [tailX, List.foldl_append]; rfl
theorem tailX_in {n h : Int} (hn : 0 < n) (h0 : 0 ≤ h) (h1 : h < n) : ∀ l : List Int, 0 ≤ tailX n h l ∧ tailX n h l < n := fun l => by
  rcases List.eq_nil_or_concat l with rfl | ⟨l', x, rfl⟩
  · exact ⟨h0, h1⟩
  · rw [List.concat_eq_append, tailX_snoc]
    exact ⟨Int.emod_nonneg _ (by omega), Int.emod_lt_of_pos _ hn⟩
theorem szR_in (n : Int) : 0 ≤ szR n ∧ szR n ≤ 1026 := by
  unfold szR
  split <;> omega
def ApZ (V : List Nat) (l : List Int) (cv : CV) (W : List Nat) : Prop := (l = [] ∧ cv = .v (.slice none 0 0) ∧ W = V) ∨ ∃ v, cv = .sl (.own V.length v) 1 (l.map ic) ∧ W = V ++ [v]
theorem ApZ.le {V : List Nat} {l : List Int} {cv : CV} {W : List Nat} (h : ApZ V l cv W) : Le cv (.sl .sh 1 (l.map ic)) := by
  rcases h with ⟨rfl, rfl, rfl⟩ | ⟨v, rfl, rfl⟩
  · exact .nil 1 (by decide)
  · exact .sh _ _ _
theorem ApZ.ok {V : List Nat} {l : List Int} {cv : CV} {W : List Nat} {i : Nat} (h : ApZ V l cv W) : okV i W.length cv := by
  rcases h with ⟨rfl, rfl, rfl⟩ | ⟨v, rfl, rfl⟩
  · rw [okV]; trivial
  · rw [okV_own, okE_ints]; simp
theorem ApZ.len {V : List Nat} {l : List Int} {cv : CV} {W : List Nat} (h : ApZ V l cv W) : V.length ≤ W.length ∧ W.take V.length = V := by
  rcases h with ⟨rfl, rfl, rfl⟩ | ⟨v, rfl, rfl⟩ <;> simp
abbrev HO (H : Hp) (d : Dk) (s c : Int) (ct : List Sec) (cv : CV) (x1 x2 x3 lp : Option (List CV)) : Hp := H ++ [some (dkC d), some [iv s, iv c], some zjC, some [iv s, iv c], some [secsV ct], some [cv], x1, x2, x3, lp]
set_option maxRecDepth 8000 in
theorem Open_cc (H : Hp) (V : List Nat) (s c : Int) (d : Dk) (hl : DkS d) (hp : (loadS d s).1.length ≤ 100) : CC Tryz.prog 10 [.agg (dkC d), .agg [iv s, iv c]] H V (Pu (opV (openJ s c d)) H V) := by
  refine CC.of_swp0 Tryz.func10 rfl (by kernel_rfl) (by rw [Tryz.ntmps10]; exact len_le _ _ rfl) fun hok hokH => ?_
  have bad : ∀ (e : Nat) {H' : Hp} {V' : List Nat}, openJ s c d = (zjr, [], [], e) → H'.take H.length = H → V'.take V.length = V → Fin H.length V.length (Pu (opV (openJ s c d)) H V) (.tup [.agg zjC, .v (.slice none 0 0), .v (.slice none 0 0), er e]) H' V' := fun e H' V' h1 h2 h3 => by
    rw [h1]
    exact Fin.pu (.tup (.cons zj_le (.cons (.nil 3 (by decide)) (.cons (.nil 3 (by decide)) (.cons (.refl _) .nil))))) (okV_opV _ _ _) hokH h2 h3
  refine SWp0.seq (SWp.s0 (Wp.s ?_))
  simp -implicitDefEqProofs [go_sem, args0]
  refine SWp0.seq (SWp.s0 (SWp.seq (Wp.s ?_)))
  simp -implicitDefEqProofs [go_sem]
  refine CC.mono (sCheck_cc _ _ d hl) ?_
  rintro _ _ _ ⟨rfl, rfl, rfl⟩
  simp -implicitDefEqProofs [go_sem]
  refine SWp.seq (Wp.s ?_)
  by_cases h0 : checkD d = 0
  case neg =>
    simp -implicitDefEqProofs [go_sem, h0]
    refine Wp.s ?_
    simp -implicitDefEqProofs [go_sem]
    exact bad _ (by rw [openJ, if_pos h0]) (by simp) (by simp)
  simp -implicitDefEqProofs [go_sem, h0]
  refine Wp.s ?_
  simp -implicitDefEqProofs [go_sem]
  have e0 : openJ s c d = _ := (by rw [openJ, if_neg (by simp [h0])])
  refine SWp0.seq (SWp.s0 (Wp.s ?_))
  simp -implicitDefEqProofs [go_sem]
  refine SWp0.seq (SWp.s0 (SWp.seq (Wp.s ?_)))
  simp -implicitDefEqProofs [go_sem]
  refine CC.mono (valid_cc _ _ _ _) ?_
  rintro _ _ _ ⟨rfl, rfl, rfl⟩
  have w0 : validJ s c = true → IntKind.i64.wrap (s + c) = s + c := fun h => by
    have := (validJ_iff s c).1 h
    exact IntWalk.i64_in _ ⟨by omega, by omega⟩
  by_cases hv : validJ s c = true
  case neg =>
    simp -implicitDefEqProofs [go_sem, hv]
    refine Wp.s ?_
    simp -implicitDefEqProofs [go_sem]
    exact bad 2 (by rw [e0, if_pos (.inl (by simpa using hv))]) (by simp) (by simp)
  have hvi := (validJ_iff s c).1 hv
  by_cases hln : (d.stable.length : Int) < s + c
  · simp -implicitDefEqProofs [go_sem, hv, w0 hv, hln]
    refine Wp.s ?_
    simp -implicitDefEqProofs [go_sem]
    exact bad 2 (by rw [e0, if_pos (.inr hln)]) (by simp) (by simp)
  rw [if_neg (by simp [hv, hln])] at e0
  simp -implicitDefEqProofs [go_sem, hv, w0 hv, hln]
  refine Wp.s ?_
  simp -implicitDefEqProofs [go_sem]
  refine SWp0.seq (SWp.s0 (Wp.s ?_))
  simp -implicitDefEqProofs [go_sem]
  refine CC.mono (load_cc _ _ s c d hv hl hp) ?_
  rintro _ _ _ ⟨rfl, rfl, rfl⟩
  simp -implicitDefEqProofs [go_sem, hdV]
  refine SWp0.seq (SWp.s0 (SWp.seq (Wp.s ?_)))
  by_cases h1 : (headJ s c d).2.2 = 0
  case neg =>
    simp -implicitDefEqProofs [go_sem, h1]
    refine Wp.s ?_
    simp -implicitDefEqProofs [go_sem]
    exact bad _ (by rw [e0, if_pos h1]) (by simp) (by simp)
  have hho := headJ_ok h1
  rw [if_neg (by simp [h1])] at e0
  simp -implicitDefEqProofs [go_sem, h1]
  refine Wp.s ?_
  simp -implicitDefEqProofs [go_sem]
  generalize (headJ s c d).1 = hd at hho e0 ⊢
  generalize (headJ s c d).2.1 = fi at hho e0 ⊢
  refine SWp0.seq (SWp.s0 (SWp.drawnT [] [11] (.s 0 .pl <| .s 1 .pl <| .s 3 .pl <| .c 2 <| .c 4 <| .s 5 .pl <| .c 6 <| .s 7 .pl <| .s 8 .pl <| .s 9 .pl <| .s 10 .pl <| .s 11 .st <| .s 12 .pl <| .n) (by kernel_rfl) (by kernel_rfl) ?_))
  simp -implicitDefEqProofs [go_sem]
  refine ⟨_, fun H V => sector_cc H V s c 0 hv (by decide) (by decide), ?_⟩
  simp -implicitDefEqProofs [go_sem]
  refine ⟨_, fun H V => length_cc H V s c hv, ?_⟩
  simp -implicitDefEqProofs [go_sem]
  refine ⟨_, fun H V => sRead_cc H V d ⟨s + 16, c - 16⟩ hl, ?_⟩
  simp -implicitDefEqProofs [go_sem]
  refine SWp0.seq (SWp.s0 (SWp.seq (Wp.s ?_)))
  by_cases h2 : (readD d (s + 16) (c - 16)).2 = 0
  case neg =>
    simp -implicitDefEqProofs [go_sem, h2]
    refine Wp.s ?_
    simp -implicitDefEqProofs [go_sem]
    exact bad _ (by rw [e0, if_pos h2]) (by simp) (by simp)
  rw [if_neg (by simp [h2])] at e0
  simp -implicitDefEqProofs [go_sem, h2]
  refine Wp.s ?_
  simp -implicitDefEqProofs [go_sem]
  obtain ⟨n, hnn⟩ : ∃ n : Nat, c - 16 = (n : Int) := ⟨(c - 16).toNat, by omega⟩
  have hct : (readD d (s + 16) (c - 16)).1.length = n := readD_n h2 hnn
  generalize (readD d (s + 16) (c - 16)).1 = ct at hct e0 ⊢
  rw [show (c - 16).toNat = n by omega] at e0
  dsimp only at e0
  refine SWp0.seq (SWp.s0 (Wp.s ?_))
  simp -implicitDefEqProofs [go_sem]
  refine SWp0.ghost (Sh.trim (T' := [(2, .ptr H.length 0), (3, .ptr (H.length + 1) 0), (4, .ptr (H.length + 2) 0), (9, .ptr (H.length + 3) 0), (10, iv hd), (11, iv fi), (13, .ptr (H.length + 4) 0), (14, .ptr (H.length + 5) 0)]) (L := [some (dkC d), some [iv s, iv c], some zjC, some [iv s, iv c], some [secsV ct], some [.v (.slice none 0 0)]]) (V' := V) (by simp [go_sem]) (by simp [go_sem]) hokH (by simp [go_sem]) (Nat.le_refl _) (by simp) (by simp)) ?_
  refine SWp0.join (α := CV × List Nat) (fun x => ([(2, .ptr H.length 0), (3, .ptr (H.length + 1) 0), (4, .ptr (H.length + 2) 0), (9, .ptr (H.length + 3) 0), (10, iv hd), (11, iv fi), (13, .ptr (H.length + 4) 0), (14, .ptr (H.length + 5) 0)], H ++ [some (dkC d), some [iv s, iv c], some zjC, some [iv s, iv c], some [secsV ct], some [x.1]], x.2))
    (fun x => ApS V.length (turnM hd n ct n) x.1 x.2 ∧ V.length ≤ x.2.length ∧ x.2.take V.length = V) ?_ ?_
  · refine SWp0.seq (SWp.s0 (SWp.drawnT [] [] (.s 0 .pl <| .s 1 .pl <| .s 2 .pl <| .s 3 .pl <| .s 4 .pl <| .n) (by kernel_rfl) (by kernel_rfl) ?_))
    simp -implicitDefEqProofs [go_sem]
    refine CC.mono (length_cc _ _ _ _ hv) ?_
    rintro _ _ _ ⟨rfl, rfl, rfl⟩
    simp -implicitDefEqProofs [go_sem, hnn]
    refine CC.mono (from_cc _ _ _ _ _ _) ?_
    rintro _ _ _ ⟨rfl, rfl, rfl⟩
    simp -implicitDefEqProofs [go_sem]
    refine SWp0.block (SWp0.range [(13, .ptr (H.length + 4) 0), (14, .ptr (H.length + 5) 0), (2, .ptr H.length 0), (3, .ptr (H.length + 1) 0), (4, .ptr (H.length + 2) 0), (9, .ptr (H.length + 3) 0), (10, iv hd), (11, iv fi)] rfl (by simp [go_sem]) ?_)
    simp -implicitDefEqProofs [go_sem]
    generalize hbd : Code.block 1 _ = bd
    generalize has : Code.region 15 _ _ = asg
    obtain ⟨TT, hTT⟩ : ∃ TT : Tm, TT = [(13, .ptr (H.length + 4) 0), (14, .ptr (H.length + 5) 0), (2, .ptr H.length 0), (3, .ptr (H.length + 1) 0), (4, .ptr (H.length + 2) 0), (9, .ptr (H.length + 3) 0), (10, iv hd), (11, iv fi)] := ⟨_, rfl⟩
    rw [← hTT]
    refine CC.mono (from1_cc _ V _ _ _ _ s c hd n hv hho.1 (by omega) (by omega) (fun i G V' => ∃ cv, ApS V.length (turnM hd n ct i) cv V' ∧ V.length ≤ V'.length ∧ V'.take V.length = V ∧ G = HO H d s c ct cv (some [iv s, iv c]) (some [iv hd]) (some [iv n]) (some [lpc 142 #[77] asg bd TT .ready none]))
      ⟨.v (.slice none 0 0), .inl ⟨rfl, rfl⟩, Nat.le_refl _, by simp, rfl⟩ ?_ ?_) ?_
    · rintro i _ V' ⟨cv, _, _, _, rfl⟩
      exact ⟨hget _ _ 8, hget _ _ 7, hget _ _ 6⟩
    · rintro i hi _ V' ⟨cv, ha, hv1, hv2, rfl⟩
      refine YC.of_round (n := 142) (ps := #[77]) (bd := bd) (T := TT) (hget _ _ 9) rfl (by decide) ?_
      subst hbd has
      rw [hnn]
      have hq1 := Int.emod_nonneg (hd + (i : Int)) (show (n : Int) ≠ 0 by omega)
      have hq2 := Int.emod_lt_of_pos (hd + (i : Int)) (show 0 < (n : Int) by omega)
      have hmx := turnM_succ hd n ct i
      rw [hmx]
      have hln := turnM_len hd n ct i
      generalize turnM hd n ct i = M at ha hln ⊢
      obtain ⟨q, hqq⟩ : ∃ q : Nat, (hd + (i : Int)) % (n : Int) = (q : Int) := ⟨((hd + (i : Int)) % (n : Int)).toNat, by omega⟩
      rw [hqq] at hq1 hq2 ⊢
      rw [Int.toNat_natCast]
      have hqc : q < ct.length := by omega
      have hgd : ct.getD q sec0 = ct[q] := by rw [List.getD_eq_getElem?_getD, List.getElem?_eq_getElem hqc]; rfl
      rw [hgd]
      subst hTT
      refine Wp.s ?_
      simp -implicitDefEqProofs [go_sem, tps]
      refine SWp.block ?_
      generalize hlp : lpc 142 #[77] _ _ _ LoopState.busy none = lp
      generalize hqqq : RQ 142 #[77] _ _ _ _ _ = QQ
      refine SWp.drawnT [] [7] (.s 0 .pl <| .s 1 .pl <| .s 2 .pl <| .s 3 .pl <| .s 4 .pl <| .s 5 .pl <| .s 6 .pl <| .s 7 .st <| .n) (by kernel_rfl) (by kernel_rfl) ?_
      rcases ha with ⟨rfl, he⟩ | ⟨k, v, rfl, hv, hk⟩
      · simp -implicitDefEqProofs [go_sem, hqc]
        rw [← hqqq, ← hlp]
        refine ⟨hget _ _ 9, rfl, .sl (.own V'.length 0) 8 [secC ct[q]], .inr ⟨V'.length, 0, ?_, by simp, hv1⟩, by simp; omega, ?_, ?_⟩
        · rw [he]; rfl
        · rw [List.take_append_of_le_length hv1]; exact hv2
        · simp
      · simp -implicitDefEqProofs [go_sem, hqc, hv]
        rw [← hqqq, ← hlp]
        have hkv := (List.getElem?_eq_some_iff.1 hv).1
        refine ⟨by omega, hget _ _ 9, rfl, .sl (.own k (v + 1)) 8 (List.map secC M ++ [secC ct[q]]), .inr ⟨k, v + 1, ?_, by rw [List.getElem?_set_self hkv], hk⟩, by simpa using hv1, ?_, ?_⟩
        · rw [List.map_append]; rfl
        · rw [List.take_set_of_le hk]; exact hv2
        · simp
    · rintro _ _ V' ⟨cv, ha, hv1, hv2, rfl⟩
      refine .inl ⟨hget _ _ 9, ?_⟩
      subst hTT
      refine ⟨cv, V', ⟨ha, hv1, hv2⟩, ?_⟩
      exact Sh.trim (L := [some (dkC d), some [iv s, iv c], some zjC, some [iv s, iv c], some [secsV ct], some [cv]]) (by simp [go_sem]) (by simp [go_sem]) hokH (by simp [go_sem, ha.ok]) hv1 (by simp) (List.take_of_length_le (Nat.le_refl _))
  rintro ⟨cv, V'⟩ ⟨h3, h4, h5⟩
  dsimp only
  refine SWp.s0 ?_
  refine SWp.seq (Wp.s ?_)
  simp -implicitDefEqProofs [go_sem]
  refine CC.le (.cons h3.le (.cons (.refl _) .nil)) ?_
  have htl := turnM_len hd n ct n
  generalize turnM hd n ct n = l at htl h3 e0 ⊢
  refine CC.mono (Scan_cc _ _ l fi (by omega) (by omega) (by omega)) ?_
  rintro _ _ _ ⟨rfl, rfl, rfl⟩
  simp -implicitDefEqProofs [go_sem, scV]
  have hR : recsO fi l = (scanA l fi).1.take (min (scanA l fi).1.length (1073741824 - fi).toNat) := rfl
  have hsl : (scanA l fi).1.length ≤ l.length := scanX_len _ _ _
  generalize (scanA l fi).1 = rs0 at hR hsl ⊢
  generalize (scanA l fi).2 = na
  have w3 : IntKind.i64.wrap (1073741824 - fi) = 1073741824 - fi := IntWalk.i64_in _ ⟨by omega, by omega⟩
  obtain ⟨m, hm⟩ : ∃ m, m = min rs0.length (1073741824 - fi).toNat := ⟨_, rfl⟩
  have hmi : min (rs0.length : Int) (1073741824 - fi) = (m : Int) := by omega
  have hml : m ≤ rs0.length := by omega
  refine SWp.seq (Wp.s ?_)
  simp -implicitDefEqProofs [go_sem, w3, hmi, hml]
  refine SWp.seq (Wp.s ?_)
  simp -implicitDefEqProofs [go_sem]
  have eT : List.take m (List.map rcC rs0) = (rs0.take m).map rcC := (List.map_take ..).symm
  rw [eT]
  rw [← hm] at hR
  have hrl : (rs0.take m).length ≤ 100000 := by rw [List.length_take]; omega
  generalize rs0.take m = rs at hR hrl ⊢
  rw [hR] at e0
  have hA5 : ∀ W : List Nat, V'.length ≤ W.length → okV (H.length + 7) W.length cv := fun W hW => okV_mono (Nat.le_refl _) hW h3.ok
  refine SWp.join (α := CV × List Nat) (fun x => ([(4, .ptr (H.length + 2) 0), (13, .ptr (H.length + 4) 0), (16, .sl .sh 3 (rs.map rcC)), (18, .ptr (H.length + 6) 0)], H ++ [some (dkC d), some [iv s, iv c], some zjC, some [iv s, iv c], some [secsV ct], some [cv], some [iv s, iv c, iv hd, iv (tailX n hd (szs rs)), iv fi, x.1]], x.2)) (fun x => ApZ V' (szs rs) x.1 x.2) ?_ ?_
  · refine SWp.seq (Wp.s ?_)
    simp -implicitDefEqProofs [go_sem]
    refine SWp.block ?_
    refine SWp.loop (α := Nat × CV × List Nat) (fun x => ([(4, .ptr (H.length + 2) 0), (9, .ptr (H.length + 3) 0), (13, .ptr (H.length + 4) 0), (16, .sl .sh 3 (rs.map rcC)), (18, .ptr (H.length + 6) 0), (103, .sl .sh 3 (rs.map rcC)), (104, ci rs.length), (105, ci x.1)], H ++ [some (dkC d), some [iv s, iv c], some zjC, some [iv s, iv c], some [secsV ct], some [cv], some [iv s, iv c, iv hd, iv (tailX n hd (szs (rs.take x.1))), iv fi, x.2.1]], x.2.2)) (fun x => x.1 ≤ rs.length ∧ ApZ V' (szs (rs.take x.1)) x.2.1 x.2.2) (fun x => rs.length - x.1) (0, .v (.slice none 0 0), V') ⟨Nat.zero_le _, .inl ⟨rfl, rfl, rfl⟩⟩ (Sh.forget (by simp [go_sem]) (by simp [tailX, szs]) rfl) ?_
    rintro ⟨i, cz, W⟩ ⟨hi, hz⟩
    dsimp only at hi hz ⊢
    refine SWp.seq (Wp.s ?_)
    simp -implicitDefEqProofs [go_sem]
    refine SWp.seq (Wp.s ?_)
    simp -implicitDefEqProofs [go_sem]
    refine ⟨fun h => ?_, fun h => ?_⟩
    case refine_2 =>
      rw [List.take_of_length_le h] at hz ⊢
      exact ⟨cz, W, hz, Sh.forget (by simp [go_sem]) rfl rfl⟩
    have htx := tailX_in (n := n) (h := hd) (by omega) (by omega) (by omega) (szs (rs.take i))
    have hsn := szs_snoc rs i h
    have hsx := szR_in (rs[i].pay.length : Int)
    have htn := tailX_snoc n hd (szs (rs.take i)) (szR (rs[i].pay.length : Int))
    generalize tailX n hd (szs (rs.take i)) = tl at htx htn ⊢
    refine SWp.seq (SWp.block (SWp.seq (Wp.s ?_)))
    simp -implicitDefEqProofs [go_sem, h]
    refine SWp.seq (Wp.s ?_)
    simp -implicitDefEqProofs [go_sem]
    refine CC.mono (RSize_cc _ _ _) ?_
    rintro _ _ _ ⟨rfl, rfl, rfl⟩
    simp -implicitDefEqProofs [go_sem]
    generalize szR (rs[i].pay.length : Int) = sz at hsn hsx htn ⊢
    have w5 : IntKind.i64.wrap (tl + sz) = tl + sz := IntWalk.i64_in _ ⟨by omega, by omega⟩
    have t5 := Int.tmod_eq_emod_of_nonneg (b := (n : Int)) (show 0 ≤ tl + sz by omega)
    have hz0 : ¬ (n : Int) = 0 := by omega
    have hst : tailX (n : Int) hd (szs (rs.take (i + 1))) = (tl + sz) % (n : Int) := by rw [hsn, htn]
    rcases hz with ⟨he, rfl, rfl⟩ | ⟨v, rfl, rfl⟩
    · refine SWp.seq (Wp.s ?_)
      simp -implicitDefEqProofs [go_sem]
      refine SWp.drawnT [] [8] (.s 0 .pl <| .s 1 .pl <| .s 2 .pl <| .s 3 .pl <| .s 4 .pl <| .s 5 .pl <| .s 6 .pl <| .s 7 .pl <| .s 8 .st <| .n) (by kernel_rfl) (by kernel_rfl) ?_
      simp -implicitDefEqProofs [go_sem, w5]
      refine CC.mono (length_cc _ _ _ _ hv) ?_
      rintro _ _ _ ⟨rfl, rfl, rfl⟩
      simp -implicitDefEqProofs [go_sem, hnn, t5, hz0]
      refine ⟨by omega, Wp.s ?_⟩
      simp -implicitDefEqProofs [go_sem, wrap_succ (show i ≤ 1000000000 by omega)]
      refine ⟨i + 1, .sl (.own W.length 0) 1 [ic sz], W ++ [0], ⟨by omega, .inr ⟨0, by rw [hsn, he]; rfl, rfl⟩⟩, by omega, ?_⟩
      rw [hst]
      exact Sh.trim (L := [some (dkC d), some [iv s, iv c], some zjC, some [iv s, iv c], some [secsV ct], some [cv], some [iv s, iv c, iv hd, iv ((tl + sz) % (n : Int)), iv fi, .sl (.own W.length 0) 1 [ic sz]]]) (by simp [go_sem]) (by simp [go_sem]) hokH (by simp [go_sem, hA5 (W ++ [0]) (by simp), okL, okV, ic]; exact okV_mono (Nat.le_refl _) (by simp) h3.ok) (by simp; simp at h4; omega) (by simp [ic]) (by simp)
    · refine SWp.seq (Wp.s ?_)
      simp -implicitDefEqProofs [go_sem]
      refine ⟨by simp [szs]; omega, ?_⟩
      refine SWp.drawnT [] [8] (.s 0 .pl <| .s 1 .pl <| .s 2 .pl <| .s 3 .pl <| .s 4 .pl <| .s 5 .pl <| .s 6 .pl <| .s 7 .pl <| .s 8 .st <| .n) (by kernel_rfl) (by kernel_rfl) ?_
      simp -implicitDefEqProofs [go_sem, w5]
      refine CC.mono (length_cc _ _ _ _ hv) ?_
      rintro _ _ _ ⟨rfl, rfl, rfl⟩
      simp -implicitDefEqProofs [go_sem, hnn, t5, hz0]
      refine ⟨by omega, Wp.s ?_⟩
      simp -implicitDefEqProofs [go_sem, wrap_succ (show i ≤ 1000000000 by omega)]
      refine ⟨i + 1, .sl (.own V'.length (v + 1)) 1 (List.map ic (szs (rs.take i)) ++ [ic sz]), V' ++ [v + 1], ⟨by omega, .inr ⟨v + 1, by rw [hsn, List.map_append]; rfl, rfl⟩⟩, by omega, ?_⟩
      rw [hst]
      exact Sh.trim (L := [some (dkC d), some [iv s, iv c], some zjC, some [iv s, iv c], some [secsV ct], some [cv], some [iv s, iv c, iv hd, iv ((tl + sz) % (n : Int)), iv fi, .sl (.own V'.length (v + 1)) 1 (List.map ic (szs (rs.take i)) ++ [ic sz])]]) (by simp [go_sem]) (by simp [go_sem]) hokH (by
        rw [show List.map ic (szs (rs.take i)) ++ [ic sz] = (szs (rs.take i) ++ [sz]).map ic by rw [List.map_append]; rfl]
        simp [go_sem, okE_ints, -List.map_append]; exact okV_mono (Nat.le_refl _) (by simp) h3.ok) (by simp; simp at h4; omega) (by simp [ic]) (by simp)
  rintro ⟨cz, W⟩ hz
  dsimp only at hz ⊢
  refine SWp.seq (Wp.s ?_)
  simp -implicitDefEqProofs [go_sem]
  obtain ⟨J, hJd⟩ : ∃ J, J = jO s c hd fi rs := ⟨_, rfl⟩
  have hJ : [iv s, iv c, iv hd, iv (tailX n hd (szs rs)), iv fi, .sl .sh 1 ((szs rs).map ic)] = jrC J := by rw [hJd, jO, hnn]; rfl
  have hJs : J.sizes.length ≤ 1000000000 := by rw [hJd, jO]; simp [szs]; omega
  have hJ1 : J.start = s := by rw [hJd]; rfl
  have hJ2 : J.count = c := by rw [hJd]; rfl
  rw [← hJd] at e0
  have hzl := hz.len
  refine CC.le (ys := [.agg (jrC J)]) (.cons (by rw [← hJ]; exact .agg (.cons (.refl _) (.cons (.refl _) (.cons (.refl _) (.cons (.refl _) (.cons (.refl _) (.cons hz.le .nil))))))) .nil) ?_
  refine CC.mono (examine_cc _ _ J hJs) ?_
  rintro _ _ _ ⟨u, rfl, rfl, rfl, hu⟩
  simp -implicitDefEqProofs [go_sem]
  refine SWp.seq (SWp.seq (Wp.s ?_))
  have hV : W.take V.length = V := by
    have h6 : V'.take V.length = V := h5
    rw [← h6, ← hzl.2, List.take_take, Nat.min_eq_left (by simpa using h4)]
    simp
  by_cases hck : chkJ J = true
  case neg =>
    rw [if_pos (by simpa using hck)] at e0
    simp -implicitDefEqProofs [go_sem, hck]
    refine Wp.s ?_
    simp -implicitDefEqProofs [go_sem]
    exact bad 3 e0 (by simp) hV
  rw [if_neg (by simp [hck])] at e0
  obtain rfl := hu hck
  simp -implicitDefEqProofs [go_sem, hck]
  refine Wp.s ?_
  simp -implicitDefEqProofs [go_sem]
  refine SWp.seq (SWp.drawnT [H.length + 7, H.length + 4] [6] (.s 0 .pl <| .s 2 .pl <| .s 3 .ld <| .s 4 .ld <| .s 1 .pl <| .s 5 .pl <| .s 6 .st <| .s 7 .pl <| .s 8 .pl <| .s 9 .pl <| .n) (by kernel_rfl) (by kernel_rfl) ?_)
  simp -implicitDefEqProofs [go_sem]
  refine CC.mono (own_cc _ _ J _ hJs) ?_
  rintro _ _ _ ⟨v, rfl, rfl, rfl⟩
  simp -implicitDefEqProofs [go_sem]
  refine CC.mono (remove_cc _ _ J ct hck (by rw [hct, hJ2]; omega)) ?_
  rintro _ _ _ ⟨rfl, rfl, rfl⟩
  simp -implicitDefEqProofs [go_sem]
  refine ⟨Kp.keep fun b hb => ?_, Wp.s ?_⟩
  · rcases List.mem_cons.1 hb with rfl | hb
    · rw [hget, hget]; rfl
    · obtain rfl : b = H.length + 4 := by simpa using hb
      rw [hget, hget]; rfl
  simp -implicitDefEqProofs [go_sem]
  rw [e0]
  refine Fin.pu (.tup (.cons (.agg (.cons (.refl _) (.cons (.refl _) (.cons (.refl _) (.cons (.refl _) (.cons (.refl _) (.cons (.sh _ _ _) .nil))))))) (.cons (.refl _) (.cons (.refl _) (.cons (.refl _) .nil))))) (okV_opV _ _ _) hokH (by simp) ?_
  rw [List.take_append_of_le_length (by have := hzl.1; simp at h4; omega)]
  exact hV
end Go.Proofs.YtmgoflhjblombaaGreatDoor
namespace Go.Proofs.YtmgoflhjblombaaGreatDoor
open Go.Proofs
def aj0 : Jrn := (formatJ 3 24).1
def ao0 : List Opn := (formatJ 3 24).2.1
def ad0 : Dk := (newR 31).1
def ad1 : Dk := (runR ad0 ao0).1
def awA (j : Jrn) (i : Nat) : Jrn × List Opn × Nat := appJ j 1 [byt i]
def awJ : Nat → Jrn
  | 0 => aj0
  | i + 1 => (awA (awJ i) i).1
def awO (i : Nat) : List Opn := (awA (awJ i) i).2.1
def awD : Nat → Dk
  | 0 => ad1
  | i + 1 => (runR (awD i) (awO i)).1
theorem aw_new : newR 31 = (ad0, 0) := Prod.ext rfl (by kernel_rfl)
theorem aw_fmt : formatJ 3 24 = (aj0, ao0, 0) := Prod.ext rfl (Prod.ext rfl (by kernel_rfl))
theorem aw_runZ : (runR ad0 ao0).2.2 = 0 := by kernel_rfl
theorem aw_app0 : (awA (awJ 0) 0).2.2 = 0 := by kernel_rfl
theorem aw_app1 : (awA (awJ 1) 1).2.2 = 0 := by kernel_rfl
theorem aw_app : ∀ i, i < 2 → (awA (awJ i) i).2.2 = 0 := fun i hi => by
  have h : i = 0 ∨ i = 1 := by omega
  rcases h with rfl | rfl
  · exact aw_app0
  · exact aw_app1
theorem aw_run0 : (runR (awD 0) (awO 0)).2.2 = 0 := by kernel_rfl
theorem aw_run1 : (runR (awD 1) (awO 1)).2.2 = 0 := by kernel_rfl
theorem aw_run : ∀ i, i < 2 → (runR (awD i) (awO i)).2.2 = 0 := fun i hi => by
  have h : i = 0 ∨ i = 1 := by omega
  rcases h with rfl | rfl
  · exact aw_run0
  · exact aw_run1
theorem aw_free0 : frJ (awJ (0 + 1)) = 6 - 2 * ((0 : Nat) : Int) := by kernel_rfl
theorem aw_free1 : frJ (awJ (1 + 1)) = 6 - 2 * ((1 : Nat) : Int) := by kernel_rfl
theorem aw_free : ∀ i, i < 2 → frJ (awJ (i + 1)) = 6 - 2 * (i : Int) := fun i hi => by
  have h : i = 0 ∨ i = 1 := by omega
  rcases h with rfl | rfl
  · exact aw_free0
  · exact aw_free1
theorem aw_next9 : (appJ (awJ 2) 1 (List.replicate 9 0)).2.2 = 0 := by kernel_rfl
theorem aw_free9 : frJ (appJ (awJ 2) 1 (List.replicate 9 0)).1 = 0 := by kernel_rfl
theorem aw_full : appJ (awJ 2) 1 (List.replicate 10 0) = (zjr, [], 11) := by kernel_rfl
def awR (i : Nat) : Rcd := ⟨1, 1 + (i : Int), [byt i]⟩
theorem aw_open : openJ 3 24 (awD 2) = (awJ 2, [awR 0, awR 1], [], 0) := by kernel_rfl
theorem aw_nx : nxJ (awJ 2) = 3 := by kernel_rfl
theorem aw_ld : (loadS (awD 2) 3).1.length ≤ 100 := Nat.le_of_ble_eq_true (by kernel_rfl)
theorem aw_len : ∀ i, i ≤ 2 → Nat.ble (awD i).stable.length 1000 = true ∧ Nat.ble (awD i).cache.length 1000 = true ∧ Nat.ble (awJ i).sizes.length 1000 = true := fun i hi => by
  have h : i = 0 ∨ i = 1 ∨ i = 2 := by omega
  rcases h with rfl | rfl | rfl <;> exact ⟨by kernel_rfl, by kernel_rfl, by kernel_rfl⟩
theorem aw_tot : ∀ i, i < 2 → Nat.ble (tot (awO i)) 1000 = true ∧ Nat.ble (awO i).length 1000 = true := fun i hi => by
  have h : i = 0 ∨ i = 1 := by omega
  rcases h with rfl | rfl <;> exact ⟨by kernel_rfl, by kernel_rfl⟩
theorem aw_tot0 : Nat.ble (tot ao0) 1000 = true ∧ Nat.ble ao0.length 1000 = true := ⟨by kernel_rfl, by kernel_rfl⟩
theorem aw_d0 : Nat.ble ad0.stable.length 1000 = true ∧ Nat.ble ad0.cache.length 1000 = true := ⟨by kernel_rfl, by kernel_rfl⟩
theorem aw_len9 : Nat.ble (appJ (awJ 2) 1 (List.replicate 9 0)).1.sizes.length 1000 = true := by kernel_rfl
end Go.Proofs.YtmgoflhjblombaaGreatDoor
namespace Go.Proofs.YtmgoflhjblombaaGreatDoor
open Go.Proofs
@[go_sem, simp] theorem dkC_drop2 (d : Dk) : (dkC d).drop 2 = [] := rfl
@[go_sem, simp] theorem dkC_take2 (d : Dk) : (dkC d).take 2 = dkC d := rfl
set_option maxRecDepth 8000 in
theorem begin4_cc (H : Hp) (V : List Nat)  : CC Tryz.prog 20 [.v (.int .u8 4)] H V (Pu (.tup [.agg (dkC ad1), .agg (jrC aj0), cb true]) H V) := by
  refine CC.of_swp Tryz.func20 rfl (by kernel_rfl) (by rw [Tryz.ntmps20]; exact len_le _ _ rfl) fun hok hokH => ?_
  clear hok
  have q0 := aw_d0
  have q1 := aw_tot0
  have l1 := Nat.le_of_ble_eq_true q0.1
  have l2 := Nat.le_of_ble_eq_true q0.2
  have l3 := Nat.le_of_ble_eq_true q1.1
  have l4 := Nat.le_of_ble_eq_true q1.2
  refine SWp.seq (Wp.s ?_)
  simp -implicitDefEqProofs [go_sem, args0]
  refine SWp.seq (Wp.s ?_)
  simp -implicitDefEqProofs [go_sem]
  refine CC.mono (show CC Tryz.prog 17 [.v (.int .u8 4)] _ _ (Pu (.agg [iv 3, iv 24]) _ _) from region_cc _ _ 4) ?_
  rintro _ _ _ ⟨rfl, rfl, rfl⟩
  simp -implicitDefEqProofs [go_sem, show IntKind.i64.wrap 31 = 31 from rfl]
  refine CC.mono (sNew_cc _ _ 31) ?_
  rintro _ _ _ ⟨rfl, rfl, rfl⟩
  rw [aw_new]
  simp -implicitDefEqProofs [go_sem]
  refine SWp.seq (Wp.s ?_)
  simp -implicitDefEqProofs [go_sem]
  refine CC.mono (show CC Tryz.prog 17 [.v (.int .u8 4)] _ _ (Pu (.agg [iv 3, iv 24]) _ _) from region_cc _ _ 4) ?_
  rintro _ _ _ ⟨rfl, rfl, rfl⟩
  simp -implicitDefEqProofs [go_sem]
  refine CC.mono (Format_cc _ _ 3 24) ?_
  rintro _ _ _ ⟨rfl, rfl, rfl⟩
  rw [aw_fmt]
  simp -implicitDefEqProofs [go_sem, jtV]
  refine SWp.seq (Wp.s ?_)
  simp -implicitDefEqProofs [go_sem]
  refine CC.mono (sRun_cc _ _ ad0 ao0 (by omega) (by omega) (by omega)) ?_
  rintro _ _ _ ⟨rfl, rfl, rfl⟩
  simp -implicitDefEqProofs [go_sem, runV]
  refine SWp.seq (SWp.drawnT [H.length + 3] [12, 13] (.s 0 .pl <| .s 1 .ld <| .s 2 .pl <| .s 3 .pl <| .s 4 .pl <| .s 5 .pl <| .s 6 .pl <| .s 7 .pl <| .s 8 .pl <| .s 9 .pl <| .s 10 .pl <| .s 11 .pl <| .s 12 .st <| .s 13 .st <| .s 14 .pl <| .n) (by kernel_rfl) (by kernel_rfl) ?_)
  simp -implicitDefEqProofs [go_sem, aw_runZ]
  have hk : ∀ (x y a b c : Option (List CV)), Kp [H.length + 3] (H ++ [x, a, b, c]) (H ++ [y, a, b, c]) := fun x y a b c => Kp.keep fun b' hb => by
    obtain rfl : b' = H.length + 3 := by simpa using hb
    rw [hget, hget]; rfl
  have hk2 : ∀ (x y a b c : Option (List CV)), Kp [H.length + 3] (H ++ [a, x, b, c]) (H ++ [a, y, b, c]) := fun x y a b c => Kp.keep fun b' hb => by
    obtain rfl : b' = H.length + 3 := by simpa using hb
    rw [hget, hget]; rfl
  refine ⟨hk _ _ _ _ _, hk2 _ _ _ _ _, Wp.s ?_⟩
  simp -implicitDefEqProofs [go_sem]
  refine Fin.pu (.refl _) ?_ hokH (by simp) (by simp)
  simp [go_sem, okL, okV, okL_jrC]
theorem call_bytes {f : FuncId} {H : Hp} {V : List Nat} {R : CV → Hp → List Nat → Prop} {x y : CV} (b n : Nat) (hb : H[b]? = some (some (fb (List.replicate n 0)))) (hc : CC Tryz.prog f [x, y, .sl .sh 1 (bs (List.replicate n 0))] (H.set b none) V R) : CC Tryz.prog f [x, y, .bsl b 0 n 1] H V R := by
  have hch := fb_chunks (List.replicate n 0)
  rw [List.length_replicate] at hch
  refine CC.let_go _ b _ hb (.cons (.refl _) (.cons (.refl _) (.cons ?_ .nil))) hc
  rw [← hch]
  exact .bsl _ _ _ (by simp)
def aw9 : Jrn := (appJ (awJ 2) 1 (List.replicate 9 0)).1
set_option maxRecDepth 8000 in
theorem awake_cc (H : Hp) (V : List Nat)  : CC Tryz.prog 9 [] H V (Pu (cb true) H V) := by
  refine CC.of_swp Tryz.func9 rfl (by kernel_rfl) (by rw [Tryz.ntmps9]; exact len_le _ _ rfl) fun hok hokH => ?_
  clear hok
  refine SWp.seq (Wp.s ?_)
  simp -implicitDefEqProofs [go_sem, args0]
  refine SWp.seq (Wp.s ?_)
  simp -implicitDefEqProofs [go_sem]
  refine CC.mono (begin4_cc _ _) ?_
  rintro _ _ _ ⟨rfl, rfl, rfl⟩
  simp -implicitDefEqProofs [go_sem]
  refine SWp.join (α := Unit) (fun x => ([(1, .ptr H.length 0), (2, .ptr (H.length + 1) 0), (3, cb true)], H ++ [some (dkC (awD 2)), some (jrC (awJ 2))], V)) (fun _ => True) ?_ ?_
  · refine SWp.seq (Wp.s ?_)
    simp -implicitDefEqProofs [go_sem]
    refine SWp.block ?_
    refine SWp.loop (α := Nat) (fun i => ([(1, .ptr H.length 0), (2, .ptr (H.length + 1) 0), (3, cb true), (4, ci i)], H ++ [some (dkC (awD i)), some (jrC (awJ i))], V)) (fun i => i ≤ 2) (fun i => 2 - i) 0 (by omega) (Sh.forget (by simp [go_sem]) rfl rfl) ?_
    intro i hi
    dsimp only
    obtain ⟨q1, q2, q3⟩ := aw_len i hi
    have l1 := Nat.le_of_ble_eq_true q1
    have l2 := Nat.le_of_ble_eq_true q2
    have l3 := Nat.le_of_ble_eq_true q3
    refine SWp.seq (SWp.seq (Wp.s ?_))
    by_cases h : i < 2
    case neg =>
      obtain rfl : i = 2 := by omega
      simp -implicitDefEqProofs [go_sem]
      refine Wp.s ?_
      simp -implicitDefEqProofs [go_sem]
      exact Sh.forget (by simp [go_sem]) rfl rfl
    have h' : (i : Int) < 2 := by omega
    simp -implicitDefEqProofs [go_sem, h']
    refine Wp.s ?_
    simp -implicitDefEqProofs [go_sem]
    refine SWp.seq (SWp.block (SWp.seq (Wp.s ?_)))
    simp -implicitDefEqProofs [go_sem, u8s_1]
    refine CC.le (ys := [.agg (jrC (awJ i)), iv 1, .sl .sh 1 (bs [byt i])]) (.cons (.refl _) (.cons (.refl _) (.cons (.sh _ _ _) .nil))) ?_
    refine CC.mono (Append_cc _ _ (awJ i) 1 [byt i] (by omega) (show 1 ≤ 900000000 by decide)) ?_
    rintro _ _ _ ⟨rfl, rfl, rfl⟩
    have ea : appJ (awJ i) 1 [byt i] = (awJ (i + 1), awO i, 0) := Prod.ext rfl (Prod.ext rfl (aw_app i h))
    rw [ea]
    simp -implicitDefEqProofs [go_sem, jtV]
    obtain ⟨p1, p2⟩ := aw_tot i h
    have l4 := Nat.le_of_ble_eq_true p1
    have l5 := Nat.le_of_ble_eq_true p2
    refine SWp.seq (Wp.s ?_)
    simp -implicitDefEqProofs [go_sem]
    refine CC.mono (sRun_cc _ _ (awD i) (awO i) (by omega) (by omega) (by omega)) ?_
    rintro _ _ _ ⟨rfl, rfl, rfl⟩
    have er1 : runR (awD i) (awO i) = (awD (i + 1), (runR (awD i) (awO i)).2.1, 0) := Prod.ext rfl (Prod.ext rfl (aw_run i h))
    rw [er1]
    simp -implicitDefEqProofs [go_sem, runV]
    obtain ⟨q1', q2', q3'⟩ := aw_len (i + 1) (by omega)
    have l3' := Nat.le_of_ble_eq_true q3'
    have hf := aw_free i h
    have w1 : IntKind.i64.wrap (2 * (i : Int)) = 2 * (i : Int) := IntWalk.i64_in _ ⟨by omega, by omega⟩
    have w2 : IntKind.i64.wrap (6 - 2 * (i : Int)) = 6 - 2 * (i : Int) := IntWalk.i64_in _ ⟨by omega, by omega⟩
    refine SWp.drawnT [H.length + 2] [11] (.s 0 .pl <| .s 1 .pl <| .s 2 .pl <| .s 3 .pl <| .s 4 .ld <| .s 6 .pl <| .s 7 .pl <| .s 8 .pl <| .s 5 .pl <| .s 9 .pl <| .s 10 .pl <| .s 11 .st <| .s 12 .pl <| .n) (by kernel_rfl) (by kernel_rfl) ?_
    simp -implicitDefEqProofs [go_sem, w1, w2]
    refine CC.mono (JFree_cc _ _ (awJ (i + 1)) (by omega)) ?_
    rintro _ _ _ ⟨rfl, rfl, rfl⟩
    simp -implicitDefEqProofs [go_sem, hf]
    refine ⟨Kp.keep fun b hb => ?_, ?_⟩
    · obtain rfl : b = H.length + 2 := by simpa using hb
      rw [hget, hget]; rfl
    refine Wp.s ?_
    simp -implicitDefEqProofs [go_sem]
    refine ⟨i + 1, by omega, by omega, Sh.trim (L := [some (dkC (awD (i + 1))), some (jrC (awJ (i + 1)))]) ?_ (by simp [go_sem]) hokH (by simp [go_sem]) (Nat.le_refl _) (by simp) (by simp)⟩
    simp [go_sem, wrap_succ (show i ≤ 1000000000 by omega)]
  rintro _ -
  dsimp only
  obtain ⟨q1, q2, q3⟩ := aw_len 2 (Nat.le_refl _)
  have l1 := Nat.le_of_ble_eq_true q1
  have l2 := Nat.le_of_ble_eq_true q2
  have l3 := Nat.le_of_ble_eq_true q3
  have e9 : appJ (awJ 2) 1 (List.replicate 9 0) = (aw9, (appJ (awJ 2) 1 (List.replicate 9 0)).2.1, 0) := Prod.ext rfl (Prod.ext rfl aw_next9)
  have hkp : ∀ (x y : Hp), Kp [H.length + 1] (H ++ some (dkC (awD 2)) :: some (jrC (awJ 2)) :: x) (H ++ some (dkC (awD 2)) :: some (jrC (awJ 2)) :: y) := fun x y => Kp.keep fun b hb => by
    obtain rfl : b = H.length + 1 := by simpa using hb
    rw [hget, hget]; rfl
  refine SWp.join (α := Bool) (fun x => ([(1, .ptr H.length 0), (2, .ptr (H.length + 1) 0), (3, cb true), (8, .ptr (H.length + 2 + cond x 1 0) 0), (10, er 0)], H ++ (some (dkC (awD 2)) :: some (jrC (awJ 2)) :: cond x [none, some (jrC aw9)] [some (jrC aw9)]), V)) (fun _ => True) ?_ ?_
  · refine SWp.drawnT [H.length + 1] [2, 8] (.s 0 .ld <| .f 1 .pl (.f 2 .st (.s 3 .pl <| .s 4 .pl <| .s 5 .pl <| .s 6 .pl <| .s 7 .pl <| .s 8 .st <| .s 9 .pl <| .s 10 .pl <| .n) 7 .pl (.s 2 .st <| .s 3 .pl <| .s 4 .pl <| .s 5 .pl <| .s 6 .pl <| .s 8 .st <| .s 9 .pl <| .s 10 .pl <| .n)) 7 .pl (.s 1 .pl <| .s 2 .st <| .s 3 .pl <| .s 4 .pl <| .s 5 .pl <| .s 6 .pl <| .s 8 .st <| .s 9 .pl <| .s 10 .pl <| .n)) (by kernel_rfl) (by kernel_rfl) ?_
    simp -implicitDefEqProofs [go_sem]
    refine ⟨⟨?_, ?_⟩, ?_⟩
    · refine call_bytes (H.length + 2) 9 ?_ ?_
      · exact (hget _ _ 2).trans rfl
      refine CC.mono (Append_cc _ _ (awJ 2) 1 (List.replicate 9 0) (by omega) (by decide)) ?_
      rintro _ _ _ ⟨rfl, rfl, rfl⟩
      rw [e9]
      simp -implicitDefEqProofs [go_sem, jtV]
      exact ⟨hkp _ _, hkp _ _, .inr (Sh.forget (by simp [go_sem]) rfl rfl)⟩
    · refine call_bytes (H.length + 2) 9 ?_ ?_
      · exact (hget _ _ 2).trans rfl
      refine CC.mono (Append_cc _ _ (awJ 2) 1 (List.replicate 9 0) (by omega) (by decide)) ?_
      rintro _ _ _ ⟨rfl, rfl, rfl⟩
      rw [e9]
      simp -implicitDefEqProofs [go_sem, jtV]
      exact ⟨hkp _ _, hkp _ _, .inr (Sh.forget (by simp [go_sem]) rfl rfl)⟩
    · refine call_bytes (H.length + 3) 9 ?_ ?_
      · exact (hget _ _ 3).trans rfl
      refine CC.mono (Append_cc _ _ (awJ 2) 1 (List.replicate 9 0) (by omega) (by decide)) ?_
      rintro _ _ _ ⟨rfl, rfl, rfl⟩
      rw [e9]
      simp -implicitDefEqProofs [go_sem, jtV]
      exact ⟨hkp _ _, hkp _ _, .inl (Sh.trim (L := [some (dkC (awD 2)), some (jrC (awJ 2)), some (jrC aw9)]) (by simp [go_sem]) (by simp [go_sem]) hokH (by simp [go_sem]) (Nat.le_refl _) (by simp) (by simp))⟩
  rintro x -
  dsimp only
  refine SWp.join (α := Unit) (fun _ => ([(1, .ptr H.length 0), (2, .ptr (H.length + 1) 0), (3, cb true), (8, .ptr (H.length + 2 + cond x 1 0) 0), (10, er 0), (13, er 11)], H ++ (some (dkC (awD 2)) :: some (jrC (awJ 2)) :: cond x [none, some (jrC aw9)] [some (jrC aw9)]), V)) (fun _ => True) ?_ ?_
  · cases x
    · refine SWp.drawnT [H.length + 1] [2, 8] (.s 0 .ld <| .f 1 .pl (.f 2 .st (.s 3 .pl <| .s 4 .pl <| .s 5 .pl <| .s 6 .pl <| .s 7 .pl <| .s 8 .st <| .s 9 .pl <| .s 10 .pl <| .n) 7 .pl (.s 2 .st <| .s 3 .pl <| .s 4 .pl <| .s 5 .pl <| .s 6 .pl <| .s 8 .st <| .s 9 .pl <| .s 10 .pl <| .n)) 7 .pl (.s 1 .pl <| .s 2 .st <| .s 3 .pl <| .s 4 .pl <| .s 5 .pl <| .s 6 .pl <| .s 8 .st <| .s 9 .pl <| .s 10 .pl <| .n)) (by kernel_rfl) (by kernel_rfl) ?_
      simp -implicitDefEqProofs [go_sem]
      refine ⟨⟨?_, ?_⟩, ?_⟩
      · refine call_bytes (H.length + 3) 10 ?_ ?_
        · exact (hget _ _ 3).trans rfl
        refine CC.mono (Append_cc _ _ (awJ 2) 1 (List.replicate 10 0) (by omega) (by decide)) ?_
        rintro _ _ _ ⟨rfl, rfl, rfl⟩
        rw [aw_full]
        simp -implicitDefEqProofs [go_sem, jtV]
        exact ⟨hkp _ _, hkp _ _, Sh.trim (L := [some (dkC (awD 2)), some (jrC (awJ 2)), some (jrC aw9)]) (by simp [go_sem]) (by simp [go_sem]) hokH (by simp [go_sem]) (Nat.le_refl _) (by simp) (by simp)⟩
      · refine call_bytes (H.length + 3) 10 ?_ ?_
        · exact (hget _ _ 3).trans rfl
        refine CC.mono (Append_cc _ _ (awJ 2) 1 (List.replicate 10 0) (by omega) (by decide)) ?_
        rintro _ _ _ ⟨rfl, rfl, rfl⟩
        rw [aw_full]
        simp -implicitDefEqProofs [go_sem, jtV]
        exact ⟨hkp _ _, hkp _ _, Sh.trim (L := [some (dkC (awD 2)), some (jrC (awJ 2)), some (jrC aw9)]) (by simp [go_sem]) (by simp [go_sem]) hokH (by simp [go_sem]) (Nat.le_refl _) (by simp) (by simp)⟩
      · refine call_bytes (H.length + 4) 10 ?_ ?_
        · exact (hget _ _ 4).trans rfl
        refine CC.mono (Append_cc _ _ (awJ 2) 1 (List.replicate 10 0) (by omega) (by decide)) ?_
        rintro _ _ _ ⟨rfl, rfl, rfl⟩
        rw [aw_full]
        simp -implicitDefEqProofs [go_sem, jtV]
        exact ⟨hkp _ _, hkp _ _, Sh.trim (L := [some (dkC (awD 2)), some (jrC (awJ 2)), some (jrC aw9)]) (by simp [go_sem]) (by simp [go_sem]) hokH (by simp [go_sem]) (Nat.le_refl _) (by simp) (by simp)⟩
    · refine SWp.drawnT [H.length + 1] [2, 8] (.s 0 .ld <| .f 1 .pl (.f 2 .st (.s 3 .pl <| .s 4 .pl <| .s 5 .pl <| .s 6 .pl <| .s 7 .pl <| .s 8 .st <| .s 9 .pl <| .s 10 .pl <| .n) 7 .pl (.s 2 .st <| .s 3 .pl <| .s 4 .pl <| .s 5 .pl <| .s 6 .pl <| .s 8 .st <| .s 9 .pl <| .s 10 .pl <| .n)) 7 .pl (.s 1 .pl <| .s 2 .st <| .s 3 .pl <| .s 4 .pl <| .s 5 .pl <| .s 6 .pl <| .s 8 .st <| .s 9 .pl <| .s 10 .pl <| .n)) (by kernel_rfl) (by kernel_rfl) ?_
      simp -implicitDefEqProofs [go_sem]
      refine ⟨⟨?_, ?_⟩, ?_⟩
      · refine call_bytes (H.length + 4) 10 ?_ ?_
        · exact (hget _ _ 4).trans rfl
        refine CC.mono (Append_cc _ _ (awJ 2) 1 (List.replicate 10 0) (by omega) (by decide)) ?_
        rintro _ _ _ ⟨rfl, rfl, rfl⟩
        rw [aw_full]
        simp -implicitDefEqProofs [go_sem, jtV]
        exact ⟨hkp _ _, hkp _ _, Sh.trim (L := [some (dkC (awD 2)), some (jrC (awJ 2)), none, some (jrC aw9)]) (by simp [go_sem]) (by simp [go_sem]) hokH (by simp [go_sem]) (Nat.le_refl _) (by simp) (by simp)⟩
      · refine call_bytes (H.length + 4) 10 ?_ ?_
        · exact (hget _ _ 4).trans rfl
        refine CC.mono (Append_cc _ _ (awJ 2) 1 (List.replicate 10 0) (by omega) (by decide)) ?_
        rintro _ _ _ ⟨rfl, rfl, rfl⟩
        rw [aw_full]
        simp -implicitDefEqProofs [go_sem, jtV]
        exact ⟨hkp _ _, hkp _ _, Sh.trim (L := [some (dkC (awD 2)), some (jrC (awJ 2)), none, some (jrC aw9)]) (by simp [go_sem]) (by simp [go_sem]) hokH (by simp [go_sem]) (Nat.le_refl _) (by simp) (by simp)⟩
      · refine call_bytes (H.length + 5) 10 ?_ ?_
        · exact (hget _ _ 5).trans rfl
        refine CC.mono (Append_cc _ _ (awJ 2) 1 (List.replicate 10 0) (by omega) (by decide)) ?_
        rintro _ _ _ ⟨rfl, rfl, rfl⟩
        rw [aw_full]
        simp -implicitDefEqProofs [go_sem, jtV]
        exact ⟨hkp _ _, hkp _ _, Sh.trim (L := [some (dkC (awD 2)), some (jrC (awJ 2)), none, some (jrC aw9)]) (by simp [go_sem]) (by simp [go_sem]) hokH (by simp [go_sem]) (Nat.le_refl _) (by simp) (by simp)⟩
  rintro _ -
  dsimp only
  have l9 : aw9.sizes.length ≤ 1000000000 := by
    have h9 : aw9.sizes.length ≤ 1000 := Nat.le_of_ble_eq_true aw_len9
    omega
  have eq1 : decide ((awR 1).pay = [1]) = true := by kernel_rfl
  cases x
  all_goals
    refine SWp.seq (SWp.drawnT [] [9] (.s 0 .pl <| .c 1 <| .c 2 <| .s 3 .pl <| .s 4 .pl <| .s 5 .pl <| .s 6 .pl <| .s 7 .pl <| .s 8 .pl <| .s 9 .st <| .s 10 .pl <| .s 11 .pl <| .s 12 .pl <| .n) (by kernel_rfl) (by kernel_rfl) ?_)
    simp -implicitDefEqProofs [go_sem]
    refine ⟨.agg [iv 3, iv 24], fun H V => region_cc H V 4, ?_⟩
    simp -implicitDefEqProofs [go_sem]
    refine ⟨_, fun H V => Open_cc H V 3 24 (awD 2) ⟨by omega, by omega⟩ aw_ld, ?_⟩
    rw [aw_open]
    simp -implicitDefEqProofs [go_sem, opV]
    refine SWp.seq (Wp.s ?_)
    simp -implicitDefEqProofs [go_sem]
    refine CC.mono (JFree_cc _ _ aw9 l9) ?_
    rintro _ _ _ ⟨rfl, rfl, rfl⟩
    simp -implicitDefEqProofs [go_sem, show frJ aw9 = 0 from aw_free9]
    refine CC.mono (show CC Tryz.prog 24 [.sl .sh 1 (bs (awR 1).pay), .sl .ti 1 (bs [1])] _ _ (Pu (cb (decide ((awR 1).pay = [1]))) _ _) from sEqual_cc _ _ .sh .ti (awR 1).pay [1]) ?_
    rintro _ _ _ ⟨rfl, rfl, rfl⟩
    rw [eq1]
    simp -implicitDefEqProofs [go_sem]
    refine CC.mono (Same_cc _ _ (awJ 2) (by omega)) ?_
    rintro _ _ _ ⟨rfl, rfl, rfl⟩
    simp -implicitDefEqProofs [go_sem]
    refine CC.mono (JNext_cc _ _ (awJ 2) (by omega)) ?_
    rintro _ _ _ ⟨rfl, rfl, rfl⟩
    simp -implicitDefEqProofs [go_sem, aw_nx]
    refine Wp.s ?_
    simp -implicitDefEqProofs [go_sem]
    exact Fin.bool rfl hokH (by simp) (by simp)
end Go.Proofs.YtmgoflhjblombaaGreatDoor
namespace Go.Proofs.YtmgoflhjblombaaGreatDoor
open Go.Proofs
end Go.Proofs.YtmgoflhjblombaaGreatDoor
namespace Go.Proofs.YtmgoflhjblombaaGreatDoor
open Go.Proofs
end Go.Proofs.YtmgoflhjblombaaGreatDoor
namespace Go.Proofs.YtmgoflhjblombaaGreatDoor
open Go.Proofs
end Go.Proofs.YtmgoflhjblombaaGreatDoor
namespace Go.Proofs.YtmgoflhjblombaaGreatDoor
open Go.Proofs
end Go.Proofs.YtmgoflhjblombaaGreatDoor
namespace Go.Proofs.YtmgoflhjblombaaGreatDoor
open Go.Proofs
theorem parseS_len (l : List Sec) : (parseS l).2.length ≤ 31 := by
  unfold parseS
  split
  · rename_i h
    rw [valid, Bool.and_eq_true, okData, Bool.and_eq_true, decide_eq_true_eq] at h
    show (pay l).length ≤ 31
    rw [pay, List.length_take]
    omega
  · exact Nat.zero_le _
theorem loadS_len (d : Dk) (a : Int) : (loadS d a).1.length ≤ 100 := by
  unfold loadS
  split
  · exact Nat.zero_le _
  · split
    · exact Nat.zero_le _
    · show (best _).2.length ≤ 100
      unfold best
      split
      · exact Nat.le_trans (parseS_len _) (by decide)
      · exact Nat.le_trans (parseS_len _) (by decide)
theorem sumI_snoc' (l : List Int) (x : Int) : sumI (l ++ [x]) = sumI l + x := by rw [sumI, List.foldl_append]; rfl
theorem tailX_sum {n h : Int} (hn : 0 < n) (h0 : 0 ≤ h) (h1 : h < n) (l : List Int) : tailX n h l = (h + sumI l) % n := by
  suffices hh : ∀ m, tailX n h (l.take m) = (h + sumI (l.take m)) % n by
    have := hh l.length
    rwa [List.take_length] at this
  intro m
  induction m with
  | zero =>
    rw [List.take_zero]
    show h = (h + sumI []) % n
    rw [show sumI ([] : List Int) = 0 from rfl, Int.add_zero, Int.emod_eq_of_lt h0 h1]
  | succ m ih =>
    by_cases hm : m < l.length
    · rw [List.take_succ_eq_append_getElem hm, tailX_snoc, sumI_snoc', ih, Int.emod_add_emod, Int.add_assoc]
    · rw [List.take_of_length_le (by omega)] at ih ⊢
      exact ih
theorem markX_get (n : Nat) (hn : 0 < n) (tl nxt : Int) (ct : List Sec) : ∀ (i : Nat), i ≤ n → ∀ p, p < n → (markX n tl nxt ct i)[p]? = some (decide (((p : Int) - tl) % n < i) && decide (nxt ≤ (gn (ct.getD p sec0) : Int)))
  | 0, _, p, hp => by
    have := Int.emod_nonneg ((p : Int) - tl) (show (n : Int) ≠ 0 by omega)
    rw [markX, List.getElem?_replicate, if_pos (by simpa using hp)]
    congr 1
    rw [decide_eq_false (by omega), Bool.false_and]
  | i + 1, hi, p, hp => by
    have hq0 := Int.emod_nonneg (tl + (i : Int)) (show (n : Int) ≠ 0 by omega)
    have hq1 := Int.emod_lt_of_pos (tl + (i : Int)) (show 0 < (n : Int) by omega)
    have hp0 := Int.emod_nonneg ((p : Int) - tl) (show (n : Int) ≠ 0 by omega)
    have hp1 := Int.emod_lt_of_pos ((p : Int) - tl) (show 0 < (n : Int) by omega)
    rw [markX]
    by_cases e : ((tl + (i : Int)) % (n : Int)).toNat = p
    · have e1 : ((p : Int) - tl) % n = i := by
        have : (p : Int) = (tl + (i : Int)) % (n : Int) := by omega
        rw [this, Int.emod_sub_emod, show tl + (i : Int) - tl = i by omega, Int.emod_eq_of_lt (by omega) (by omega)]
      rw [e, List.getElem?_set, if_pos rfl, if_pos (by rw [markX_len]; simpa using hp), e1, decide_eq_true (show (i : Int) < ((i + 1 : Nat) : Int) by omega), Bool.true_and]
    · have e1 : ((p : Int) - tl) % n ≠ i := fun q => e (by
        have : (tl + (i : Int)) % (n : Int) = p := by
          rw [← q, Int.add_emod_emod, show tl + ((p : Int) - tl) = p by omega, Int.emod_eq_of_lt (by omega) (by omega)]
        rw [this]; simp)
      rw [List.getElem?_set_ne e, markX_get n hn tl nxt ct i (by omega) p hp]
      congr 2
      exact decide_eq_decide.2 (by omega)
theorem ring_free {n : Nat} {p : Nat} {at' sm : Int} (hn : 0 < n) (h0 : 0 ≤ sm) (h1 : sm ≤ n) : ((p : Int) - (at' + sm) % n) % n < n - sm ↔ ¬ ((p : Int) - at' + n) % n < sm := by
  have e1 : ((p : Int) - (at' + sm) % n) % n = (((p : Int) - at') % n - sm) % n := by
    rw [Int.sub_emod_emod, Int.emod_sub_emod]; congr 1; omega
  have e2 : ((p : Int) - at' + n) % n = ((p : Int) - at') % n := Int.add_emod_right ..
  rw [e1, e2]
  have q0 := Int.emod_nonneg ((p : Int) - at') (show (n : Int) ≠ 0 by omega)
  have q1 := Int.emod_lt_of_pos ((p : Int) - at') (show 0 < (n : Int) by omega)
  generalize ((p : Int) - at') % n = q at q0 q1
  by_cases h : q < sm
  · have : (q - sm) % (n : Int) = q - sm + n := by
      rw [← Int.add_emod_right]
      exact Int.emod_eq_of_lt (by omega) (by omega)
    rw [this]; omega
  · rw [Int.emod_eq_of_lt (by omega) (by omega)]; omega
end Go.Proofs.YtmgoflhjblombaaGreatDoor
namespace Go.Proofs.YtmgoflhjblombaaGreatDoor
open Go.Proofs
def mkJ (j : Jrn) (ct : List Sec) : List Bool := markX (j.count - 16) j.tail (nextJ j) ct (freeJ j).toNat
theorem remX_eq (j : Jrn) (ct : List Sec) : remX j ct = if runsX j.start ((mkJ j ct).length + 1) (mkJ j ct) 0 = [] then [] else runsX j.start ((mkJ j ct).length + 1) (mkJ j ct) 0 ++ [opS] := rfl
theorem mkJ_len (j : Jrn) (ct : List Sec) : (mkJ j ct).length = (j.count - 16).toNat := markX_len _ _ _ _ _
theorem mkJ_get {j : Jrn} (h : chkJ j = true) {ct : List Sec} {n : Nat} (hn : j.count - 16 = (n : Int)) (p : Nat) (hp : p < n) : (mkJ j ct)[p]? = some (!(decide (((p : Int) - j.head + n) % n < sumI j.sizes) || decide ((gn (ct.getD p sec0) : Int) < nextJ j))) := by
  have hs := chkJ_sum h
  have h1 := (chkJ_iff j).1 h
  obtain ⟨f, hf⟩ : ∃ f : Nat, freeJ j = (f : Int) := ⟨(freeJ j).toNat, by rw [freeJ]; omega⟩
  have hfj : j.count - 16 - sumI j.sizes = (f : Int) := by rw [← hf, freeJ]
  have e := ring_free (n := n) (p := p) (at' := j.head) (sm := sumI j.sizes) (by omega) (by omega) (by omega)
  rw [mkJ, hf, Int.toNat_natCast, hn, markX_get n (by omega) _ _ _ f (by omega) p hp, h1.2.2.2.2, hn, show (f : Int) = n - sumI j.sizes by omega]
  congr 1
  rw [Bool.eq_iff_iff]
  simp only [Bool.and_eq_true, decide_eq_true_eq, Bool.not_eq_true', Bool.or_eq_false_iff, decide_eq_false_iff_not]
  rw [e]
  omega
end Go.Proofs.YtmgoflhjblombaaGreatDoor
namespace Go.Proofs.YtmgoflhjblombaaGreatDoor
open Go.Proofs
theorem Fin.weak {nb nv : Nat} {R : CV → Hp → List Nat → Prop} {r : CV} {H : Hp} {V : List Nat} {b : Nat} {cs ds : List CV} (hb : H[b]? = some (some cs)) (h : LeL cs ds) (hno : ∀ x ∈ cs, x.isObj = false) (hf : Fin nb nv R r (H.set b (some ds)) V) : Fin nb nv R r H V := by
  obtain ⟨r', H', V', g, hR⟩ := hf
  exact ⟨r', H', V', Gst.trans (Gst.weak hb h hno) g, hR⟩
end Go.Proofs.YtmgoflhjblombaaGreatDoor
namespace Go.Proofs.YtmgoflhjblombaaGreatDoor
theorem encN_pos : ∀ n, 0 < (encN n).length := fun n => by
  by_cases h : n < 128
  · rw [encN_lt h]; simp
  · rw [encN_ge (by omega)]; simp
theorem numG_enc : ∀ (m f i n : Nat) (r : List UInt8), (0 < i → 0 < m) → n + m * 128 ^ i ≤ 9007199254740991 → (encN m).length ≤ f → numG f i n (encN m ++ r) = .ok (n + m * 128 ^ i, r) := by
  intro m
  induction m using Nat.strongRecOn with
  | ind m ih =>
    intro f i n r h0 h1 h2
    cases f with
    | zero => have := encN_pos m; omega
    | succ f =>
      by_cases hm : m < 128
      · have hb : (UInt8.ofNat m).toNat = m := by rw [UInt8.toNat_ofNat']; omega
        rw [encN_lt hm, List.cons_append, List.nil_append, numG, hb, if_pos hm, if_neg (by omega)]
      · have hb : (UInt8.ofNat (m % 128 + 128)).toNat = m % 128 + 128 := by rw [UInt8.toNat_ofNat']; omega
        have e1 : (m % 128 + 128) % 128 = m % 128 := by omega
        have e2 : n + m % 128 * 128 ^ i + m / 128 * 128 ^ (i + 1) = n + m * 128 ^ i := by
          have h3 : m = m % 128 + m / 128 * 128 := by omega
          have h4 : m * 128 ^ i = m % 128 * 128 ^ i + m / 128 * 128 * 128 ^ i := by rw [← Nat.add_mul, ← h3]
          have h5 : m / 128 * 128 ^ (i + 1) = m / 128 * 128 * 128 ^ i := by rw [Nat.pow_succ, Nat.mul_comm (128 ^ i), Nat.mul_assoc]
          omega
        rw [encN_ge (n := m) (by omega), List.length_cons] at h2
        rw [encN_ge (n := m) (by omega), List.cons_append, numG, hb, if_neg (by omega), e1, ih (m / 128) (by omega) f (i + 1) _ r (by omega) (by rw [e2]; exact h1) (by omega), e2]
theorem number_enc (n : Int) (r : List UInt8) : number (enc n ++ r) = .ok (norm n, r) := by
  have h := numG_enc (norm n) 8 0 0 r (by omega) (by have := norm_lt n; omega) (enc_len n)
  rw [number, enc, h]; simp
section
variable {α : Type} {p : Pr α} {e : α → List UInt8} {h : α → α} {A : α → Prop}
end
theorem Sec.same {a b : Sec} (h : a.val = b.val) : a = b := by
  cases a; cases b; cases h; rfl
end Go.Proofs.YtmgoflhjblombaaGreatDoor
namespace Go.Proofs.YtmgoflhjblombaaGreatDoor
open Go.Proofs
theorem gn_eq (s : Sec) : gn s = ((sb s 3 * 256 + sb s 2) * 256 + sb s 1) * 256 + sb s 0 := by
  simp [gn, gi]
theorem gn_secOf {n : Nat} {p : List UInt8} (hn : n < 4294967296) (hp : p.length ≤ 31) {i : Nat} (hi : i < 8) : gn (secOf n p i) = n := by
  have h : ∀ j, j < 4 → sb (secOf n p i) j = n / 256 ^ j % 256 := fun j hj => by
    rw [sb, secOf_val n hp hi]
    rcases j with _ | _ | _ | _ | j
    · simp [le4]
    · simp [le4]
    · simp [le4]
    · simp [le4]
    · omega
  rw [gn_eq, h 3 (by omega), h 2 (by omega), h 1 (by omega), h 0 (by omega)]
  omega
theorem copyS_get (n : Nat) (p : List UInt8) (j : Nat) (h : j < 8) : (copyS n p)[j]? = some (secOf n p j) := by
  rw [copyS, List.getElem?_map, List.getElem?_range h]; rfl
theorem parts_take (D : List UInt8) : ∀ k, (List.range k).flatMap (fun i => (D.drop (4 * i)).take 4) = D.take (4 * k)
  | 0 => rfl
  | k + 1 => by
    rw [List.range_succ, List.flatMap_append, parts_take D k, Nat.mul_succ, List.take_add]
    simp
theorem dataS_copy {n : Nat} {p : List UInt8} (hp : p.length ≤ 31) : dataS (copyS n p) = dataOf p := by
  have h : dataS (copyS n p) = (List.range 8).flatMap (fun i => ((dataOf p).drop (4 * i)).take 4) := by
    rw [dataS, copyS, List.flatMap_map, List.flatMap_def, List.flatMap_def]
    congr 1
    refine List.map_congr_left fun i hi => ?_
    rw [List.mem_range] at hi
    rw [secOf_val n hp hi, List.drop_append_of_le_length (by rw [le4_len]; exact Nat.le_refl _), List.drop_of_length_le (by rw [le4_len]; exact Nat.le_refl _), List.nil_append]
    rfl
  rw [h, parts_take, List.take_of_length_le (by rw [dataOf_len hp]; decide)]
theorem dataOf_0 {p : List UInt8} (hp : p.length ≤ 31) : ((dataOf p).getD 0 0).toNat = p.length := by
  simp [dataOf]; omega
theorem okData_of {p : List UInt8} (hp : p.length ≤ 31) : okData (dataOf p) = true := by
  rw [okData, dataOf_0 hp]
  simp only [Bool.and_eq_true, decide_eq_true_eq]
  refine ⟨hp, ?_⟩
  rw [dataOf, List.cons_append, List.drop_succ_cons, List.drop_append_of_le_length (Nat.le_refl _), List.drop_length, List.nil_append]
  simp
theorem g0_copy {n : Nat} {p : List UInt8} (hn : n < 4294967296) (hp : p.length ≤ 31) : g0 (copyS n p) = n := by
  rw [g0, List.getD_eq_getElem?_getD, copyS_get n p 0 (by decide)]
  exact gn_secOf hn hp (by decide)
theorem parse_copy {n : Nat} {p : List UInt8} (hn : n < 4294967296) (hp : p.length ≤ 31) : parseS (copyS n p) = (n, p) := by
  have hv : valid (copyS n p) = true := by
    rw [valid, g0_copy hn hp, dataS_copy hp, okData_of hp, Bool.and_true, List.all_eq_true]
    intro s hs
    obtain ⟨i, hi, rfl⟩ := List.mem_map.1 hs
    rw [List.mem_range] at hi
    simp [gn_secOf hn hp hi]
  rw [parseS, if_pos hv, g0_copy hn hp, pay, dataS_copy hp, dataOf_0 hp, dataOf, List.cons_append, List.drop_succ_cons, List.drop_zero, List.take_append_of_le_length (Nat.le_refl _), List.take_length]
theorem puts_get (a : Nat) (l s : List Sec) : ∀ i, i ≤ l.length → a + l.length ≤ s.length → ∀ j, ((puts a (l.take i)).foldl setC s)[j]? = if a ≤ j ∧ j < a + i then l[j - a]? else s[j]?
  | 0, _, _, j => by
    rw [if_neg (by omega)]; rfl
  | i + 1, h1, h2, j => by
    have ih := puts_get a l s i (by omega) h2 j
    rw [puts_succ _ _ _ (by omega), List.foldl_append, List.foldl_cons, List.foldl_nil, setC]
    have hp : ((a : Int) + (i : Int)).toNat = a + i := by omega
    dsimp only
    rw [hp, List.getElem?_set]
    by_cases e : a + i = j
    · subst e
      rw [if_pos rfl, if_pos (by rw [foldl_setC_len]; omega), if_pos (by omega), Nat.add_sub_cancel_left, List.getElem?_eq_getElem (by omega)]
    · rw [if_neg e, ih]
      by_cases h : a ≤ j ∧ j < a + i
      · rw [if_pos h, if_pos (by omega)]
      · rw [if_neg h, if_neg (by omega)]
def patS (s : List Sec) (a : Nat) (l : List Sec) : List Sec := (puts a l).foldl setC s
theorem patS_len (s : List Sec) (a : Nat) (l : List Sec) : (patS s a l).length = s.length := foldl_setC_len _ _
theorem patS_get {s : List Sec} {a : Nat} {l : List Sec} (h : a + l.length ≤ s.length) (j : Nat) : (patS s a l)[j]? = if a ≤ j ∧ j < a + l.length then l[j - a]? else s[j]? := by
  have := puts_get a l s l.length (Nat.le_refl _) h j
  rwa [List.take_length] at this
theorem inside_ok {s : List Sec} {c : List Cach} {a : Nat} {l : List Sec} (h : a + l.length ≤ s.length) : insideB ⟨s, c⟩ a l.length = true := by
  simp only [insideB, Bool.and_eq_true, decide_eq_true_eq]; omega
theorem runD_s {s : List Sec} {c : List Cach} (r : List Opn) (i : Nat) : runD ⟨s, c⟩ (opS :: r) i = runD ⟨newestD ⟨s, c⟩, []⟩ r (i + 1) := by
  rw [runD, stepD, if_neg (by simp [opS]), if_neg (by simp [opS])]
theorem chk_nil {s : List Sec} (h : s.length ≤ 4096) : checkD ⟨s, []⟩ = 0 := by
  rw [checkD_iff]; exact ⟨h, fun c hc => by cases hc⟩
structure Mx (s s' : List Sec) (a : Nat) (l : List Sec) : Prop where
  len : s'.length = s.length
  get : ∀ j : Nat, s'[j]? = s[j]? ∨ (a ≤ j ∧ j < a + l.length ∧ s'[j]? = l[j - a]?)
theorem Mx.refl (s : List Sec) (a : Nat) (l : List Sec) : Mx s s a l := ⟨rfl, fun _ => .inl rfl⟩
theorem Mx.pat {s : List Sec} {a : Nat} {l : List Sec} (h : a + l.length ≤ s.length) : Mx s (patS s a l) a l :=
  ⟨patS_len _ _ _, fun j => by
    rw [patS_get h]
    by_cases hj : a ≤ j ∧ j < a + l.length
    · rw [if_pos hj]; exact .inr ⟨hj.1, hj.2, rfl⟩
    · rw [if_neg hj]; exact .inl rfl⟩
theorem valid_gn {l : List Sec} (h : valid l = true) : ∀ s ∈ l, gn s = g0 l := fun s hs => by
  rw [valid, Bool.and_eq_true, List.all_eq_true] at h
  simpa using h.1 s hs
theorem parse_bad {l : List Sec} {s t : Sec} (hs : s ∈ l) (ht : t ∈ l) (h : gn s ≠ gn t) : (parseS l).1 = 0 := by
  by_cases hv : valid l = true
  · exact absurd ((valid_gn hv s hs).trans (valid_gn hv t ht).symm) h
  · rw [parseS, if_neg hv]
theorem parse_gn {l : List Sec} (h : 1 ≤ (parseS l).1) : ∀ s ∈ l, gn s = (parseS l).1 := fun s hs => by
  by_cases hv : valid l = true
  · rw [parseS, if_pos hv]; exact valid_gn hv s hs
  · rw [parseS, if_neg hv] at h; cases h
theorem half {h h' : List Sec} {n : Nat} {p : List UInt8} (hn : n < 4294967296) (hp : p.length ≤ 31) (l1 : h.length = 8) (l2 : h'.length = 8) (hg : ∀ s ∈ h, gn s < n) (hx : ∀ j, j < 8 → h'[j]? = h[j]? ∨ h'[j]? = some (secOf n p j)) :
    parseS h' = (n, p) ∨ parseS h' = parseS h ∨ (parseS h').1 = 0 := by
  by_cases a : ∀ j, j < 8 → h'[j]? = h[j]?
  · right; left
    congr 1
    refine List.ext_getElem? fun j => ?_
    rcases Nat.lt_or_ge j 8 with hj | hj
    · exact a j hj
    · rw [List.getElem?_eq_none (by omega), List.getElem?_eq_none (by omega)]
  by_cases b : ∀ j, j < 8 → h'[j]? = some (secOf n p j)
  · left
    have : h' = copyS n p := by
      refine List.ext_getElem? fun j => ?_
      rcases Nat.lt_or_ge j 8 with hj | hj
      · rw [b j hj, copyS_get n p j hj]
      · rw [List.getElem?_eq_none (by omega), List.getElem?_eq_none (by rw [copyS_len]; exact hj)]
    rw [this, parse_copy hn hp]
  · right; right
    obtain ⟨i, hi⟩ := Classical.not_forall.1 a
    obtain ⟨hi8, hi⟩ := Classical.not_imp.1 hi
    obtain ⟨j, hj⟩ := Classical.not_forall.1 b
    obtain ⟨hj8, hj⟩ := Classical.not_imp.1 hj
    have e1 : h'[i]? = some (secOf n p i) := (hx i hi8).resolve_left hi
    have e2 : h'[j]? = h[j]? := (hx j hj8).resolve_right hj
    rw [List.getElem?_eq_getElem (by omega : j < h.length)] at e2
    refine parse_bad (List.mem_of_getElem? e1) (List.mem_of_getElem? e2) ?_
    rw [gn_secOf hn hp hi8]
    have := hg _ (List.getElem_mem (by omega : j < h.length))
    omega
theorem half_full {h' : List Sec} {n : Nat} {p : List UInt8} (hn : n < 4294967296) (hp : p.length ≤ 31) (l2 : h'.length = 8) (b : ∀ j, j < 8 → h'[j]? = some (secOf n p j)) : parseS h' = (n, p) := by
  have : h' = copyS n p := by
    refine List.ext_getElem? fun j => ?_
    rcases Nat.lt_or_ge j 8 with hj | hj
    · rw [b j hj, copyS_get n p j hj]
    · rw [List.getElem?_eq_none (by omega), List.getElem?_eq_none (by rw [copyS_len]; exact hj)]
  rw [this, parse_copy hn hp]
def win (o : Nat) (s : List Sec) : List Sec := (s.drop o).take 16
def hA (o : Nat) (s : List Sec) : List Sec := (s.drop o).take 8
def hB (o : Nat) (s : List Sec) : List Sec := (s.drop (o + 8)).take 8
theorem win_A (o : Nat) (s : List Sec) : (win o s).take 8 = hA o s := by rw [win, hA, List.take_take]; rfl
theorem win_B (o : Nat) (s : List Sec) : (win o s).drop 8 = hB o s := by rw [win, hB, List.drop_take, List.drop_drop]
theorem hA_len {o : Nat} {s : List Sec} (h : o + 16 ≤ s.length) : (hA o s).length = 8 := by rw [hA, List.length_take, List.length_drop]; omega
theorem hB_len {o : Nat} {s : List Sec} (h : o + 16 ≤ s.length) : (hB o s).length = 8 := by rw [hB, List.length_take, List.length_drop]; omega
theorem hA_get (o : Nat) (s : List Sec) (j : Nat) (h : j < 8) : (hA o s)[j]? = s[o + j]? := by rw [hA, List.getElem?_take, if_pos h, List.getElem?_drop]
theorem hB_get (o : Nat) (s : List Sec) (j : Nat) (h : j < 8) : (hB o s)[j]? = s[o + 8 + j]? := by rw [hB, List.getElem?_take, if_pos h, List.getElem?_drop]
def pA (o : Nat) (s : List Sec) : Nat × List UInt8 := parseS (hA o s)
def pB (o : Nat) (s : List Sec) : Nat × List UInt8 := parseS (hB o s)
theorem bestw_eq (o : Nat) (s : List Sec) : best (win o s) = if (pA o s).1 < (pB o s).1 then pB o s else pA o s := by
  rw [best, cA, cB, win_A, win_B]; rfl
theorem new1_eq (o : Nat) (s : List Sec) : new1 (win o s) = if (pA o s).1 < (pB o s).1 then 1 else 0 := by
  rw [new1, cA, cB, win_A, win_B]; rfl
theorem mem_win {o : Nat} {s : List Sec} {x : Sec} : x ∈ win o s ↔ ∃ j, o ≤ j ∧ j < o + 16 ∧ s[j]? = some x := by
  constructor
  · intro h
    obtain ⟨i, hi, rfl⟩ := List.getElem_of_mem h
    have hi2 := hi
    rw [win, List.length_take, List.length_drop] at hi2
    refine ⟨o + i, by omega, by omega, ?_⟩
    rw [List.getElem?_eq_getElem (by omega)]
    simp [win]
  · rintro ⟨j, h1, h2, h3⟩
    refine List.mem_of_getElem? (i := j - o) ?_
    rw [win, List.getElem?_take, if_pos (by omega), List.getElem?_drop, ← h3]
    congr 1; omega
theorem mxS_le : ∀ (l : List Sec) (m k : Nat), mxS m l ≤ k ↔ m ≤ k ∧ ∀ s ∈ l, gn s ≤ k
  | [], m, k => by simp [mxS]
  | a :: l, m, k => by
    have := mxS_le l (max m (gn a)) k
    rw [mxS] at this ⊢
    rw [List.foldl_cons, this]
    simp only [List.mem_cons, forall_eq_or_imp, Nat.max_le, and_assoc]
theorem top_le (l : List Sec) (k : Nat) : topS l ≤ k ↔ ∀ s ∈ l, gn s ≤ k := by
  rw [topS_eq, mxS_le]; simp
theorem mem_hA {o : Nat} {s : List Sec} {x : Sec} (h : x ∈ hA o s) : x ∈ win o s := by rw [← win_A] at h; exact List.mem_of_mem_take h
theorem mem_hB {o : Nat} {s : List Sec} {x : Sec} (h : x ∈ hB o s) : x ∈ win o s := by rw [← win_B] at h; exact List.mem_of_mem_drop h
structure Gd (o : Nat) (s : List Sec) (g : Nat) (v : List UInt8) (T : Nat) : Prop where
  l1 : o + 16 ≤ s.length
  l2 : s.length ≤ 4096
  bst : best (win o s) = (g, v)
  pos : 1 ≤ g
  top : topS (win o s) ≤ T
theorem find_nil {o : Nat} {s : List Sec} (h1 : o + 16 ≤ s.length) (h2 : s.length ≤ 4096) : findE ⟨s, []⟩ o = 0 ∧ findL ⟨s, []⟩ o = win o s := by
  have hc := chk_nil h2
  have hi : insideB ⟨s, []⟩ o 16 = true := by simp only [insideB, Bool.and_eq_true, decide_eq_true_eq]; omega
  have : readD ⟨s, []⟩ o 16 = (win o s, 0) := by
    rw [readD, if_neg (by simp [hc]), if_neg (by simp [hi])]; rfl
  rw [findE, findL, this]; exact ⟨rfl, rfl⟩
theorem Gd.load {o : Nat} {s : List Sec} {g : Nat} {v : List UInt8} {T : Nat} (h : Gd o s g v T) : loadS ⟨s, []⟩ o = (v, g, 0) := by
  obtain ⟨f1, f2⟩ := find_nil h.l1 h.l2
  have := h.pos
  rw [loadS, if_neg (by simp [f1]), f2, h.bst, if_neg (by dsimp only; omega)]
theorem Gd.store {o : Nat} {s : List Sec} {g : Nat} {v p : List UInt8} {T : Nat} (h : Gd o s g v T) (hp : p.length ≤ 31) (hT : T < 4294967295) :
    storeS ⟨s, []⟩ o p = ([opW ((if (pA o s).1 < (pB o s).1 then o else o + 8 : Nat) : Int) (copyS (topS (win o s) + 1) p), opS], 0) := by
  obtain ⟨f1, f2⟩ := find_nil h.l1 h.l2
  have h1 := h.pos
  have h2 := h.top
  rw [storeS, if_neg (by simp [f1]), f2, h.bst, if_neg (by dsimp only; omega), if_neg (by omega), if_neg (by omega), new1_eq]
  split
  · rw [show (o : Int) + 8 - 8 * ((1 : Nat) : Int) = (o : Int) by omega]
  · rw [show (o : Int) + 8 - 8 * ((0 : Nat) : Int) = ((o + 8 : Nat) : Int) by omega]
theorem Gd.mx {o : Nat} {s s' : List Sec} {g : Nat} {v p : List UInt8} {T : Nat} (h : Gd o s g v T) (hp : p.length ≤ 31) (hT : T < 4294967295)
    (hm : Mx s s' (if (pA o s).1 < (pB o s).1 then o else o + 8) (copyS (topS (win o s) + 1) p)) :
    (Gd o s' g v (T + 1) ∨ Gd o s' (topS (win o s) + 1) p (T + 1)) ∧ (∀ x, x = pA o s' ∨ x = pB o s' → x.1 = 0 ∨ x = pA o s ∨ x = pB o s ∨ x.2 = p) ∧ (∀ j, j < o ∨ o + 16 ≤ j → s'[j]? = s[j]?) ∧ g < topS (win o s) + 1 ∧
    ((∀ j, (if (pA o s).1 < (pB o s).1 then o else o + 8) ≤ j → j < (if (pA o s).1 < (pB o s).1 then o else o + 8) + 8 → s'[j]? = (copyS (topS (win o s) + 1) p)[j - (if (pA o s).1 < (pB o s).1 then o else o + 8)]?) → Gd o s' (topS (win o s) + 1) p (T + 1)) := by
  have h1 := h.l1
  have h2 := h.l2
  have hl := hm.len
  have hpos := h.pos
  have hb := h.bst
  rw [bestw_eq] at hb
  have htop := h.top
  have hall := (top_le (win o s) (topS (win o s))).1 (Nat.le_refl _)
  generalize hn : topS (win o s) + 1 = n at *
  have hn32 : n < 4294967296 := by omega
  have hget := hm.get
  rw [copyS_len] at hget
  have htop' : topS (win o s') ≤ T + 1 := by
    rw [top_le]
    intro x hx
    obtain ⟨j, a1, a2, a3⟩ := mem_win.1 hx
    rcases hget j with e | ⟨e1, e2, e3⟩
    · rw [e] at a3
      have := hall x (mem_win.2 ⟨j, a1, a2, a3⟩)
      omega
    · rw [a3, copyS_get _ _ _ (by omega)] at e3
      rw [Option.some.inj e3, gn_secOf hn32 hp (by omega)]
      omega
  have hout : ∀ j, j < o ∨ o + 16 ≤ j → s'[j]? = s[j]? := fun j hj => by
    rcases hget j with e | ⟨e1, e2, e3⟩
    · exact e
    · split at e1 <;> split at e2 <;> omega
  by_cases hlt : (pA o s).1 < (pB o s).1
  · simp only [if_pos hlt] at hget hb ⊢
    have hBe : pB o s' = pB o s := by
      rw [pB, pB]; congr 1
      refine List.ext_getElem? fun j => ?_
      rcases Nat.lt_or_ge j 8 with hj | hj
      · rw [hB_get _ _ _ hj, hB_get _ _ _ hj]
        rcases hget (o + 8 + j) with e | ⟨e1, e2, e3⟩
        · exact e
        · omega
      · rw [List.getElem?_eq_none (by rw [hB_len (by omega)]; exact hj), List.getElem?_eq_none (by rw [hB_len (by omega)]; exact hj)]
    have hgn : g < n := by
      have h0l : 0 < (hB o s).length := by rw [hB_len h1]; decide
      have hm0 : (hB o s)[0] ∈ hB o s := List.getElem_mem h0l
      have h1g : 1 ≤ (parseS (hB o s)).1 := by show 1 ≤ (pB o s).1; rw [hb]; exact hpos
      have e1 := parse_gn h1g _ hm0
      have e2 := hall _ (mem_hB hm0)
      have e3 : (parseS (hB o s)).1 = g := by show (pB o s).1 = g; rw [hb]
      omega
    have hAh := half (h := hA o s) (h' := hA o s') (n := n) (p := p) hn32 hp (hA_len h1) (hA_len (by omega)) (fun x hx => by have := hall x (mem_hA hx); omega) (fun j hj => by
      rw [hA_get _ _ _ hj, hA_get _ _ _ hj]
      rcases hget (o + j) with e | ⟨e1, e2, e3⟩
      · exact .inl e
      · right; rw [e3, Nat.add_sub_cancel_left, copyS_get _ _ _ hj])
    refine ⟨?_, ?_, hout, hgn, fun hf => ⟨by omega, by omega, ?_, by omega, htop'⟩⟩
    · rcases hAh with e | e | e
      · right; refine ⟨by omega, by omega, ?_, by omega, htop'⟩
        rw [bestw_eq, hBe, hb, pA, e, if_neg (by dsimp only; omega)]
      · left; refine ⟨by omega, by omega, ?_, by omega, htop'⟩
        rw [bestw_eq, hBe, pA, e]
        show (if (pA o s).1 < (pB o s).1 then pB o s else pA o s) = _
        rw [if_pos hlt, hb]
      · left; refine ⟨by omega, by omega, ?_, by omega, htop'⟩
        rw [bestw_eq, hBe, hb, pA, e, if_pos (by dsimp only; omega)]
    · rintro x (rfl | rfl)
      · rcases hAh with e | e | e
        · right; right; right; rw [pA, e]
        · right; left; exact e
        · left; exact e
      · right; right; left; exact hBe
    · have := half_full (h' := hA o s') (n := n) (p := p) hn32 hp (hA_len (by omega)) (fun j hj => by
        rw [hA_get _ _ _ hj, hf (o + j) (by omega) (by omega), Nat.add_sub_cancel_left, copyS_get _ _ _ hj])
      rw [bestw_eq, hBe, hb, pA, this, if_neg (by dsimp only; omega)]
  · simp only [if_neg hlt] at hget hb ⊢
    have hAe : pA o s' = pA o s := by
      rw [pA, pA]; congr 1
      refine List.ext_getElem? fun j => ?_
      rcases Nat.lt_or_ge j 8 with hj | hj
      · rw [hA_get _ _ _ hj, hA_get _ _ _ hj]
        rcases hget (o + j) with e | ⟨e1, e2, e3⟩
        · exact e
        · omega
      · rw [List.getElem?_eq_none (by rw [hA_len (by omega)]; exact hj), List.getElem?_eq_none (by rw [hA_len (by omega)]; exact hj)]
    have hgn : g < n := by
      have h0l : 0 < (hA o s).length := by rw [hA_len h1]; decide
      have hm0 : (hA o s)[0] ∈ hA o s := List.getElem_mem h0l
      have h1g : 1 ≤ (parseS (hA o s)).1 := by show 1 ≤ (pA o s).1; rw [hb]; exact hpos
      have e1 := parse_gn h1g _ hm0
      have e2 := hall _ (mem_hA hm0)
      have e3 : (parseS (hA o s)).1 = g := by show (pA o s).1 = g; rw [hb]
      omega
    have hBh := half (h := hB o s) (h' := hB o s') (n := n) (p := p) hn32 hp (hB_len h1) (hB_len (by omega)) (fun x hx => by have := hall x (mem_hB hx); omega) (fun j hj => by
      rw [hB_get _ _ _ hj, hB_get _ _ _ hj]
      rcases hget (o + 8 + j) with e | ⟨e1, e2, e3⟩
      · exact .inl e
      · right; rw [e3, Nat.add_sub_cancel_left, copyS_get _ _ _ hj])
    refine ⟨?_, ?_, hout, hgn, fun hf => ⟨by omega, by omega, ?_, by omega, htop'⟩⟩
    · rcases hBh with e | e | e
      · right; refine ⟨by omega, by omega, ?_, by omega, htop'⟩
        rw [bestw_eq, hAe, hb, pB, e, if_pos (by dsimp only; omega)]
      · left; refine ⟨by omega, by omega, ?_, by omega, htop'⟩
        rw [bestw_eq, hAe, pB, e]
        show (if (pA o s).1 < (pB o s).1 then pB o s else pA o s) = _
        rw [if_neg hlt, hb]
      · left; refine ⟨by omega, by omega, ?_, by omega, htop'⟩
        rw [bestw_eq, hAe, hb, pB, e, if_neg (by dsimp only; omega)]
    · rintro x (rfl | rfl)
      · right; left; exact hAe
      · rcases hBh with e | e | e
        · right; right; right; rw [pB, e]
        · right; right; left; exact e
        · left; exact e
    · have := half_full (h' := hB o s') (n := n) (p := p) hn32 hp (hB_len (by omega)) (fun j hj => by
        rw [hB_get _ _ _ hj, hf (o + 8 + j) (by omega) (by omega), Nat.add_sub_cancel_left, copyS_get _ _ _ hj])
      rw [bestw_eq, hAe, hb, pB, this, if_pos (by dsimp only; omega)]
end Go.Proofs.YtmgoflhjblombaaGreatDoor
namespace Go.Proofs.YtmgoflhjblombaaGreatDoor
open Go.Proofs
def OpOk (n : Nat) (o : Opn) : Prop := o = opS ∨ ∃ (a : Nat) (l : List Sec), o = opW a l ∧ a + l.length ≤ n
def execS : List Sec → List Opn → List Sec
  | s, [] => s
  | s, o :: os => execS (if o.kind = 0 then patS s o.pos.toNat o.data else s) os
theorem execS_w (s : List Sec) (a : Nat) (l : List Sec) (os : List Opn) : execS s (opW a l :: os) = execS (patS s a l) os := rfl
theorem execS_s (s : List Sec) (os : List Opn) : execS s (opS :: os) = execS s os := rfl
theorem execS_app : ∀ (a b : List Opn) (s : List Sec), execS s (a ++ b) = execS (execS s a) b
  | [], b, s => rfl
  | o :: a, b, s => by rw [List.cons_append, execS, execS_app a b, execS]
theorem execS_len : ∀ (os : List Opn) (s : List Sec), (execS s os).length = s.length
  | [], s => rfl
  | o :: os, s => by
    rw [execS, execS_len os]
    split
    · exact patS_len _ _ _
    · rfl
theorem execS_get : ∀ (os : List Opn) (s : List Sec), (∀ o ∈ os, OpOk s.length o) → ∀ j, (∀ o ∈ os, ∀ (a : Nat) (l : List Sec), o = opW a l → j < a ∨ a + l.length ≤ j) → (execS s os)[j]? = s[j]?
  | [], s, _, j, _ => rfl
  | o :: os, s, h, j, hj => by
    rcases h o (by simp) with rfl | ⟨a, l, rfl, hl⟩
    · rw [execS_s]
      exact execS_get os s (fun x hx => h x (by simp [hx])) j (fun x hx => hj x (by simp [hx]))
    · rw [execS_w, execS_get os _ (fun x hx => by rw [patS_len]; exact h x (by simp [hx])) j (fun x hx => hj x (by simp [hx])), patS_get hl, if_neg]
      have := hj _ (by simp) a l rfl
      omega
theorem runD_exec : ∀ (os : List Opn) (s : List Sec) (c : List Cach) (i : Nat), (∀ o ∈ os, OpOk s.length o) → ∃ d', runD ⟨s, c⟩ os i = .ok (d', i + os.length) ∧ d'.stable.length = s.length ∧ newestD d' = execS (newestD ⟨s, c⟩) os ∧ (os.getLast? = some opS → d'.cache = []) ∧ (os = [] → d' = ⟨s, c⟩)
  | [], s, c, i, _ => ⟨⟨s, c⟩, rfl, rfl, rfl, fun h => (by cases h), fun _ => rfl⟩
  | o :: os, s, c, i, h => by
    have ht : ∀ o ∈ os, OpOk s.length o := fun x hx => h x (by simp [hx])
    rcases h o (by simp) with rfl | ⟨a, l, rfl, hl⟩
    · obtain ⟨d', h1, h2, h3, h4, h5⟩ := runD_exec os (newestD ⟨s, c⟩) [] (i + 1) (by rw [newestD_len]; exact ht)
      refine ⟨d', ?_, by rw [h2, newestD_len], by rw [h3, execS_s]; rfl, fun q => ?_, fun q => by cases q⟩
      · rw [runD_s, h1, List.length_cons, show i + 1 + os.length = i + (os.length + 1) by omega]
      · cases os with
        | nil => rw [h5 rfl]
        | cons x os => exact h4 (by rw [List.getLast?_cons_cons] at q; exact q)
    · have hst : stepD ⟨s, c⟩ (opW a l) = .ok ⟨s, c ++ puts a l⟩ := by
        rw [stepD, if_neg (by simp [opW]), if_pos (by rfl)]
        show (match writeD ⟨s, c⟩ a l with | some d' => Except.ok d' | none => Except.error 2) = _
        rw [writeD, if_pos (inside_ok hl)]; rfl
      obtain ⟨d', h1, h2, h3, h4, h5⟩ := runD_exec os s (c ++ puts a l) (i + 1) ht
      refine ⟨d', ?_, h2, ?_, fun q => ?_, fun q => by cases q⟩
      · rw [runD, hst]
        show runD _ os (i + 1) = _
        rw [h1, List.length_cons, show i + 1 + os.length = i + (os.length + 1) by omega]
      · rw [h3, execS_w]
        congr 1
        rw [newestD, List.foldl_append]; rfl
      · cases os with
        | nil => rw [List.getLast?_singleton] at q; cases q
        | cons x os => exact h4 (by rw [List.getLast?_cons_cons] at q; exact q)
theorem runR_exec {s : List Sec} {os : List Opn} (h : s.length ≤ 4096) (ho : ∀ o ∈ os, OpOk s.length o) (hl : os = [] ∨ os.getLast? = some opS) : runR ⟨s, []⟩ os = (⟨execS s os, []⟩, os.length, 0) := by
  obtain ⟨d', h1, h2, h3, h4, h5⟩ := runD_exec os s [] 0 ho
  rw [runR, if_neg (by simp [chk_nil h]), h1]
  have hc : d'.cache = [] := by
    rcases hl with rfl | hl
    · rw [h5 rfl]
    · exact h4 hl
  have : d' = ⟨execS s os, []⟩ := by
    obtain ⟨st, ca⟩ := d'
    dsimp only at hc
    subst hc
    congr 1
  rw [this, Nat.zero_add]
end Go.Proofs.YtmgoflhjblombaaGreatDoor
namespace Go.Proofs.YtmgoflhjblombaaGreatDoor
open Go.Proofs
def relJ (d : Dk) (j : Jrn) (q : Int) : Jrn × List Opn × Nat :=
  if checkD d ≠ 0 then (zjr, [], checkD d) else if chkJ j = false then (zjr, [], 3)
  else if q < j.first - 1 ∨ nextJ j ≤ q then (zjr, [], 2)
  else if q = j.first - 1 then (j, [], 0)
  else
    let n := (q + 1 - j.first).toNat
    let h := (j.head + sumI (j.sizes.take n)) % (j.count - 16)
    if (storeS d j.start (superJ h (q + 1))).2 ≠ 0 then (zjr, [], (storeS d j.start (superJ h (q + 1))).2)
    else (⟨j.start, j.count, h, j.tail, q + 1, j.sizes.drop n⟩, (storeS d j.start (superJ h (q + 1))).1, 0)
theorem chkJ_first {j : Jrn} (h : chkJ j = true) : 1 ≤ j.first ∧ j.first ≤ 1073741824 := by
  simp only [chkJ, Bool.and_eq_true, decide_eq_true_eq] at h
  omega
end Go.Proofs.YtmgoflhjblombaaGreatDoor
namespace Go.Proofs.YtmgoflhjblombaaGreatDoor
open Go.Proofs
theorem enc_sz {r : Rcd} {l : List Sec} (h : encR r = .ok l) : okSz l.length = true := by
  rw [encR] at h
  split at h
  · cases h
  · split at h
    · cases h
    · cases h
      rw [okSz_iff, secsR, List.length_map, List.length_range, strm_len]
      omega
theorem chkJ_app {j : Jrn} {n : Nat} (h : chkJ j = true) (h1 : ¬ 1073741824 ≤ nextJ j) (h2 : ¬ freeJ j < (n : Int)) (hz : okSz n = true) :
    chkJ ⟨j.start, j.count, j.head, (j.tail + n) % (j.count - 16), j.first, j.sizes ++ [(n : Int)]⟩ = true := by
  have g := (chkJ_iff j).1 h
  have g2 := (preJ_iff j).1 g.2.1
  have hv := (validJ_iff _ _).1 g.1
  rw [chkJ_iff, preJ_iff]
  unfold nextJ at h1
  unfold freeJ at h2
  refine ⟨g.1, ⟨g2.1, g2.2.1, g2.2.2.1, g2.2.2.2.1, by simp; omega⟩, ?_, ?_, ?_⟩
  · show (j.sizes ++ [(n : Int)]).all okSz = true
    rw [List.all_append, g.2.2.1, List.all_cons, hz]; rfl
  · show sumI (j.sizes ++ [(n : Int)]) ≤ j.count - 16
    rw [sumI_snoc]; omega
  · show (j.tail + (n : Int)) % (j.count - 16) = (j.head + sumI (j.sizes ++ [(n : Int)])) % (j.count - 16)
    rw [sumI_snoc, g.2.2.2.2, Int.emod_add_emod, Int.add_assoc]
theorem chkJ_drop {j : Jrn} {n : Nat} (h : chkJ j = true) (hn : n ≤ j.sizes.length) :
    chkJ ⟨j.start, j.count, (j.head + sumI (j.sizes.take n)) % (j.count - 16), j.tail, j.first + n, j.sizes.drop n⟩ = true := by
  have g := (chkJ_iff j).1 h
  have g2 := (preJ_iff j).1 g.2.1
  have hv := (validJ_iff _ _).1 g.1
  have hall := g.2.2.1
  have e3 := sumI_app (j.sizes.take n) (j.sizes.drop n)
  rw [List.take_append_drop] at e3
  have e1 := sumI_ge (j.sizes.take n) (List.all_eq_true.2 fun x hx => List.all_eq_true.1 hall x (List.mem_of_mem_take hx))
  have hall2 : (j.sizes.drop n).all okSz = true := List.all_eq_true.2 fun x hx => List.all_eq_true.1 hall x (List.mem_of_mem_drop hx)
  rw [chkJ_iff, preJ_iff]
  refine ⟨g.1, ⟨Int.emod_nonneg _ (by show j.count - 16 ≠ 0; omega), Int.emod_lt_of_pos _ (by show 0 < j.count - 16; omega), ?_, ?_, ?_⟩, hall2, ?_, ?_⟩
  · show 1 ≤ j.first + (n : Int); omega
  · show j.first + (n : Int) ≤ 1073741824; omega
  · show (((j.sizes.drop n).length : Nat) : Int) ≤ 1073741824 - (j.first + (n : Int))
    rw [List.length_drop]; omega
  · show sumI (j.sizes.drop n) ≤ j.count - 16; omega
  · show j.tail = ((j.head + sumI (j.sizes.take n)) % (j.count - 16) + sumI (j.sizes.drop n)) % (j.count - 16)
    rw [Int.emod_add_emod, g.2.2.2.2, Int.add_assoc, ← e3]
theorem super_len (h f : Int) : (superJ h f).length ≤ 31 := by
  have := enc_len h; have := enc_len f
  rw [superJ, List.length_append]; omega
theorem Gd.keep {o : Nat} {s s' : List Sec} {g : Nat} {v : List UInt8} {T : Nat} (h : Gd o s g v T) (hl : s'.length = s.length) (hk : ∀ j, o ≤ j → j < o + 16 → s'[j]? = s[j]?) : Gd o s' g v T := by
  have hw : win o s' = win o s := by
    rw [win, win]
    refine List.ext_getElem? fun i => ?_
    rw [List.getElem?_take, List.getElem?_take]
    split
    · rw [List.getElem?_drop, List.getElem?_drop, hk _ (by omega) (by omega)]
    · rfl
  exact ⟨by rw [hl]; exact h.l1, by rw [hl]; exact h.l2, by rw [hw]; exact h.bst, h.pos, by rw [hw]; exact h.top⟩
structure JD (s : List Sec) (j : Jrn) (T : Nat) : Prop where
  chk : chkJ j = true
  len : j.start.toNat + j.count.toNat ≤ s.length
  gd : ∃ g, Gd j.start.toNat s g (superJ j.head j.first) T
theorem JD.val {s : List Sec} {j : Jrn} {T : Nat} (h : JD s j T) : ∃ st n : Nat, j.start = st ∧ j.count = (n : Int) + 16 ∧ 4 ≤ n ∧ n ≤ 4096 ∧ st ≤ 4096 ∧ st + 16 + n ≤ s.length ∧ s.length ≤ 4096 := by
  have hv := (validJ_iff _ _).1 (chkJ_val h.chk)
  have hl := h.len
  obtain ⟨g, hg⟩ := h.gd
  exact ⟨j.start.toNat, (j.count - 16).toNat, by omega, by omega, by omega, by omega, by omega, by omega, hg.l2⟩
theorem wrapW_ok {s : List Sec} {j : Jrn} {T : Nat} (h : JD s j T) {l : List Sec} (hl : ¬ freeJ j < l.length) :
    ∀ o ∈ wrapW j.start j.count j.tail l, ∃ (a : Nat) (m : List Sec), o = opW a m ∧ j.start.toNat + 16 ≤ a ∧ a + m.length ≤ j.start.toNat + j.count.toNat := by
  obtain ⟨st, n, e1, e2, h4, h5, h6, h7, h8⟩ := h.val
  have ht := chkJ_tail h.chk
  have hsu := chkJ_sum h.chk
  unfold freeJ at hl
  intro o ho
  by_cases hk : kW j.count j.tail l < l.length
  · rw [wrapW_1 hk] at ho
    simp only [List.mem_cons, List.not_mem_nil, or_false] at ho
    unfold kW at hk ho
    rcases ho with rfl | rfl
    · refine ⟨st + 16 + j.tail.toNat, l.take (min l.length (j.count - 16 - j.tail).toNat), ?_, by omega, by rw [List.length_take]; omega⟩
      rw [e1, show ((st + 16 + j.tail.toNat : Nat) : Int) = (st : Int) + 16 + j.tail by omega]
    · exact ⟨st + 16, _, by rw [e1]; rfl, by omega, by rw [List.length_drop]; omega⟩
  · rw [wrapW_0 hk] at ho
    obtain rfl : o = _ := by simpa using ho
    unfold kW at hk
    refine ⟨st + 16 + j.tail.toNat, l.take (kW j.count j.tail l), ?_, by omega, by rw [List.length_take]; unfold kW; omega⟩
    rw [e1, show ((st + 16 + j.tail.toNat : Nat) : Int) = (st : Int) + 16 + j.tail by omega]
theorem JD.app {s : List Sec} {j : Jrn} {T : Nat} (h : JD s j T) {k : Int} {p : List UInt8} (he : (appJ j k p).2.2 = 0) :
    JD (execS s (appJ j k p).2.1) (appJ j k p).1 T ∧ (∀ o ∈ (appJ j k p).2.1, OpOk s.length o) ∧ (appJ j k p).2.1.getLast? = some opS ∧
    (∀ i, i < j.start.toNat + 16 ∨ j.start.toNat + j.count.toNat ≤ i → (execS s (appJ j k p).2.1)[i]? = s[i]?) ∧
    ∃ l, encR ⟨k, nextJ j, p⟩ = .ok l ∧ ¬ 1073741824 ≤ nextJ j ∧ ¬ freeJ j < l.length ∧ (appJ j k p).1 = ⟨j.start, j.count, j.head, (j.tail + l.length) % (j.count - 16), j.first, j.sizes ++ [(l.length : Int)]⟩ ∧ (appJ j k p).2.1 = wrapW j.start j.count j.tail l ++ [opS] := by
  cases hen : encR ⟨k, nextJ j, p⟩ with
  | error e =>
    rw [appJ_err h.chk hen] at he
    have := enc_err hen
    dsimp only at he
    omega
  | ok l =>
    by_cases h1 : 1073741824 ≤ nextJ j
    · rw [appJ_many h.chk hen h1] at he; cases he
    by_cases h2 : freeJ j < l.length
    · rw [appJ_full h.chk hen h1 h2] at he; cases he
    rw [appJ_ok h.chk hen h1 h2]
    dsimp only
    have hw := wrapW_ok h h2
    have hlen := h.len
    have hops : ∀ o ∈ wrapW j.start j.count j.tail l ++ [opS], OpOk s.length o := fun o ho => by
      rcases List.mem_append.1 ho with ho | ho
      · obtain ⟨a, m, rfl, a1, a2⟩ := hw o ho
        exact .inr ⟨a, m, rfl, by omega⟩
      · rw [List.mem_singleton] at ho; exact .inl ho
    have hout : ∀ i, i < j.start.toNat + 16 ∨ j.start.toNat + j.count.toNat ≤ i → (execS s (wrapW j.start j.count j.tail l ++ [opS]))[i]? = s[i]? := fun i hi => by
      refine execS_get _ s hops i fun o ho a m e => ?_
      rcases List.mem_append.1 ho with ho | ho
      · obtain ⟨a', m', e', a1, a2⟩ := hw o ho
        rw [e] at e'
        obtain ⟨q1, q2⟩ : (a : Int) = a' ∧ m = m' := by
          simp only [opW, Opn.mk.injEq] at e'
          exact ⟨e'.2.1, e'.2.2⟩
        have : a = a' := by omega
        subst this q2
        omega
      · rw [List.mem_singleton] at ho
        rw [e] at ho
        simp [opW, opS] at ho
    refine ⟨⟨chkJ_app h.chk h1 h2 (enc_sz hen), by rw [execS_len]; exact hlen, ?_⟩, hops, by simp, hout, l, rfl, h1, h2, rfl, rfl⟩
    obtain ⟨g, hg⟩ := h.gd
    exact ⟨g, hg.keep (execS_len _ _) fun i i1 i2 => hout i (.inl i2)⟩
theorem JD.rel {s : List Sec} {j : Jrn} {T : Nat} (h : JD s j T) (hT : T < 4294967295) {n : Nat} (hn : n ≤ j.sizes.length) :
    ∃ ops, relJ ⟨s, []⟩ j (j.first - 1 + n) = (if n = 0 then j else ⟨j.start, j.count, (j.head + sumI (j.sizes.take n)) % (j.count - 16), j.tail, j.first + n, j.sizes.drop n⟩, ops, 0) ∧
      JD (execS s ops) (if n = 0 then j else ⟨j.start, j.count, (j.head + sumI (j.sizes.take n)) % (j.count - 16), j.tail, j.first + n, j.sizes.drop n⟩) (T + 1) ∧
      (∀ o ∈ ops, OpOk s.length o) ∧ (ops = [] ∨ ops.getLast? = some opS) ∧ (∀ o ∈ ops, ∀ (a : Nat) (l : List Sec), o = opW a l → j.start.toNat ≤ a ∧ a + l.length ≤ j.start.toNat + 16) := by
  obtain ⟨g, hg⟩ := h.gd
  have hc := chk_nil hg.l2
  have hnx : nextJ j = j.first + j.sizes.length := rfl
  have hr : relJ ⟨s, []⟩ j (j.first - 1 + n) = if (j.first - 1 + n : Int) = j.first - 1 then (j, [], 0) else
      if (storeS ⟨s, []⟩ j.start (superJ ((j.head + sumI (j.sizes.take n)) % (j.count - 16)) (j.first + n))).2 ≠ 0 then (zjr, [], (storeS ⟨s, []⟩ j.start (superJ ((j.head + sumI (j.sizes.take n)) % (j.count - 16)) (j.first + n))).2)
      else (⟨j.start, j.count, (j.head + sumI (j.sizes.take n)) % (j.count - 16), j.tail, j.first + n, j.sizes.drop n⟩, (storeS ⟨s, []⟩ j.start (superJ ((j.head + sumI (j.sizes.take n)) % (j.count - 16)) (j.first + n))).1, 0) := by
    rw [relJ, if_neg (by simp [hc]), if_neg (by simp [h.chk]), if_neg (by omega)]
    have : (j.first - 1 + n + 1 - j.first).toNat = n := by omega
    rw [this, show j.first - 1 + (n : Int) + 1 = j.first + n by omega]
  by_cases h0 : n = 0
  · subst h0
    refine ⟨[], ?_, ?_, fun o ho => (by cases ho), .inl rfl, fun o ho => (by cases ho)⟩
    · rw [hr, if_pos (by simp), if_pos rfl]
    · rw [if_pos rfl]
      exact ⟨h.chk, h.len, g, hg.l1, hg.l2, hg.bst, hg.pos, Nat.le_succ_of_le hg.top⟩
  · rw [if_neg h0]
    have hp := super_len ((j.head + sumI (j.sizes.take n)) % (j.count - 16)) (j.first + n)
    obtain ⟨st, m, e1, e2, h4, h5, h6, h7, h8⟩ := h.val
    rw [e1, Int.toNat_natCast] at hg
    have hst := hg.store hp hT
    rw [e1, hst, if_neg (by omega), if_neg (by simp)] at hr
    generalize hv : superJ ((j.head + sumI (j.sizes.take n)) % (j.count - 16)) (j.first + n) = v at *
    obtain ⟨a, ha⟩ : ∃ a, a = if (pA st s).1 < (pB st s).1 then st else st + 8 := ⟨_, rfl⟩
    rw [← ha] at hr
    have ha2 : st ≤ a ∧ a + 8 ≤ st + 16 := by rw [ha]; split <;> omega
    have hcl := copyS_len (topS (win st s) + 1) v
    have hfit : a + (copyS (topS (win st s) + 1) v).length ≤ s.length := by rw [hcl]; omega
    have hm := hg.mx hp hT (s' := patS s a (copyS (topS (win st s) + 1) v)) (by rw [← ha]; exact .pat hfit)
    refine ⟨[opW a (copyS (topS (win st s) + 1) v), opS], by rw [hr, e1], ⟨?_, ?_, topS (win st s) + 1, ?_⟩, ?_, .inr rfl, ?_⟩
    · have := chkJ_drop h.chk hn
      rwa [e1] at this ⊢
    · rw [execS_len]; exact h.len
    · show Gd j.start.toNat _ _ (superJ _ _) _
      rw [e1, Int.toNat_natCast, hv]
      refine hm.2.2.2.2 fun i i1 i2 => ?_
      rw [← ha] at i1 i2 ⊢
      rw [patS_get hfit, if_pos ⟨i1, by rw [hcl]; exact i2⟩]
    · intro o ho
      simp only [List.mem_cons, List.not_mem_nil, or_false] at ho
      rcases ho with rfl | rfl
      · exact .inr ⟨a, _, rfl, hfit⟩
      · exact .inl rfl
    · intro o ho b l e
      simp only [List.mem_cons, List.not_mem_nil, or_false] at ho
      rcases ho with rfl | rfl
      · simp only [opW, Opn.mk.injEq] at e
        obtain ⟨-, q1, rfl⟩ := e
        rw [hcl, e1]
        omega
      · simp [opW, opS] at e
end Go.Proofs.YtmgoflhjblombaaGreatDoor
namespace Go.Proofs.YtmgoflhjblombaaGreatDoor
open Go.Proofs
theorem secR_gn {sq : Nat} (hs : sq < 4294967296) (st : List UInt8) (i : Nat) : gn (secR sq st i) = sq := by
  have h : ∀ j, j < 4 → sb (secR sq st i) j = sq / 256 ^ j % 256 := fun j hj => by
    rw [sb, secR_val]
    rcases j with _ | _ | _ | _ | j
    · simp [le4]
    · simp [le4]
    · simp [le4]
    · simp [le4]
    · omega
  rw [gn_eq, h 3 (by omega), h 2 (by omega), h 1 (by omega), h 0 (by omega)]
  omega
theorem secsR_ln (sq : Nat) (st : List UInt8) : (secsR sq st).length = (st.length + 3) / 4 := by rw [secsR, List.length_map, List.length_range]
theorem secsR_gn {sq : Nat} (hs : sq < 4294967296) {st : List UInt8} {x : Sec} (hx : x ∈ secsR sq st) : gn x = sq := by
  obtain ⟨i, -, rfl⟩ := List.mem_map.1 hx; exact secR_gn hs _ _
theorem dataS_R (sq : Nat) (st : List UInt8) : ∀ k, k ≤ (st.length + 3) / 4 → dataS ((List.range k).map (secR sq st)) = st.take (4 * k) ++ List.replicate (4 * k - st.length) 0
  | 0, _ => by simp [dataS]
  | k + 1, h => by
    have ih := dataS_R sq st k (by omega)
    have e : dataS ((List.range (k + 1)).map (secR sq st)) = dataS ((List.range k).map (secR sq st)) ++ (secR sq st k).val.drop 4 := by
      rw [List.range_succ, List.map_append, dataS, List.flatMap_append]; simp [dataS]
    have hk : 4 * k < st.length := by omega
    rw [e, ih, secR_val, List.drop_append_of_le_length (by rw [le4_len]; exact Nat.le_refl _), List.drop_of_length_le (by rw [le4_len]; exact Nat.le_refl _), List.nil_append]
    rw [show 4 * k - st.length = 0 by omega, List.replicate_zero, List.append_nil, ← List.append_assoc]
    have e2 : st.take (4 * k) ++ pcOf st 4 k = st.take (4 * (k + 1)) := by rw [pcOf, Nat.mul_succ, List.take_add]
    rw [e2]
    congr 2
    rw [pcOf, List.length_take, List.length_drop]; omega
theorem leV_le4 {x : Nat} (h : x < 4294967296) : leV (le4 x) = x := by
  simp [leV, le4]; omega
theorem secsR_cons (sq : Nat) {st : List UInt8} (h : 1 ≤ st.length) : ∃ tl, secsR sq st = secR sq st 0 :: tl := by
  obtain ⟨m, hm⟩ : ∃ m, (st.length + 3) / 4 = m + 1 := ⟨(st.length + 3) / 4 - 1, by omega⟩
  exact ⟨_, by rw [secsR, hm, List.range_succ_eq_map, List.map_cons]⟩
theorem lenR_0 (sq : Nat) {k : Int} {p : List UInt8} (hp : p.length ≤ 4096) : lenR (secR sq (strmR k p) 0) = p.length := by
  rw [lenR, secR_val]
  simp [pcOf, strmR, bodyR, le4]
  omega
theorem dec_enc {k : Int} {sq : Nat} {p : List UInt8} (hk : 1 ≤ k) (hk2 : k ≤ 255) (hs : 1 ≤ sq) (hs2 : sq < 4294967296) (hp : p.length ≤ 4096) (rest : List Sec) :
    decX (secsR sq (strmR k p) ++ rest) = .ok (⟨k, sq, p⟩, (secsR sq (strmR k p)).length) := by
  have hl := secsR_ln sq (strmR k p)
  have hst := strm_len k p
  obtain ⟨tl, htl⟩ := secsR_cons sq (st := strmR k p) (by omega)
  have hd := dataS_R sq (strmR k p) _ (Nat.le_refl _)
  have hall : ∀ x ∈ secsR sq (strmR k p), gn x = sq := fun x hx => secsR_gn hs2 hx
  rw [show (List.range (((strmR k p).length + 3) / 4)).map (secR sq (strmR k p)) = secsR sq (strmR k p) from rfl, ← hl, List.take_of_length_le (by omega)] at hd
  have hlr := lenR_0 sq (k := k) hp
  have hg0 : gn (secR sq (strmR k p) 0) = sq := secR_gn hs2 _ _
  have hsz : szN (secR sq (strmR k p) 0) = (secsR sq (strmR k p)).length := by rw [szN, hlr]; omega
  have hb : begE (secR sq (strmR k p) 0 :: (tl ++ rest)) = .ok (secsR sq (strmR k p)).length := by
    rw [← hsz]
    refine begE_ok (by omega) (by omega) ?_ ?_
    · rw [hsz, htl]; simp
    · rw [hsz, ← List.cons_append, ← htl, List.take_left, List.all_eq_true]
      intro x hx; rw [hall x hx, hg0]; simp
  rw [decX, htl, List.cons_append, hb, ← htl]
  have htk : (secR sq (strmR k p) 0 :: (tl ++ rest)).take (secsR sq (strmR k p)).length = secsR sq (strmR k p) := by
    rw [← List.cons_append, ← htl, List.take_left]
  dsimp only
  rw [htk, hd, List.getD_cons_zero, hg0]
  generalize 4 * (secsR sq (strmR k p)).length - (strmR k p).length = z
  have hln : lnS (strmR k p ++ List.replicate z 0) = p.length := by
    rw [lnS]; simp [strmR, bodyR, leV]; omega
  have hcr := (crc (bodyR k p)).isLt
  have e1 : (strmR k p ++ List.replicate z 0).take (3 + p.length) = bodyR k p := by
    rw [strmR, List.append_assoc, List.take_append_of_le_length (by rw [body_len]; omega), List.take_of_length_le (by rw [body_len]; omega)]
  have e2 : ((strmR k p ++ List.replicate z 0).drop (3 + p.length)).take 4 = le4 (crc (bodyR k p)).toNat := by
    rw [strmR, List.append_assoc, List.drop_append_of_le_length (by rw [body_len]; omega), List.drop_of_length_le (by rw [body_len]; omega), List.nil_append, List.take_append_of_le_length (by rw [le4_len]; exact Nat.le_refl _), List.take_of_length_le (by rw [le4_len]; exact Nat.le_refl _)]
  have e3 : (strmR k p ++ List.replicate z 0).drop (7 + p.length) = List.replicate z 0 := by
    rw [List.drop_append_of_le_length (by omega), List.drop_of_length_le (by omega), List.nil_append]
  have e4 : leV ((strmR k p ++ List.replicate z 0).take 1) = (byt k).toNat := by
    simp [strmR, bodyR, leV]
  have hby := byt_toNat k
  rw [recE_ok]
  · rw [hln, e4]
    have ek : (((byt k).toNat : Nat) : Int) = k := by omega
    have ep : ((strmR k p ++ List.replicate z 0).drop 3).take p.length = p := by
      rw [strmR, bodyR]; simp
    rw [ek, ep]
  · rw [hln, e1, e2, leV_le4 hcr]; simp
  · rw [hln, e3, e4]
    rintro (h | h)
    · rw [List.any_eq_true] at h
      obtain ⟨x, hx, hx2⟩ := h
      rw [(List.mem_replicate.1 hx).2] at hx2
      exact absurd hx2 (by decide)
    · omega
def encL (r : Rcd) : List Sec := secsR r.sq.toNat (strmR r.kind r.pay)
structure RcOk (f : Int) (rs : List Rcd) : Prop where
  kd : ∀ r ∈ rs, 1 ≤ r.kind ∧ r.kind ≤ 255 ∧ r.pay.length ≤ 4096
  sq : ∀ (i : Nat) (h : i < rs.length), rs[i].sq = f + i
theorem RcOk.nil (f : Int) : RcOk f [] := ⟨fun r h => (by cases h), fun i h => absurd h (Nat.not_lt_zero _)⟩
theorem RcOk.tail {f : Int} {r : Rcd} {rs : List Rcd} (h : RcOk f (r :: rs)) : RcOk (f + 1) rs :=
  ⟨fun x hx => h.kd x (List.mem_cons_of_mem _ hx), fun i hi => by
    have := h.sq (i + 1) (by rw [List.length_cons]; omega)
    rw [List.getElem_cons_succ] at this
    rw [this]; omega⟩
theorem RcOk.head {f : Int} {r : Rcd} {rs : List Rcd} (h : RcOk f (r :: rs)) : r.sq = f := by
  have := h.sq 0 (by simp)
  simpa using this
theorem RcOk.drop {f : Int} {rs : List Rcd} (h : RcOk f rs) (n : Nat) : RcOk (f + n) (rs.drop n) :=
  ⟨fun x hx => h.kd x (List.mem_of_mem_drop hx), fun i hi => by
    rw [List.length_drop] at hi
    rw [List.getElem_drop, h.sq (n + i) (by omega)]; omega⟩
theorem RcOk.snoc {f : Int} {rs : List Rcd} (h : RcOk f rs) {r : Rcd} (h1 : 1 ≤ r.kind ∧ r.kind ≤ 255 ∧ r.pay.length ≤ 4096) (h2 : r.sq = f + rs.length) : RcOk f (rs ++ [r]) :=
  ⟨fun x hx => by
    rcases List.mem_append.1 hx with hx | hx
    · exact h.kd x hx
    · rw [List.mem_singleton] at hx; rw [hx]; exact h1, fun i hi => by
    rw [List.length_append, List.length_singleton] at hi
    by_cases e : i < rs.length
    · rw [List.getElem_append_left e]; exact h.sq i e
    · rw [List.getElem_append_right (by omega)]
      have : i = rs.length := by omega
      subst this
      simpa using h2⟩
theorem encL_len {r : Rcd} (h : r.pay.length ≤ 4096) : ((encL r).length : Int) = szR (r.pay.length : Int) := by
  rw [encL, secsR_ln, strm_len, szR, if_neg (by omega)]; omega
theorem flatR_len : ∀ rs : List Rcd, (∀ r ∈ rs, 1 ≤ r.kind ∧ r.kind ≤ 255 ∧ r.pay.length ≤ 4096) → ((rs.flatMap encL).length : Int) = sumI (szs rs)
  | [], _ => rfl
  | r :: rs, h => by
    have := flatR_len rs fun x hx => h x (List.mem_cons_of_mem _ hx)
    rw [List.flatMap_cons, List.length_append, show szs (r :: rs) = szR (r.pay.length : Int) :: szs rs from rfl, sumI_cons, ← this, ← encL_len (h r List.mem_cons_self).2.2]
    omega
theorem flatR_gn {f : Int} {rs : List Rcd} (h : RcOk f rs) (h1 : 1 ≤ f) (h2 : f + rs.length ≤ 4294967296) {x : Sec} (hx : x ∈ rs.flatMap encL) : (gn x : Int) < f + rs.length := by
  obtain ⟨r, hr, hx⟩ := List.mem_flatMap.1 hx
  obtain ⟨i, hi, rfl⟩ := List.getElem_of_mem hr
  have := h.sq i hi
  rw [secsR_gn (by omega) hx]
  omega
theorem scan_rs : ∀ (rs : List Rcd) (f : Int) (fu : Nat) (R : List Sec), RcOk f rs → 1 ≤ f → f + rs.length ≤ 4294967296 → rs.length ≤ fu → (∀ g, (scanX g R (f + rs.length)).1 = []) → (scanX fu (rs.flatMap encL ++ R) f).1 = rs
  | [], f, fu, R, _, _, _, _, hs => by
    have := hs fu
    simpa using this
  | r :: rs, f, 0, R, h, h1, h2, h3, hs => by rw [List.length_cons] at h3; omega
  | r :: rs, f, fu + 1, R, h, h1, h2, h3, hs => by
    rw [List.length_cons] at h2 h3 hs
    have hk := h.kd r List.mem_cons_self
    have hq := h.head
    have hd := dec_enc (k := r.kind) (sq := r.sq.toNat) (p := r.pay) hk.1 hk.2.1 (by omega) (by omega) hk.2.2 (rs.flatMap encL ++ R)
    rw [scanX, if_neg (by omega), List.flatMap_cons, List.append_assoc, show encL r = secsR r.sq.toNat (strmR r.kind r.pay) from rfl, hd]
    dsimp only
    rw [if_neg (by rw [hq]; omega), List.drop_left, scan_rs rs (f + 1) fu R h.tail (by omega) (by omega) (by omega) (fun g => by
      have := hs g
      rwa [show f + 1 + (rs.length : Int) = f + ((rs.length + 1 : Nat) : Int) by omega])]
    obtain ⟨k, q, p⟩ := r
    dsimp only at hq ⊢
    rw [Int.toNat_of_nonneg (by omega)]
def TC (nx : Int) (l R : List Sec) : Prop := (∀ (i : Nat) x, R[i]? = some x → (gn x : Int) < nx ∨ l[i]? = some x) ∧ (l = [] ∨ ∃ i, i < l.length ∧ R[i]? ≠ l[i]?)
def LkOk (nx : Int) (l : List Sec) : Prop := l = [] ∨ ∃ (k : Int) (p : List UInt8), p.length ≤ 4096 ∧ l = secsR nx.toNat (strmR k p)
theorem begE_all {s : Sec} {l : List Sec} {n : Nat} (h : begE (s :: l) = .ok n) : ∀ x ∈ (s :: l).take n, gn x = gn s := by
  obtain ⟨h1, h2, h3, h4⟩ := begE_spec h
  subst h1
  cases ha : ((s :: l).take (szN s)).all (fun x => gn x == gn s) with
  | false => rw [begE_torn h3 (by omega) (by omega) ha] at h; cases h
  | true =>
    rw [List.all_eq_true] at ha
    intro x hx
    simpa using ha x hx
theorem scan_tc {nx : Int} {l R : List Sec} (h : TC nx l R) (hl : LkOk nx l) (h1 : 1 ≤ nx) (h2 : nx < 4294967296) : ∀ g, (scanX g R nx).1 = []
  | 0 => rfl
  | g + 1 => by
    rw [scanX, if_neg (by omega)]
    cases hd : decX R with
    | error e => rfl
    | ok x =>
      obtain ⟨r, n⟩ := x
      dsimp only
      rw [if_pos]
      intro hr
      cases R with
      | nil => rw [decX, begE_0] at hd; cases hd
      | cons s R =>
        unfold decX at hd
        split at hd
        · cases hd
        · rename_i m hm
          split at hd
          · cases hd
          · rename_i r' hrec
            obtain ⟨rfl, rfl⟩ : r' = r ∧ m = n := by simpa using hd
            have hsq : r'.sq = (gn s : Int) := by
              rw [List.getD_cons_zero] at hrec
              unfold recE at hrec
              split at hrec
              · cases hrec
              · split at hrec
                · cases hrec
                · cases hrec; rfl
            obtain ⟨b1, b2, b3, b4⟩ := begE_spec hm
            have b5 := begE_all hm
            have hg : (gn s : Int) = nx := by rw [← hsq, hr]
            have h0 := (h.1 0 s rfl).resolve_left (by omega)
            rcases hl with rfl | ⟨k, p, hp, rfl⟩
            · cases h0
            obtain ⟨tl, htl⟩ := secsR_cons nx.toNat (st := strmR k p) (by rw [strm_len]; omega)
            have hs0 : s = secR nx.toNat (strmR k p) 0 := by
              rw [htl] at h0
              simpa using h0.symm
            have hlr := lenR_0 nx.toNat (k := k) hp
            have hn : m = (secsR nx.toNat (strmR k p)).length := by rw [b1, szN, hs0, hlr, secsR_ln, strm_len]
            rcases h.2 with h3 | ⟨i, hi, h3⟩
            · rw [htl] at h3; cases h3
            rw [← hn] at hi
            have hil : i < (s :: R).length := by omega
            have hx : (s :: R)[i]? = some (s :: R)[i] := List.getElem?_eq_getElem hil
            rcases h.1 i _ hx with h4 | h4
            · have := b5 (s :: R)[i] (List.mem_of_getElem? (i := i) (by rw [List.getElem?_take, if_pos hi, hx]))
              omega
            · exact h3 (hx.trans h4.symm)
end Go.Proofs.YtmgoflhjblombaaGreatDoor
namespace Go.Proofs.YtmgoflhjblombaaGreatDoor
open Go.Proofs
def posN (h n i : Nat) : Nat := if h + i < n then h + i else h + i - n
theorem posN_lt {h n i : Nat} (hh : h < n) (hi : i ≤ n) : posN h n i < n := by unfold posN; split <;> omega
theorem posN_inj {h n i k : Nat} (hh : h < n) (hi : i < n) (hk : k < n) (e : posN h n i = posN h n k) : i = k := by
  unfold posN at e; split at e <;> split at e <;> omega
theorem posN_mod {h n i : Nat} (hh : h < n) (hi : i ≤ n) : (h + i) % n = posN h n i := by
  unfold posN
  split
  · exact Nat.mod_eq_of_lt (by assumption)
  · rw [Nat.mod_eq_sub_mod (by omega), Nat.mod_eq_of_lt (by omega)]
theorem posN_modI {h n i : Nat} (hh : h < n) (hi : i ≤ n) : ((h : Int) + (i : Int)) % (n : Int) = ((posN h n i : Nat) : Int) := by
  rw [← posN_mod hh hi]; simp
def ringR (s : List Sec) (b h n : Nat) : List Sec := (List.range n).map fun i => s.getD (b + posN h n i) sec0
theorem ringR_len (s : List Sec) (b h n : Nat) : (ringR s b h n).length = n := by rw [ringR, List.length_map, List.length_range]
theorem ringR_get {s : List Sec} {b h n : Nat} (hl : b + n ≤ s.length) (hh : h < n) {i : Nat} (hi : i < n) : (ringR s b h n)[i]? = s[b + posN h n i]? := by
  have := posN_lt hh (Nat.le_of_lt hi)
  rw [ringR, List.getElem?_map, List.getElem?_range hi, Option.map_some, List.getD_eq_getElem?_getD, List.getElem?_eq_getElem (by omega), Option.getD_some]
theorem turn_ring {s : List Sec} {b h n : Nat} (hl : b + n ≤ s.length) (hh : h < n) : turnM (h : Int) n ((s.drop b).take n) n = ringR s b h n := by
  rw [turnM, ringR]
  refine List.map_congr_left fun k hk => ?_
  rw [List.mem_range] at hk
  have := posN_lt hh (Nat.le_of_lt hk)
  rw [posN_modI hh (Nat.le_of_lt hk), Int.toNat_natCast, List.getD_eq_getElem?_getD, List.getD_eq_getElem?_getD, List.getElem?_take, if_pos this, List.getElem?_drop]
def ringJ (s : List Sec) (j : Jrn) : List Sec := ringR s (j.start.toNat + 16) j.head.toNat (j.count - 16).toNat
structure RJ (s : List Sec) (j : Jrn) (rs : List Rcd) (l : List Sec) (T : Nat) : Prop where
  jd : JD s j T
  sz : j.sizes = szs rs
  rc : RcOk j.first rs
  lk : LkOk (nextJ j) l
  ring : ∃ R, ringJ s j = rs.flatMap encL ++ R ∧ TC (nextJ j) l R
structure RV (s : List Sec) (j : Jrn) (rs : List Rcd) (st n hd u : Nat) : Prop where
  est : j.start = st
  ect : j.count = (n : Int) + 16
  ehd : j.head = hd
  esu : sumI j.sizes = u
  efl : (rs.flatMap encL).length = u
  eun : u ≤ n
  ehn : hd < n
  etl : j.tail = posN hd n u
  en4 : 4 ≤ n
  en5 : n ≤ 4096
  els : st + 16 + n ≤ s.length
  el4 : s.length ≤ 4096
  ef1 : 1 ≤ j.first
  enx : nextJ j ≤ 1073741824
  enl : nextJ j = j.first + rs.length
  erg : ringJ s j = ringR s (st + 16) hd n
theorem RJ.val {s : List Sec} {j : Jrn} {rs : List Rcd} {l : List Sec} {T : Nat} (h : RJ s j rs l T) : ∃ st n hd u, RV s j rs st n hd u := by
  obtain ⟨st, n, e1, e2, h4, h5, h6, h7, h8⟩ := h.jd.val
  have hf := flatR_len rs h.rc.kd
  have hc := (chkJ_iff j).1 h.jd.chk
  have hp := (preJ_iff j).1 hc.2.1
  rw [← h.sz] at hf
  have hl : j.sizes.length = rs.length := by rw [h.sz, szs, List.length_map]
  obtain ⟨hd, hhd⟩ : ∃ hd : Nat, j.head = hd := ⟨j.head.toNat, by omega⟩
  refine ⟨st, n, hd, (rs.flatMap encL).length, e1, e2, hhd, hf.symm, rfl, by omega, by omega, ?_, h4, h5, h7, h8, hp.2.2.1, ?_, ?_, ?_⟩
  · rw [hc.2.2.2.2, ← hf, show j.count - 16 = (n : Int) by omega, hhd, posN_modI (by omega) (by omega)]
  · unfold nextJ; omega
  · unfold nextJ; omega
  · rw [ringJ, e1, hhd, show (j.count - 16).toNat = n by omega]; rfl
theorem norm_nat {n : Int} (h0 : 0 ≤ n) (h1 : n ≤ 9007199254740991) : ((norm n : Nat) : Int) = n := by
  unfold norm; split <;> omega
theorem headP_super {c h f : Int} (h0 : 0 ≤ h) (h1 : h < c - 16) (h2 : c ≤ 4096) (f0 : 1 ≤ f) (f1 : f ≤ 1073741824) : headP c (superJ h f) = (h, f, 0) := by
  have e2 : number (enc f) = .ok (norm f, []) := by have := number_enc f []; rwa [List.append_nil] at this
  have n1 := norm_nat h0 (by omega : h ≤ 9007199254740991)
  have n2 := norm_nat (by omega : 0 ≤ f) (by omega : f ≤ 9007199254740991)
  rw [headP, superJ, number_enc]
  dsimp only
  rw [e2]
  dsimp only
  rw [if_neg (by rw [n1, n2]; simp; omega), n1, n2]
theorem RJ.open {s : List Sec} {j : Jrn} {rs : List Rcd} {l : List Sec} {T : Nat} (h : RJ s j rs l T) :
    openJ j.start j.count ⟨s, []⟩ = (j, rs, remX j ((s.drop (j.start.toNat + 16)).take (j.count - 16).toNat), 0) := by
  obtain ⟨st, n, hd, u, v⟩ := h.val
  have hJ := h.jd.chk
  have hc := (chkJ_iff j).1 hJ
  have hp := (preJ_iff j).1 hc.2.1
  obtain ⟨g, hg⟩ := h.jd.gd
  obtain ⟨v1, v2, v3, v4, v5, v6, v7, v8, v9, v10, v11, v12, v13, v14, v15, v16⟩ := v
  have hk : checkD ⟨s, []⟩ = 0 := chk_nil v12
  have hload : loadS ⟨s, []⟩ j.start = (superJ j.head j.first, g, 0) := by
    have := hg.load
    rwa [show ((j.start.toNat : Nat) : Int) = j.start by omega] at this
  have hhead : headJ j.start j.count ⟨s, []⟩ = (j.head, j.first, 0) := by
    rw [headJ, hload, if_neg (by simp)]
    exact headP_super hp.1 hp.2.1 (by omega) hp.2.2.1 hp.2.2.2.1
  have hrd : readD ⟨s, []⟩ (j.start + 16) (j.count - 16) = ((s.drop (st + 16)).take n, 0) := by
    rw [readD, if_neg (by simp [hk]), if_neg (by simp [insideB]; omega), show (j.start + 16).toNat = st + 16 by omega, show (j.count - 16).toNat = n by omega]; rfl
  have hst : j.start.toNat = st := by omega
  have hcn : (j.count - 16).toNat = n := by omega
  obtain ⟨R, hR, hT⟩ := h.ring
  have hturn : turnM j.head n ((s.drop (st + 16)).take n) n = rs.flatMap encL ++ R := by
    rw [v3, turn_ring (by omega) v7, ← v16, hR]
  have hrl : (rs.flatMap encL ++ R).length = n := by rw [← hR, v16, ringR_len]
  have hrr := flatR_len rs h.rc.kd
  have hge := sumI_ge j.sizes hc.2.2.1
  rw [← h.sz] at hrr
  have hszl : j.sizes.length = rs.length := by rw [h.sz, szs, List.length_map]
  have hsc : (scanA (rs.flatMap encL ++ R) j.first).1 = rs := by
    refine scan_rs rs j.first _ R h.rc v13 (by omega) (by rw [hrl]; omega) fun g => ?_
    rw [← v15]
    exact scan_tc hT h.lk (by omega) (by omega) g
  have hrec : recsO j.first (turnM j.head n ((s.drop (st + 16)).take n) n) = rs := by
    rw [hturn, recsO, hsc]
    refine List.take_of_length_le ?_
    have := hp.2.2.2.2
    omega
  have hjo : jO j.start j.count j.head j.first rs = j := by
    rw [jO, ← h.sz, tailX_sum (by omega) hp.1 hp.2.1, ← hc.2.2.2.2]
  have hfin : openJ j.start j.count ⟨s, []⟩ = (jO j.start j.count j.head j.first rs, rs, remX (jO j.start j.count j.head j.first rs) ((s.drop (st + 16)).take n), 0) := by
    unfold openJ
    rw [hhead, hrd]
    dsimp only
    rw [hcn, hrec, hjo, if_neg (by simp [hk]), if_neg (by simp only [hc.1]; simp; omega), if_neg (by simp), if_neg (by simp), hJ, if_neg (by simp)]
  rw [hfin, hjo, hst, hcn]
def MixW (s : List Sec) (P : Nat → Sec → Prop) (s' : List Sec) : Prop := s'.length = s.length ∧ ∀ q, s'[q]? = s[q]? ∨ ∃ x, P q x ∧ s'[q]? = some x
def InW (ws : List Opn) (q : Nat) (x : Sec) : Prop := ∃ (a : Nat) (l : List Sec) (i : Nat), opW a l ∈ ws ∧ l[i]? = some x ∧ q = a + i
theorem MixW.refl (s : List Sec) (P : Nat → Sec → Prop) : MixW s P s := ⟨rfl, fun _ => .inl rfl⟩
theorem MixW.mono {s s' : List Sec} {P Q : Nat → Sec → Prop} (h : MixW s P s') (hP : ∀ q x, P q x → Q q x) : MixW s Q s' := ⟨h.1, fun q => (h.2 q).imp id fun ⟨x, a, b⟩ => ⟨x, hP q x a, b⟩⟩
def WsOk (n : Nat) (ws : List Opn) : Prop := ∀ o ∈ ws, ∃ (a : Nat) (l : List Sec), o = opW a l ∧ a + l.length ≤ n
theorem WsOk.ok {n : Nat} {ws : List Opn} (h : WsOk n ws) : ∀ o ∈ ws, OpOk n o := fun o ho => .inr (h o ho)
theorem exec_mix : ∀ (ws : List Opn) (s : List Sec), WsOk s.length ws → MixW s (InW ws) (execS s ws)
  | [], s, _ => .refl _ _
  | o :: ws, s, h => by
    obtain ⟨a, l, rfl, hl⟩ := h o (by simp)
    have ih := exec_mix ws (patS s a l) (fun x hx => by rw [patS_len]; exact h x (by simp [hx]))
    rw [execS_w]
    refine ⟨by rw [ih.1, patS_len], fun q => ?_⟩
    rcases ih.2 q with e | ⟨x, ⟨a', l', i, m1, m2, m3⟩, e⟩
    · rw [e, patS_get hl]
      by_cases c : a ≤ q ∧ q < a + l.length
      · rw [if_pos c]
        right
        exact ⟨l[q - a], ⟨a, l, q - a, by simp, List.getElem?_eq_getElem (by omega), by omega⟩, List.getElem?_eq_getElem (by omega)⟩
      · rw [if_neg c]; exact .inl rfl
    · exact .inr ⟨x, ⟨a', l', i, by simp [m1], m2, m3⟩, e⟩
theorem exec_all : ∀ (ws : List Opn) (s : List Sec), WsOk s.length ws → ∀ (q : Nat) (x : Sec), (∀ y, InW ws q y → y = x) → (InW ws q x ∨ s[q]? = some x) → (execS s ws)[q]? = some x
  | [], s, _, q, x, _, h => by
    rcases h with ⟨a, l, i, m, _⟩ | h
    · cases m
    · exact h
  | o :: ws, s, h, q, x, hu, hx => by
    obtain ⟨a, l, rfl, hl⟩ := h o (by simp)
    rw [execS_w]
    refine exec_all ws (patS s a l) (fun y hy => by rw [patS_len]; exact h y (by simp [hy])) q x (fun y ⟨a', l', i, m1, m2, m3⟩ => hu y ⟨a', l', i, by simp [m1], m2, m3⟩) ?_
    have key : a ≤ q ∧ q < a + l.length → (patS s a l)[q]? = some x := fun c => by
      rw [patS_get hl, if_pos c, List.getElem?_eq_getElem (by omega)]
      congr 1
      exact hu _ ⟨a, l, q - a, by simp, List.getElem?_eq_getElem (by omega), by omega⟩
    by_cases c : a ≤ q ∧ q < a + l.length
    · exact .inr (key c)
    · rcases hx with ⟨a', l', i, m1, m2, m3⟩ | hx
      · rcases List.mem_cons.1 m1 with e | m1
        · simp only [opW, Opn.mk.injEq] at e
          obtain ⟨-, e1, rfl⟩ := e
          have : i < l'.length := (List.getElem?_eq_some_iff.1 m2).1
          exact absurd ⟨by omega, by omega⟩ c
        · exact .inl ⟨a', l', i, m1, m2, m3⟩
      · right; rw [patS_get hl, if_neg c, hx]
end Go.Proofs.YtmgoflhjblombaaGreatDoor
namespace Go.Proofs.YtmgoflhjblombaaGreatDoor
open Go.Proofs
theorem opW_inj {a b : Nat} {l m : List Sec} (h : opW a l = opW b m) : a = b ∧ l = m := by
  simp only [opW, Opn.mk.injEq] at h
  exact ⟨by omega, h.2.2⟩
theorem opW_val (a : Nat) (l : List Sec) {x : Int} (h : x = (a : Int)) : opW x l = opW a l := by rw [h]
theorem wrap_in {s : List Sec} {j : Jrn} {rs : List Rcd} {st n hd u : Nat} (v : RV s j rs st n hd u) {l : List Sec} (hl : u + l.length ≤ n) (h1 : 1 ≤ l.length) :
    WsOk s.length (wrapW j.start j.count j.tail l) ∧ (∀ q x, InW (wrapW j.start j.count j.tail l) q x ↔ ∃ i, i < l.length ∧ l[i]? = some x ∧ q = st + 16 + posN hd n (u + i)) := by
  obtain ⟨v1, v2, v3, v4, v5, v6, v7, v8, v9, v10, v11, v12, v13, v14, v15, v16⟩ := v
  have hk : kW j.count j.tail l = min l.length (n - posN hd n u) := by
    have := posN_lt v7 v6
    rw [kW, v2, v8]; omega
  have ht := posN_lt v7 v6
  have hpos : ∀ i, i < l.length → posN hd n (u + i) = if i < n - posN hd n u then posN hd n u + i else posN hd n u + i - n := fun i hi => by
    unfold posN at ht ⊢
    split <;> split <;> split <;> omega
  generalize posN hd n u = t at *
  have e1 : opW (j.start + 16 + j.tail) (l.take (kW j.count j.tail l)) = opW ((st + 16 + t : Nat) : Int) (l.take (kW j.count j.tail l)) := opW_val _ _ (by omega)
  have e2 : opW (j.start + 16) (l.drop (kW j.count j.tail l)) = opW ((st + 16 : Nat) : Int) (l.drop (kW j.count j.tail l)) := opW_val _ _ (by omega)
  by_cases hlt : kW j.count j.tail l < l.length
  · rw [wrapW_1 hlt, e1, e2]
    generalize kW j.count j.tail l = k at *
    have hkk : k = n - t := by omega
    refine ⟨fun o ho => ?_, fun q x => ⟨?_, ?_⟩⟩
    · simp only [List.mem_cons, List.not_mem_nil, or_false] at ho
      rcases ho with rfl | rfl
      · exact ⟨_, _, rfl, by rw [List.length_take]; omega⟩
      · exact ⟨_, _, rfl, by rw [List.length_drop]; omega⟩
    · rintro ⟨a, m, i, m1, m2, rfl⟩
      simp only [List.mem_cons, List.not_mem_nil, or_false] at m1
      rcases m1 with m1 | m1
      · obtain ⟨rfl, rfl⟩ := opW_inj m1
        rw [List.getElem?_take] at m2
        split at m2
        · have := (List.getElem?_eq_some_iff.1 m2).1
          refine ⟨i, this, m2, ?_⟩
          rw [hpos i this, if_pos (by omega)]; omega
        · cases m2
      · obtain ⟨rfl, rfl⟩ := opW_inj m1
        rw [List.getElem?_drop] at m2
        have := (List.getElem?_eq_some_iff.1 m2).1
        refine ⟨k + i, this, m2, ?_⟩
        rw [hpos (k + i) this, if_neg (by omega)]; omega
    · rintro ⟨i, hi, m2, rfl⟩
      rw [hpos i hi]
      by_cases c : i < n - t
      · rw [if_pos c]
        exact ⟨_, _, i, List.mem_cons_self, by rw [List.getElem?_take, if_pos (by omega), m2], by omega⟩
      · rw [if_neg c]
        exact ⟨_, _, i - k, List.mem_cons_of_mem _ List.mem_cons_self, by rw [List.getElem?_drop, show k + (i - k) = i by omega, m2], by omega⟩
  · rw [wrapW_0 hlt, e1]
    generalize kW j.count j.tail l = k at *
    have hkk : k = l.length := by omega
    subst hkk
    rw [List.take_length]
    refine ⟨fun o ho => ?_, fun q x => ⟨?_, ?_⟩⟩
    · rw [List.mem_singleton] at ho; subst ho
      exact ⟨_, _, rfl, by omega⟩
    · rintro ⟨a, m, i, m1, m2, rfl⟩
      rw [List.mem_singleton] at m1
      obtain ⟨rfl, rfl⟩ := opW_inj m1
      have := (List.getElem?_eq_some_iff.1 m2).1
      refine ⟨i, this, m2, ?_⟩
      rw [hpos i this, if_pos (by omega)]; omega
    · rintro ⟨i, hi, m2, rfl⟩
      rw [hpos i hi, if_pos (by omega)]
      exact ⟨_, _, i, List.mem_singleton.2 rfl, m2, by omega⟩
theorem ring_split {a b R : List Sec} {r : List Sec} (h : r = a ++ R) (r' : List Sec) (hl : r'.length = r.length) (hk : ∀ i, i < a.length → r'[i]? = r[i]?) : r' = a ++ r'.drop a.length := by
  refine List.ext_getElem? fun i => ?_
  by_cases c : i < a.length
  · rw [hk i c, h, List.getElem?_append_left c, List.getElem?_append_left c]
  · rw [List.getElem?_append_right (by omega), List.getElem?_drop]; congr 1; omega
theorem sb_keep {s s' : List Sec} {j : Jrn} {T : Nat} {P : Nat → Sec → Prop} (h : JD s j T) (hm : MixW s P s') (hP : ∀ q x, P q x → j.start.toNat + 16 ≤ q) (j' : Jrn) (hc : chkJ j' = true) (e1 : j'.start = j.start) (e2 : j'.count = j.count) (e3 : j'.head = j.head) (e4 : j'.first = j.first) : JD s' j' T := by
  obtain ⟨g, hg⟩ := h.gd
  refine ⟨hc, by rw [e1, e2, hm.1]; exact h.len, g, ?_⟩
  rw [e1, e3, e4]
  refine hg.keep hm.1 fun q q1 q2 => ?_
  rcases hm.2 q with e | ⟨x, hx, -⟩
  · exact e
  · have := hP q x hx; omega
theorem RJ.app {s : List Sec} {j : Jrn} {rs : List Rcd} {T : Nat} (h : RJ s j rs [] T) {k : Int} {p : List UInt8} {l : List Sec} (he : encR ⟨k, nextJ j, p⟩ = .ok l) (h1 : ¬ 1073741824 ≤ nextJ j) (h2 : ¬ freeJ j < l.length) :
    WsOk s.length (wrapW j.start j.count j.tail l) ∧ (∀ q x, InW (wrapW j.start j.count j.tail l) q x → j.start.toNat + 16 ≤ q ∧ q < j.start.toNat + j.count.toNat) ∧
    (∀ s', MixW s (InW (wrapW j.start j.count j.tail l)) s' →
      RJ s' j rs l T ∨ RJ s' ⟨j.start, j.count, j.head, (j.tail + l.length) % (j.count - 16), j.first, j.sizes ++ [(l.length : Int)]⟩ (rs ++ [⟨k, nextJ j, p⟩]) [] T) ∧
    RJ (execS s (wrapW j.start j.count j.tail l)) ⟨j.start, j.count, j.head, (j.tail + l.length) % (j.count - 16), j.first, j.sizes ++ [(l.length : Int)]⟩ (rs ++ [⟨k, nextJ j, p⟩]) [] T := by
  obtain ⟨st, n, hd, u, v⟩ := h.val
  have hbad : ¬ (k < 1 ∨ 255 < k ∨ nextJ j < 1 ∨ 4294967295 < nextJ j) := fun c => by rw [enc_bad (r := ⟨k, nextJ j, p⟩) c] at he; cases he
  have hlong : ¬ 4096 < p.length := fun c => by rw [enc_long (r := ⟨k, nextJ j, p⟩) hbad c] at he; cases he
  have hel : l = secsR (nextJ j).toNat (strmR k p) := by rw [enc_ok (r := ⟨k, nextJ j, p⟩) hbad hlong] at he; cases he; rfl
  have hz := enc_sz he
  have hz2 := (okSz_iff _).1 hz
  have hlen : l.length = (p.length + 10) / 4 := by rw [hel, secsR_ln, strm_len]
  have hfree : u + l.length ≤ n := by rw [freeJ, v.esu, v.ect] at h2; omega
  obtain ⟨w1, w2⟩ := wrap_in v hfree (by omega)
  have hge := sumI_ge j.sizes ((chkJ_iff j).1 h.jd.chk).2.2.1
  have vv := v
  obtain ⟨v1, v2, v3, v4, v5, v6, v7, v8, v9, v10, v11, v12, v13, v14, v15, v16⟩ := v
  have hP : ∀ q x, InW (wrapW j.start j.count j.tail l) q x → j.start.toNat + 16 ≤ q ∧ q < j.start.toNat + j.count.toNat := fun q x hq => by
    obtain ⟨i, hi, -, rfl⟩ := (w2 q x).1 hq
    have := posN_lt (h := hd) (n := n) (i := u + i) v7 (by omega)
    omega
  have hnx : 1 ≤ nextJ j := by omega
  have hlg : ∀ x ∈ l, (gn x : Int) = nextJ j := fun x hx => by
    rw [hel] at hx
    rw [secsR_gn (by omega) hx]; omega
  obtain ⟨R, hR, hT⟩ := h.ring
  rw [v16] at hR
  have hRl : (rs.flatMap encL ++ R).length = n := by rw [← hR, ringR_len]
  rw [List.length_append, v5] at hRl
  have hRg : ∀ (i : Nat) x, R[i]? = some x → (gn x : Int) < nextJ j := fun i x hx => (hT.1 i x hx).resolve_right (by simp)
  have key : ∀ s', MixW s (InW (wrapW j.start j.count j.tail l)) s' → ∃ R', ringR s' (st + 16) hd n = rs.flatMap encL ++ R' ∧ R'.length = n - u ∧ ∀ (i : Nat) x, R'[i]? = some x → (gn x : Int) < nextJ j ∨ l[i]? = some x := fun s' hm => by
    have hg : ∀ i, i < n → (ringR s' (st + 16) hd n)[i]? = (ringR s (st + 16) hd n)[i]? ∨ ∃ x, u ≤ i ∧ l[i - u]? = some x ∧ (ringR s' (st + 16) hd n)[i]? = some x := fun i hi => by
      rw [ringR_get (by rw [hm.1]; omega) v7 hi, ringR_get (by omega) v7 hi]
      rcases hm.2 (st + 16 + posN hd n i) with e | ⟨x, hx, e⟩
      · exact .inl e
      · obtain ⟨k', hk', k2, k3⟩ := (w2 _ x).1 hx
        have := posN_inj v7 hi (by omega : u + k' < n) (by omega)
        exact .inr ⟨x, by omega, by rw [show i - u = k' by omega]; exact k2, e⟩
    have hsp := ring_split (b := []) hR (ringR s' (st + 16) hd n) (by rw [ringR_len, ringR_len]) (fun i hi => by
      rcases hg i (by omega) with e | ⟨x, e, -⟩
      · exact e
      · omega)
    rw [v5] at hsp
    refine ⟨_, hsp, by rw [List.length_drop, ringR_len], fun i x hx => ?_⟩
    rw [List.getElem?_drop] at hx
    have hil : u + i < n := by have := (List.getElem?_eq_some_iff.1 hx).1; rwa [ringR_len] at this
    rcases hg (u + i) hil with e | ⟨y, e1, e2, e3⟩
    · left
      rw [hx, hR, List.getElem?_append_right (by omega), show u + i - (rs.flatMap encL).length = i by omega] at e
      exact hRg i x e.symm
    · right
      rw [show u + i - u = i by omega] at e2
      rw [hx] at e3
      rw [e2, ← e3]
  have hj' : ∀ s', MixW s (InW (wrapW j.start j.count j.tail l)) s' → (∀ R', ringR s' (st + 16) hd n = rs.flatMap encL ++ R' → ∀ i, i < l.length → R'[i]? = l[i]?) → RJ s' ⟨j.start, j.count, j.head, (j.tail + l.length) % (j.count - 16), j.first, j.sizes ++ [(l.length : Int)]⟩ (rs ++ [⟨k, nextJ j, p⟩]) [] T := fun s' hm hf => by
    obtain ⟨R', k1, k2, k3⟩ := key s' hm
    have hnx' : nextJ ⟨j.start, j.count, j.head, (j.tail + l.length) % (j.count - 16), j.first, j.sizes ++ [(l.length : Int)]⟩ = nextJ j + 1 := by
      unfold nextJ; simp; omega
    refine ⟨sb_keep h.jd hm (fun q x hq => (hP q x hq).1) _ (chkJ_app h.jd.chk h1 h2 hz) rfl rfl rfl rfl, ?_, h.rc.snoc ⟨by show 1 ≤ k; omega, by show k ≤ 255; omega, by show p.length ≤ 4096; omega⟩ v15, .inl rfl, R'.drop l.length, ?_, fun i x hx => .inl ?_, .inl rfl⟩
    · show j.sizes ++ [(l.length : Int)] = szs (rs ++ [⟨k, nextJ j, p⟩])
      have : szR (p.length : Int) = (l.length : Int) := by rw [szR, if_neg (by omega), hlen]; omega
      rw [h.sz, szs, szs, List.map_append, List.map_cons, List.map_nil]
      show _ = _ ++ [szR (p.length : Int)]
      rw [this]
    · show ringJ s' _ = _
      rw [ringJ]
      show ringR s' (j.start.toNat + 16) j.head.toNat (j.count - 16).toNat = _
      rw [show j.start.toNat + 16 = st + 16 by omega, show j.head.toNat = hd by omega, show (j.count - 16).toNat = n by omega, k1, List.flatMap_append, List.flatMap_cons, List.flatMap_nil, List.append_nil, List.append_assoc]
      congr 1
      have e : encL ⟨k, nextJ j, p⟩ = l := hel.symm
      rw [e]
      refine (List.take_append_drop l.length R').symm.trans ?_
      congr 1
      refine List.ext_getElem? fun i => ?_
      rw [List.getElem?_take]
      by_cases c : i < l.length
      · rw [if_pos c, hf R' k1 i c]
      · rw [if_neg c, List.getElem?_eq_none (by omega)]
    · rw [hnx']
      rw [List.getElem?_drop] at hx
      rcases k3 _ x hx with e | e
      · omega
      · have := hlg x (List.mem_of_getElem? e); omega
  refine ⟨w1, hP, fun s' hm => ?_, ?_⟩
  · obtain ⟨R', k1, k2, k3⟩ := key s' hm
    by_cases hf : ∀ i, i < l.length → R'[i]? = l[i]?
    · right
      refine hj' s' hm fun R2 e i hi => ?_
      have : R2 = R' := List.append_cancel_left (e.symm.trans k1)
      rw [this, hf i hi]
    · left
      obtain ⟨i, hi⟩ := Classical.not_forall.1 hf
      obtain ⟨hi1, hi2⟩ := Classical.not_imp.1 hi
      refine ⟨sb_keep h.jd hm (fun q x hq => (hP q x hq).1) _ h.jd.chk rfl rfl rfl rfl, h.sz, h.rc, .inr ⟨k, p, by omega, hel⟩, R', ?_, k3, .inr ⟨i, hi1, hi2⟩⟩
      rw [ringJ, show j.start.toNat + 16 = st + 16 by omega, show j.head.toNat = hd by omega, show (j.count - 16).toNat = n by omega, k1]
  · have hm := exec_mix _ s w1
    refine hj' _ hm fun R' e i hi => ?_
    have h3 : (ringR (execS s (wrapW j.start j.count j.tail l)) (st + 16) hd n)[u + i]? = some l[i] := by
      rw [ringR_get (by rw [hm.1]; omega) v7 (by omega)]
      refine exec_all _ s w1 _ _ (fun y hy => ?_) (.inl ((w2 _ _).2 ⟨i, hi, List.getElem?_eq_getElem hi, rfl⟩))
      obtain ⟨i', k1, k2, k3⟩ := (w2 _ y).1 hy
      have := posN_inj v7 (by omega : u + i < n) (by omega : u + i' < n) (by omega)
      obtain rfl : i = i' := by omega
      rw [List.getElem?_eq_getElem hi] at k2
      exact (Option.some.inj k2).symm
    rw [e, List.getElem?_append_right (by omega), show u + i - (rs.flatMap encL).length = i by omega] at h3
    rw [h3, List.getElem?_eq_getElem hi]
end Go.Proofs.YtmgoflhjblombaaGreatDoor
namespace Go.Proofs.YtmgoflhjblombaaGreatDoor
open Go.Proofs
theorem ring_turn {s : List Sec} {b hd n w : Nat} (hl : b + n ≤ s.length) (hh : hd < n) (hw : w ≤ n) : ringR s b (posN hd n w) n = (ringR s b hd n).drop w ++ (ringR s b hd n).take w := by
  have hp := posN_lt hh hw
  refine List.ext_getElem? fun i => ?_
  by_cases hi : i < n
  · rw [ringR_get hl hp hi]
    by_cases c : i < n - w
    · rw [List.getElem?_append_left (by rw [List.length_drop, ringR_len]; exact c), List.getElem?_drop, ringR_get hl hh (by omega)]
      congr 2
      unfold posN; split <;> split <;> split <;> omega
    · rw [List.getElem?_append_right (by rw [List.length_drop, ringR_len]; omega), List.length_drop, ringR_len, List.getElem?_take, if_pos (by omega), ringR_get hl hh (by omega)]
      congr 2
      unfold posN; split <;> split <;> split <;> omega
  · rw [List.getElem?_eq_none (by rw [ringR_len]; omega), List.getElem?_eq_none (by rw [List.length_append, List.length_drop, List.length_take, ringR_len]; omega)]
theorem mix_mx {s s' : List Sec} {a : Nat} {l : List Sec} (h : MixW s (InW [opW a l]) s') : Mx s s' a l :=
  ⟨h.1, fun q => by
    rcases h.2 q with e | ⟨x, ⟨a', l', i, m1, m2, rfl⟩, e⟩
    · exact .inl e
    · rw [List.mem_singleton] at m1
      obtain ⟨rfl, rfl⟩ := opW_inj m1
      have := (List.getElem?_eq_some_iff.1 m2).1
      exact .inr ⟨by omega, by omega, by rw [e, Nat.add_sub_cancel_left, m2]⟩⟩
def dropJ (j : Jrn) (n : Nat) : Jrn := ⟨j.start, j.count, (j.head + sumI (j.sizes.take n)) % (j.count - 16), j.tail, j.first + n, j.sizes.drop n⟩
theorem szs_take (rs : List Rcd) (n : Nat) : szs (rs.take n) = (szs rs).take n := by rw [szs, szs, List.map_take]
theorem szs_drop (rs : List Rcd) (n : Nat) : szs (rs.drop n) = (szs rs).drop n := by rw [szs, szs, List.map_drop]
theorem ring_keep {s s' : List Sec} {b hd n : Nat} (hl : b + n ≤ s.length) (hh : hd < n) (hs : s'.length = s.length) (h : ∀ q, b ≤ q → q < b + n → s'[q]? = s[q]?) : ringR s' b hd n = ringR s b hd n := by
  refine List.ext_getElem? fun i => ?_
  by_cases hi : i < n
  · have := posN_lt hh (Nat.le_of_lt hi)
    rw [ringR_get (by omega) hh hi, ringR_get hl hh hi, h _ (by omega) (by omega)]
  · rw [List.getElem?_eq_none (by rw [ringR_len]; omega), List.getElem?_eq_none (by rw [ringR_len]; omega)]
theorem RJ.rel {s : List Sec} {j : Jrn} {rs : List Rcd} {T : Nat} (h : RJ s j rs [] T) (hT : T < 4294967295) {n : Nat} (hn : n ≤ rs.length) (h0 : n ≠ 0) :
    ∃ ws, relJ ⟨s, []⟩ j (j.first - 1 + n) = (dropJ j n, ws ++ [opS], 0) ∧ ws.length = 1 ∧ WsOk s.length ws ∧ (∀ q x, InW ws q x → j.start.toNat ≤ q ∧ q < j.start.toNat + 16) ∧
      (∀ s', MixW s (InW ws) s' → RJ s' j rs [] (T + 1) ∨ RJ s' (dropJ j n) (rs.drop n) [] (T + 1)) ∧ RJ (execS s ws) (dropJ j n) (rs.drop n) [] (T + 1) := by
  obtain ⟨st, m, hd, u, v⟩ := h.val
  have hszl : j.sizes.length = rs.length := by rw [h.sz, szs, List.length_map]
  obtain ⟨g, hg⟩ := h.jd.gd
  have hk := chk_nil hg.l2
  have hnx : nextJ j = j.first + j.sizes.length := rfl
  obtain ⟨v1, v2, v3, v4, v5, v6, v7, v8, v9, v10, v11, v12, v13, v14, v15, v16⟩ := v
  have hr : relJ ⟨s, []⟩ j (j.first - 1 + n) =
      if (storeS ⟨s, []⟩ j.start (superJ ((j.head + sumI (j.sizes.take n)) % (j.count - 16)) (j.first + n))).2 ≠ 0 then (zjr, [], (storeS ⟨s, []⟩ j.start (superJ ((j.head + sumI (j.sizes.take n)) % (j.count - 16)) (j.first + n))).2)
      else (⟨j.start, j.count, (j.head + sumI (j.sizes.take n)) % (j.count - 16), j.tail, j.first + n, j.sizes.drop n⟩, (storeS ⟨s, []⟩ j.start (superJ ((j.head + sumI (j.sizes.take n)) % (j.count - 16)) (j.first + n))).1, 0) := by
    rw [relJ, if_neg (by simp [hk]), if_neg (by simp [h.jd.chk]), if_neg (by omega), if_neg (by omega)]
    have : (j.first - 1 + n + 1 - j.first).toNat = n := by omega
    rw [this, show j.first - 1 + (n : Int) + 1 = j.first + n by omega]
  have hp := super_len ((j.head + sumI (j.sizes.take n)) % (j.count - 16)) (j.first + n)
  have hst0 : j.start.toNat = st := by omega
  rw [hst0] at hg
  have hstore := hg.store hp hT
  rw [v1, hstore, if_neg (by simp)] at hr
  obtain ⟨R, hR, hTC⟩ := h.ring
  rw [v16] at hR
  have hw : (((rs.take n).flatMap encL).length : Int) = sumI (j.sizes.take n) := by
    rw [flatR_len _ (fun r hr => h.rc.kd r (List.mem_of_mem_take hr)), szs_take, ← h.sz]
  have hfl : rs.flatMap encL = (rs.take n).flatMap encL ++ (rs.drop n).flatMap encL := by
    rw [← List.flatMap_append, List.take_append_drop]
  have hwu : ((rs.take n).flatMap encL).length ≤ u := by rw [← v5, hfl, List.length_append]; omega
  have hwn : ((rs.take n).flatMap encL).length ≤ m := by omega
  generalize hwd : ((rs.take n).flatMap encL).length = w at hw hwu hwn
  have hhd : (j.head + sumI (j.sizes.take n)) % (j.count - 16) = ((posN hd m w : Nat) : Int) := by
    rw [v3, ← hw, show j.count - 16 = (m : Int) by omega, posN_modI v7 hwn]
  have hpl := posN_lt v7 hwn
  have hJ' : chkJ (dropJ j n) = true := chkJ_drop h.jd.chk (by omega)
  have hnx' : nextJ (dropJ j n) = nextJ j := by
    unfold nextJ dropJ
    dsimp only
    rw [List.length_drop]; omega
  have hold : ∀ s', s'.length = s.length → (∀ q, st + 16 ≤ q → s'[q]? = s[q]?) → (∃ g, Gd st s' g (superJ j.head j.first) (T + 1)) → RJ s' j rs [] (T + 1) := fun s' hl hq hgd => by
    refine ⟨⟨h.jd.chk, by rw [hl]; exact h.jd.len, by rw [hst0]; exact hgd⟩, h.sz, h.rc, .inl rfl, R, ?_, hTC⟩
    rw [ringJ, show j.start.toNat + 16 = st + 16 by omega, show j.head.toNat = hd by omega, show (j.count - 16).toNat = m by omega, ← hR]
    exact ring_keep (by omega) v7 hl fun q q1 _ => hq q q1
  have hnew : ∀ s', s'.length = s.length → (∀ q, st + 16 ≤ q → s'[q]? = s[q]?) → (∃ g, Gd st s' g (superJ ((j.head + sumI (j.sizes.take n)) % (j.count - 16)) (j.first + n)) (T + 1)) → RJ s' (dropJ j n) (rs.drop n) [] (T + 1) := fun s' hl hq hgd => by
    refine ⟨⟨hJ', by rw [hl]; exact h.jd.len, ?_⟩, ?_, h.rc.drop n, .inl rfl, R ++ (rs.take n).flatMap encL, ?_, fun i x hx => .inl ?_, .inl rfl⟩
    · show ∃ g, Gd j.start.toNat s' g _ _
      rw [hst0]; exact hgd
    · show j.sizes.drop n = _
      rw [szs_drop, ← h.sz]
    · show ringR s' (j.start.toNat + 16) ((j.head + sumI (j.sizes.take n)) % (j.count - 16)).toNat (j.count - 16).toNat = _
      rw [hhd, show j.start.toNat + 16 = st + 16 by omega, Int.toNat_natCast, show (j.count - 16).toNat = m by omega, ring_keep (by omega) hpl hl fun q q1 _ => hq q q1, ring_turn (by omega) v7 hwn, hR, hfl, ← hwd, List.append_assoc, List.drop_left, List.take_left, List.append_assoc]
    · rw [hnx']
      rcases List.mem_append.1 (List.mem_of_getElem? hx) with hx | hx
      · obtain ⟨i, hi⟩ := List.mem_iff_getElem?.1 hx
        exact (hTC.1 i x hi).resolve_right (by simp)
      · rw [v15]
        refine flatR_gn h.rc v13 (by omega) ?_
        rw [hfl]; exact List.mem_append_left _ hx
  generalize superJ ((j.head + sumI (j.sizes.take n)) % (j.count - 16)) (j.first + n) = sp at hp hr hnew
  obtain ⟨a, ha⟩ : ∃ a, a = if (pA st s).1 < (pB st s).1 then st else st + 8 := ⟨_, rfl⟩
  rw [← ha] at hr
  have ha2 : st ≤ a ∧ a + 8 ≤ st + 16 := by rw [ha]; split <;> omega
  have hcl := copyS_len (topS (win st s) + 1) sp
  have hfit : a + (copyS (topS (win st s) + 1) sp).length ≤ s.length := by rw [hcl]; omega
  have hws : WsOk s.length [opW a (copyS (topS (win st s) + 1) sp)] := fun o ho => by
    rw [List.mem_singleton] at ho; subst ho
    exact ⟨_, _, rfl, hfit⟩
  have hinw : ∀ q x, InW [opW a (copyS (topS (win st s) + 1) sp)] q x → st ≤ q ∧ q < st + 16 := fun q x hq => by
    obtain ⟨a', l', i, m1, m2, rfl⟩ := hq
    rw [List.mem_singleton] at m1
    obtain ⟨rfl, rfl⟩ := opW_inj m1
    have := (List.getElem?_eq_some_iff.1 m2).1
    omega
  have hout : ∀ s', MixW s (InW [opW a (copyS (topS (win st s) + 1) sp)]) s' → ∀ q, st + 16 ≤ q → s'[q]? = s[q]? := fun s' hm q hq => by
    rcases hm.2 q with e | ⟨x, hx, -⟩
    · exact e
    · have := hinw q x hx; omega
  refine ⟨[opW a (copyS (topS (win st s) + 1) sp)], ?_, rfl, hws, by rw [hst0]; exact hinw, fun s' hm => ?_, ?_⟩
  · rw [hr, dropJ, v1]; rfl
  · have hx := hg.mx hp hT (s' := s') (by rw [← ha]; exact mix_mx hm)
    rcases hx.1 with e | e
    · exact .inl (hold s' hm.1 (hout s' hm) ⟨_, e⟩)
    · exact .inr (hnew s' hm.1 (hout s' hm) ⟨_, e⟩)
  · have hm := exec_mix _ s hws
    have hx := hg.mx hp hT (s' := execS s [opW a (copyS (topS (win st s) + 1) sp)]) (by rw [← ha]; exact mix_mx hm)
    refine hnew _ hm.1 (hout _ hm) ⟨_, hx.2.2.2.2 fun q q1 q2 => ?_⟩
    rw [← ha] at q1 q2 ⊢
    show (patS s a (copyS (topS (win st s) + 1) sp))[q]? = _
    rw [patS_get hfit, if_pos ⟨q1, by rw [hcl]; exact q2⟩]
theorem sec0_gn : gn sec0 = 0 := by kernel_rfl
theorem runsX_in (st : Nat) : ∀ (f : Nat) (M : List Bool) (p : Nat), M.length - p < f →
    (∀ o ∈ runsX (st : Int) f M p, ∃ (a K : Nat), o = opW ((st + 16 + a : Nat) : Int) (List.replicate K sec0) ∧ 1 ≤ K ∧ a + K ≤ M.length) ∧
    (∀ q x, InW (runsX (st : Int) f M p) q x ↔ x = sec0 ∧ ∃ a, p ≤ a ∧ q = st + 16 + a ∧ M[a]? = some true)
  | 0, M, p, h => by omega
  | f + 1, M, p, h => by
    rw [runsX]
    by_cases h1 : M.length ≤ p
    · rw [if_pos h1]
      refine ⟨fun o ho => (by cases ho), fun q x => ⟨?_, ?_⟩⟩
      · rintro ⟨a, l, i, m, _⟩; cases m
      · rintro ⟨-, a, ha, -, hm⟩
        rw [List.getElem?_eq_none (by omega)] at hm; cases hm
    rw [if_neg h1]
    have hat := runL_at (M.drop p)
    have hrl := runL_le (M.drop p)
    rw [List.length_drop] at hrl
    by_cases h2 : runL (M.drop p) = 0
    · rw [if_pos h2]
      obtain ⟨i1, i2⟩ := runsX_in st f M (p + 1) (by omega)
      refine ⟨i1, fun q x => (i2 q x).trans ⟨?_, ?_⟩⟩
      · rintro ⟨rfl, a, ha, rfl, hm⟩; exact ⟨rfl, a, by omega, rfl, hm⟩
      · rintro ⟨rfl, a, ha, rfl, hm⟩
        refine ⟨rfl, a, ?_, rfl, hm⟩
        rcases Nat.eq_or_lt_of_le ha with e | e
        · subst e
          rw [h2, List.getElem?_drop, Nat.add_zero] at hat
          exact absurd hm hat
        · exact e
    · rw [if_neg h2]
      have hlt := runL_lt (M.drop p)
      generalize runL (M.drop p) = r at *
      obtain ⟨i1, i2⟩ := runsX_in st f M (p + r + 1) (by omega)
      have eop : opW ((st : Int) + 16 + (p : Int)) (List.replicate r sec0) = opW ((st + 16 + p : Nat) : Int) (List.replicate r sec0) := opW_val _ _ (by omega)
      rw [eop]
      refine ⟨fun o ho => ?_, fun q x => ⟨?_, ?_⟩⟩
      · rcases List.mem_cons.1 ho with rfl | ho
        · exact ⟨p, r, rfl, by omega, by omega⟩
        · exact i1 o ho
      · rintro ⟨a, l, i, m1, m2, rfl⟩
        rcases List.mem_cons.1 m1 with e | m1
        · obtain ⟨rfl, rfl⟩ := opW_inj e
          rw [List.getElem?_replicate] at m2
          split at m2
          · rename_i hi
            refine ⟨(Option.some.inj m2).symm, p + i, by omega, by omega, ?_⟩
            have := hlt i hi
            rwa [List.getElem?_drop] at this
          · cases m2
        · obtain ⟨rfl, b, hb, e, hm⟩ := (i2 _ x).1 ⟨a, l, i, m1, m2, rfl⟩
          exact ⟨rfl, b, by omega, e, hm⟩
      · rintro ⟨rfl, a, ha, rfl, hm⟩
        by_cases c : a < p + r
        · exact ⟨st + 16 + p, _, a - p, List.mem_cons_self, by rw [List.getElem?_replicate, if_pos (by omega)], by omega⟩
        · have hne : a ≠ p + r := fun e => by
            subst e
            rw [List.getElem?_drop] at hat
            exact hat hm
          obtain ⟨b, l, i, m1, m2, m3⟩ := (i2 (st + 16 + a) sec0).2 ⟨rfl, a, by omega, rfl, hm⟩
          exact ⟨b, l, i, List.mem_cons_of_mem _ m1, m2, m3⟩
theorem runsX_ln (s : Int) : ∀ (f : Nat) (M : List Bool) (p : Nat), (runsX s f M p).length ≤ f
  | 0, M, p => Nat.le_refl _
  | f + 1, M, p => by
    rw [runsX]
    split
    · exact Nat.zero_le _
    · split
      · exact Nat.le_succ_of_le (runsX_ln s f M (p + 1))
      · rw [List.length_cons]; exact Nat.succ_le_succ (runsX_ln s f M _)
theorem posN_back {hd n i : Nat} (hh : hd < n) (hi : i < n) : (((posN hd n i : Nat) : Int) - hd + n) % (n : Int) = i := by
  unfold posN
  split
  · rw [show (((hd + i : Nat) : Int) - hd + n) = ((i + n : Nat) : Int) by omega, ← Int.natCast_emod, Nat.add_mod_right, Nat.mod_eq_of_lt hi]
  · rw [show (((hd + i - n : Nat) : Int) - hd + n) = ((i : Nat) : Int) by omega, ← Int.natCast_emod, Nat.mod_eq_of_lt hi]
theorem posN_sur {hd n q : Nat} (hh : hd < n) (hq : q < n) : ∃ i, i < n ∧ posN hd n i = q := by
  refine ⟨if hd ≤ q then q - hd else q + n - hd, ?_, ?_⟩
  · split <;> omega
  · unfold posN; split <;> split <;> omega
theorem RJ.clean {s : List Sec} {j : Jrn} {rs : List Rcd} {l : List Sec} {T : Nat} (h : RJ s j rs l T) :
    ∃ ws, remX j ((s.drop (j.start.toNat + 16)).take (j.count - 16).toNat) = (if ws = [] then [] else ws ++ [opS]) ∧ WsOk s.length ws ∧ (∀ q x, InW ws q x → j.start.toNat + 16 ≤ q ∧ q < j.start.toNat + j.count.toNat) ∧
      (∀ s', MixW s (InW ws) s' → RJ s' j rs l T) ∧ RJ (execS s ws) j rs [] T ∧ (l = [] → ws = []) ∧ ws.length ≤ (j.count - 16).toNat + 1 := by
  obtain ⟨st, n, hd, u, v⟩ := h.val
  obtain ⟨v1, v2, v3, v4, v5, v6, v7, v8, v9, v10, v11, v12, v13, v14, v15, v16⟩ := v
  have hst : j.start.toNat = st := by omega
  have hcn : (j.count - 16).toNat = n := by omega
  rw [hst, hcn, remX_eq]
  have hML := mkJ_len j ((s.drop (st + 16)).take n)
  rw [hcn] at hML
  have hMg : ∀ i, i < n → ((mkJ j ((s.drop (st + 16)).take n))[posN hd n i]? = some true ↔ u ≤ i ∧ ∃ x, s[st + 16 + posN hd n i]? = some x ∧ nextJ j ≤ gn x) := fun i hi => by
    have hp := posN_lt v7 (Nat.le_of_lt hi)
    have e1 : ((s.drop (st + 16)).take n).getD (posN hd n i) sec0 = s.getD (st + 16 + posN hd n i) sec0 := by
      rw [List.getD_eq_getElem?_getD, List.getD_eq_getElem?_getD, List.getElem?_take, if_pos hp, List.getElem?_drop]
    have e2 : s[st + 16 + posN hd n i]? = some (s.getD (st + 16 + posN hd n i) sec0) := by
      rw [List.getD_eq_getElem?_getD, List.getElem?_eq_getElem (by omega)]; rfl
    rw [mkJ_get h.jd.chk (show j.count - 16 = (n : Int) by omega) _ hp, v3, posN_back v7 hi, e1, e2, v4]
    generalize s.getD (st + 16 + posN hd n i) sec0 = x
    simp only [Option.some.injEq, Bool.not_eq_true', Bool.or_eq_false_iff, decide_eq_false_iff_not]
    constructor
    · rintro ⟨a, b⟩; exact ⟨by omega, x, rfl, by omega⟩
    · rintro ⟨a, y, rfl, b⟩; exact ⟨by omega, by omega⟩
  generalize mkJ j ((s.drop (st + 16)).take n) = M at hML hMg
  rw [v1]
  obtain ⟨r1, r2⟩ := runsX_in st (M.length + 1) M 0 (by omega)
  have r3 := runsX_ln (st : Int) (M.length + 1) M 0
  generalize runsX (st : Int) (M.length + 1) M 0 = ws at r1 r2 r3
  have hW : WsOk s.length ws := fun o ho => by
    obtain ⟨a, K, rfl, k1, k2⟩ := r1 o ho
    exact ⟨st + 16 + a, _, rfl, by rw [List.length_replicate]; omega⟩
  have hin : ∀ q x, InW ws q x → x = sec0 ∧ ∃ i, u ≤ i ∧ i < n ∧ q = st + 16 + posN hd n i ∧ ∃ y, s[q]? = some y ∧ nextJ j ≤ gn y := fun q x hq => by
    obtain ⟨rfl, a, -, rfl, hm⟩ := (r2 q x).1 hq
    have hal : a < n := by rw [← hML]; exact (List.getElem?_eq_some_iff.1 hm).1
    obtain ⟨i, hi, rfl⟩ := posN_sur v7 hal
    obtain ⟨k1, y, k2, k3⟩ := (hMg i hi).1 hm
    exact ⟨rfl, i, k1, hi, rfl, y, k2, k3⟩
  obtain ⟨R, hR, hT⟩ := h.ring
  rw [v16] at hR
  have hRl : (rs.flatMap encL ++ R).length = n := by rw [← hR, ringR_len]
  rw [List.length_append, v5] at hRl
  have hge := sumI_ge j.sizes ((chkJ_iff j).1 h.jd.chk).2.2.1
  have hszl : j.sizes.length = rs.length := by rw [h.sz, szs, List.length_map]
  have key : ∀ s', MixW s (InW ws) s' → ∃ R', ringR s' (st + 16) hd n = rs.flatMap encL ++ R' ∧ R'.length = n - u ∧ ∀ i, R'[i]? = R[i]? ∨ R'[i]? = some sec0 := fun s' hm => by
    have hg : ∀ i, i < n → (ringR s' (st + 16) hd n)[i]? = (ringR s (st + 16) hd n)[i]? ∨ (u ≤ i ∧ (ringR s' (st + 16) hd n)[i]? = some sec0) := fun i hi => by
      rw [ringR_get (by rw [hm.1]; omega) v7 hi, ringR_get (by omega) v7 hi]
      rcases hm.2 (st + 16 + posN hd n i) with e | ⟨x, hx, e⟩
      · exact .inl e
      · obtain ⟨rfl, k', k1, k2, k3, -⟩ := hin _ x hx
        have := posN_inj v7 hi k2 (by omega)
        exact .inr ⟨by omega, e⟩
    have hsp := ring_split (b := []) hR (ringR s' (st + 16) hd n) (by rw [ringR_len, ringR_len]) (fun i hi => by
      rcases hg i (by omega) with e | ⟨e, -⟩
      · exact e
      · omega)
    rw [v5] at hsp
    refine ⟨_, hsp, by rw [List.length_drop, ringR_len], fun i => ?_⟩
    rw [List.getElem?_drop]
    by_cases hi : u + i < n
    · rcases hg (u + i) hi with e | ⟨-, e⟩
      · left
        rw [e, hR, List.getElem?_append_right (by omega)]; congr 1; omega
      · exact .inr e
    · left
      rw [List.getElem?_eq_none (by rw [ringR_len]; omega), List.getElem?_eq_none (by omega)]
  have hkeep : ∀ s', MixW s (InW ws) s' → JD s' j T := fun s' hm => sb_keep h.jd hm (fun q x hq => by
    obtain ⟨-, i, -, hi, rfl, -⟩ := hin q x hq
    omega) j h.jd.chk rfl rfl rfl rfl
  have hrj : ∀ s', ringJ s' j = ringR s' (st + 16) hd n := fun s' => by
    rw [ringJ, show j.start.toNat + 16 = st + 16 by omega, show j.head.toNat = hd by omega, hcn]
  refine ⟨ws, rfl, hW, fun q x hq => ?_, fun s' hm => ?_, ?_, fun hl => ?_, by omega⟩
  · obtain ⟨-, i, -, hi, rfl, -⟩ := hin q x hq
    have := posN_lt v7 (Nat.le_of_lt hi)
    omega
  · obtain ⟨R', k1, k2, k3⟩ := key s' hm
    refine ⟨hkeep s' hm, h.sz, h.rc, h.lk, R', by rw [hrj, k1], fun i x hx => ?_, ?_⟩
    · rcases k3 i with e | e
      · exact hT.1 i x (by rw [← e, hx])
      · left
        rw [hx] at e
        rw [Option.some.inj e, sec0_gn]; omega
    · rcases hT.2 with e | ⟨i, hi, e⟩
      · exact .inl e
      · right
        refine ⟨i, hi, ?_⟩
        rcases k3 i with e2 | e2
        · rw [e2]; exact e
        · rw [e2]
          intro e3
          rcases h.lk with rfl | ⟨k, p, hp, rfl⟩
          · simp at hi
          · have := secsR_gn (by omega) (List.mem_of_getElem? e3.symm)
            rw [sec0_gn] at this
            omega
  · have hm := exec_mix ws s hW
    obtain ⟨R', k1, k2, k3⟩ := key _ hm
    refine ⟨hkeep _ hm, h.sz, h.rc, .inl rfl, R', by rw [hrj, k1], fun i x hx => .inl ?_, .inl rfl⟩
    have hil : i < R'.length := (List.getElem?_eq_some_iff.1 hx).1
    have hi : u + i < n := by omega
    have hx' : (execS s ws)[st + 16 + posN hd n (u + i)]? = some x := by
      rw [← ringR_get (by rw [hm.1]; omega) v7 hi, k1, List.getElem?_append_right (by omega), show u + i - (rs.flatMap encL).length = i by omega, hx]
    by_cases c : M[posN hd n (u + i)]? = some true
    · have := exec_all ws s hW (st + 16 + posN hd n (u + i)) sec0 (fun y hy => (hin _ y hy).1) (.inl ((r2 _ _).2 ⟨rfl, _, Nat.zero_le _, rfl, c⟩))
      rw [hx'] at this
      rw [Option.some.inj this, sec0_gn]; omega
    · have hse : (execS s ws)[st + 16 + posN hd n (u + i)]? = s[st + 16 + posN hd n (u + i)]? := by
        rcases hm.2 (st + 16 + posN hd n (u + i)) with e | ⟨y, hy, -⟩
        · exact e
        · obtain ⟨-, a, -, ea, hm'⟩ := (r2 _ y).1 hy
          have : a = posN hd n (u + i) := by omega
          rw [this] at hm'
          exact absurd hm' c
      rw [hx'] at hse
      refine Classical.byContradiction fun hlt => c ((hMg (u + i) hi).2 ⟨by omega, x, hse.symm, by omega⟩)
  · subst hl
    cases ws with
    | nil => rfl
    | cons o ws =>
      obtain ⟨a, K, rfl, k1, k2⟩ := r1 o List.mem_cons_self
      obtain ⟨-, i, i1, i2, i3, y, i4, i5⟩ := hin (st + 16 + a) sec0 ⟨st + 16 + a, _, 0, List.mem_cons_self, by rw [List.getElem?_replicate, if_pos (by omega)], rfl⟩
      rw [i3, ← ringR_get (by omega) v7 i2, hR, List.getElem?_append_right (by omega)] at i4
      have := (hT.1 _ y i4).resolve_right (by simp)
      omega
end Go.Proofs.YtmgoflhjblombaaGreatDoor
namespace Go.Proofs.YtmgoflhjblombaaGreatDoor
open Go.Proofs
theorem mem_puts {a : Nat} {l : List Sec} {c : Cach} (h : c ∈ puts a l) : ∃ i, l[i]? = some c.data ∧ c.pos = ((a + i : Nat) : Int) := by
  rw [puts] at h
  obtain ⟨p, hp, rfl⟩ := List.mem_map.1 h
  exact ⟨p.2, List.mem_zipIdx_iff_getElem?.1 hp, by simp⟩
theorem step_w {s : List Sec} {c : List Cach} {a : Nat} {l : List Sec} (hl : a + l.length ≤ s.length) : stepD ⟨s, c⟩ (opW a l) = .ok ⟨s, c ++ puts a l⟩ := by
  rw [stepD, if_neg (by simp [opW]), if_pos (by rfl)]
  show (match writeD ⟨s, c⟩ a l with | some d' => Except.ok d' | none => Except.error 2) = _
  rw [writeD, if_pos (inside_ok hl)]; rfl
theorem runD_wr : ∀ (ws : List Opn) (s : List Sec) (c : List Cach) (i : Nat), WsOk s.length ws → ∃ cs, runD ⟨s, c⟩ ws i = .ok (⟨s, c ++ cs⟩, i + ws.length) ∧ ∀ x ∈ cs, ∃ q : Nat, x.pos = (q : Int) ∧ InW ws q x.data
  | [], s, c, i, _ => ⟨[], by rw [runD, List.append_nil]; rfl, fun x hx => by cases hx⟩
  | o :: ws, s, c, i, h => by
    obtain ⟨a, l, rfl, hl⟩ := h o (by simp)
    obtain ⟨cs, h1, h2⟩ := runD_wr ws s (c ++ puts a l) (i + 1) (fun x hx => h x (by simp [hx]))
    refine ⟨puts a l ++ cs, ?_, fun x hx => ?_⟩
    · rw [runD, step_w hl]
      show runD _ ws (i + 1) = _
      rw [h1, List.append_assoc, List.length_cons, show i + 1 + ws.length = i + (ws.length + 1) by omega]
    · rcases List.mem_append.1 hx with hx | hx
      · obtain ⟨k, k1, k2⟩ := mem_puts hx
        exact ⟨a + k, k2, a, l, k, by simp, k1, rfl⟩
      · obtain ⟨q, q1, a', l', k, m1, m2, m3⟩ := h2 x hx
        exact ⟨q, q1, a', l', k, by simp [m1], m2, m3⟩
theorem mix_nil {s : List Sec} {d' : Dk} (h : Mix ⟨s, []⟩ d') : d' = ⟨s, []⟩ := by
  obtain ⟨st, ca⟩ := d'
  obtain ⟨h1, h2, h3⟩ := h
  dsimp only at h1 h2 h3
  subst h1
  congr 1
  refine List.ext_getElem h2 fun i a b => ?_
  rcases h3 i a with ⟨_, e⟩ | ⟨c, hc, -⟩
  · exact e
  · cases hc
theorem itr_w {s : List Sec} {ws : List Opn} (hs : s.length ≤ 4096) (hw : WsOk s.length ws) {a : Nat} (ha : a ≤ ws.length + 1) {d' : Dk} {e : Nat} (h : ItrS ⟨s, []⟩ (ws ++ [opS]) a d' e) :
    e = 0 ∧ ∃ s', d' = ⟨s', []⟩ ∧ MixW s (InW ws) s' ∧ (a = ws.length + 1 → s' = execS s ws) := by
  have hc := chk_nil hs
  rw [ItrS, if_neg (by simp [hc]), if_neg (by simp; omega), Int.toNat_natCast] at h
  by_cases ha2 : a = ws.length + 1
  · rw [List.take_of_length_le (by simp; omega), runR_exec hs (fun o ho => by
      rcases List.mem_append.1 ho with ho | ho
      · exact hw.ok o ho
      · rw [List.mem_singleton] at ho; exact .inl ho) (.inr (by simp)), if_neg (by simp), execS_app, execS_s] at h
    refine ⟨h.1, execS s ws, mix_nil h.2, exec_mix ws s hw, fun _ => rfl⟩
  · have hw' : WsOk s.length (ws.take a) := fun o ho => hw o (List.mem_of_mem_take ho)
    obtain ⟨cs, h1, h2⟩ := runD_wr (ws.take a) s [] 0 hw'
    have hr : runR ⟨s, []⟩ (ws.take a) = (⟨s, cs⟩, 0 + (ws.take a).length, 0) := by rw [runR, if_neg (by simp [hc]), h1]; rfl
    rw [List.take_append_of_le_length (by omega), hr, if_neg (by simp)] at h
    obtain ⟨g0, g1, g2, g3⟩ := h
    obtain ⟨st, ca⟩ := d'
    dsimp only at g1 g2 g3
    subst g1
    refine ⟨g0, st, rfl, ⟨g2, fun q => ?_⟩, fun e => absurd e ha2⟩
    by_cases hq : q < st.length
    · rcases g3 q hq with ⟨hq', e⟩ | ⟨c, hc', e1, e2⟩
      · left; rw [List.getElem?_eq_getElem hq, List.getElem?_eq_getElem hq', e]
      · right
        obtain ⟨q', e3, a', l', i, m1, m2, m3⟩ := h2 c hc'
        refine ⟨c.data, ⟨a', l', i, List.mem_of_mem_take m1, m2, by omega⟩, by rw [List.getElem?_eq_getElem hq, e2]⟩
    · left; rw [List.getElem?_eq_none (by omega), List.getElem?_eq_none (by omega)]
theorem itr_nil {s : List Sec} (hs : s.length ≤ 4096) {d' : Dk} {e : Nat} (h : ItrS ⟨s, []⟩ [] 0 d' e) : e = 0 ∧ d' = ⟨s, []⟩ := by
  have hr : runR ⟨s, []⟩ [] = (⟨s, []⟩, 0, 0) := by rw [runR, if_neg (by simp [chk_nil hs])]; rfl
  rw [ItrS, if_neg (by simp [chk_nil hs]), if_neg (by simp), show (([] : List Opn).take (0 : Int).toNat) = [] from rfl, hr, if_neg (by simp)] at h
  exact ⟨h.1, mix_nil h.2⟩
theorem tot_le {ops : List Opn} {n : Nat} (h : ∀ o ∈ ops, o.data.length ≤ n) : tot ops ≤ ops.length * n := by
  induction ops with
  | nil => simp [tot]
  | cons o ops ih =>
    have := ih fun x hx => h x (by simp [hx])
    have e : tot (o :: ops) = o.data.length + tot ops := by simp [tot]
    have := h o (by simp)
    rw [e, List.length_cons, Nat.succ_mul]; omega
theorem WsOk.dat {n : Nat} {ws : List Opn} (h : WsOk n ws) : ∀ o ∈ ws, o.data.length ≤ n := fun o ho => by
  obtain ⟨a, l, rfl, hl⟩ := h o ho
  show l.length ≤ n
  omega
theorem WsOk.tot {n : Nat} {ws : List Opn} (h : WsOk n ws) : Go.Proofs.YtmgoflhjblombaaGreatDoor.tot (ws ++ [opS]) ≤ (ws.length + 1) * n := by
  have := tot_le (ops := ws ++ [opS]) (n := n) fun o ho => by
    rcases List.mem_append.1 ho with ho | ho
    · exact h.dat o ho
    · rw [List.mem_singleton] at ho; rw [ho]; exact Nat.zero_le _
  rwa [List.length_append, List.length_singleton] at this
theorem WsOk.run {s : List Sec} {ws : List Opn} (hs : s.length ≤ 4096) (h : WsOk s.length ws) : runR ⟨s, []⟩ (ws ++ [opS]) = (⟨execS s ws, []⟩, ws.length + 1, 0) := by
  rw [runR_exec hs (fun o ho => by
    rcases List.mem_append.1 ho with ho | ho
    · exact h.ok o ho
    · rw [List.mem_singleton] at ho; exact .inl ho) (.inr (by simp)), execS_app, execS_s, List.length_append, List.length_singleton]; rfl
theorem run_nil {s : List Sec} (hs : s.length ≤ 4096) : runR ⟨s, []⟩ [] = (⟨s, []⟩, 0, 0) := by rw [runR, if_neg (by simp [chk_nil hs])]; rfl
end Go.Proofs.YtmgoflhjblombaaGreatDoor
namespace Go.Proofs.YtmgoflhjblombaaGreatDoor
open Go.Proofs
def zerL (n : Nat) : List Sec := List.replicate n sec0
theorem zerL_len (n : Nat) : (zerL n).length = n := List.length_replicate ..
theorem zerL_get {n q : Nat} (h : q < n) : (zerL n)[q]? = some sec0 := by rw [zerL, List.getElem?_replicate, if_pos h]
theorem pat_zer {n a k : Nat} (h : a + k ≤ n) : patS (zerL n) a (List.replicate k sec0) = zerL n := by
  refine List.ext_getElem? fun q => ?_
  rw [patS_get (by rw [zerL_len, List.length_replicate]; exact h), List.length_replicate]
  split
  · rename_i c
    rw [zerL_get (by omega), List.getElem?_replicate, if_pos (by omega)]
  · rfl
theorem super01_len : (superJ 0 1).length ≤ 31 := super_len 0 1
theorem copy01_best : best (copyS 1 (superJ 0 1) ++ List.replicate 8 sec0) = (1, superJ 0 1) := by kernel_rfl
theorem copy01_top : Nat.ble (topS (copyS 1 (superJ 0 1) ++ List.replicate 8 sec0)) 1 = true := by kernel_rfl
theorem top_of {a b : List Sec} (h : a = b) (g : Nat.ble (topS b) 1 = true) : topS a ≤ 1 := by subst h; exact Nat.le_of_ble_eq_true g
def newS (n st : Nat) : List Sec := patS (zerL n) st (copyS 1 (superJ 0 1))
theorem newS_len (n st : Nat) : (newS n st).length = n := by rw [newS, patS_len, zerL_len]
theorem newS_get {n st : Nat} (h : st + 16 ≤ n) {q : Nat} (hq : q < n) (ho : q < st ∨ st + 16 ≤ q) : (newS n st)[q]? = some sec0 := by
  rw [newS, patS_get (by rw [zerL_len, copyS_len]; omega), copyS_len, if_neg (by omega), zerL_get hq]
theorem newS_win {n st : Nat} (h : st + 16 ≤ n) : win st (newS n st) = copyS 1 (superJ 0 1) ++ List.replicate 8 sec0 := by
  refine List.ext_getElem? fun i => ?_
  rw [win, List.getElem?_take, List.getElem?_drop, newS, patS_get (by rw [zerL_len, copyS_len]; omega), copyS_len]
  by_cases c : i < 8
  · rw [if_pos (by omega), if_pos (by omega), List.getElem?_append_left (by rw [copyS_len]; exact c)]; congr 1; omega
  · rw [List.getElem?_append_right (by rw [copyS_len]; omega), copyS_len, List.getElem?_replicate]
    by_cases c2 : i < 16
    · rw [if_pos c2, if_neg (by omega), if_pos (by omega), zerL_get (by omega)]
    · rw [if_neg c2, if_neg (by omega)]
def newJ (st c : Int) : Jrn := ⟨st, c, 0, 0, 1, []⟩
theorem newS_RJ {n st : Nat} {c : Int} (hv : validJ st c = true) (h : st + c.toNat ≤ n) (hn : n ≤ 4096) : RJ (newS n st) (newJ st c) [] [] 1 := by
  have v := (validJ_iff _ _).1 hv
  have hc : chkJ (newJ st c) = true := by
    rw [chkJ_iff]
    refine ⟨hv, (preJ_iff _).2 ⟨?_, ?_, ?_, ?_, ?_⟩, rfl, ?_, ?_⟩
    · show (0 : Int) ≤ 0; omega
    · show (0 : Int) < c - 16; omega
    · show (1 : Int) ≤ 1; omega
    · simp [newJ]
    · simp [newJ]
    · show (0 : Int) ≤ c - 16; omega
    · show (0 : Int) = (0 + 0) % (c - 16); simp
  have hjd : JD (newS n st) (newJ st c) 1 := by
    refine ⟨hc, by rw [newS_len]; show (st : Int).toNat + c.toNat ≤ n; omega, 1, ?_⟩
    show Gd (st : Int).toNat _ 1 (superJ 0 1) 1
    rw [Int.toNat_natCast]
    exact ⟨by rw [newS_len]; omega, by rw [newS_len]; exact hn, by rw [newS_win (by omega), copy01_best], Nat.le_refl _, top_of (newS_win (by omega)) copy01_top⟩
  refine ⟨hjd, rfl, RcOk.nil _, .inl rfl, ringJ (newS n st) (newJ st c), rfl, fun i x hx => .inl ?_, .inl rfl⟩
  show (gn x : Int) < 1 + ((0 : Nat) : Int)
  have hx' : (ringR (newS n st) (st + 16) 0 (c - 16).toNat)[i]? = some x := hx
  have hi : i < (c - 16).toNat := by have := (List.getElem?_eq_some_iff.1 hx').1; rwa [ringR_len] at this
  have hp := posN_lt (h := 0) (n := (c - 16).toNat) (i := i) (by omega) (by omega)
  rw [ringR_get (by rw [newS_len]; omega) (by omega) hi, newS_get (by omega) (by omega) (by omega)] at hx'
  rw [← Option.some.inj hx', sec0_gn]; decide
theorem fmtJ_eq {st : Nat} {c : Int} (hv : validJ st c = true) : formatJ st c = (newJ st c, opW ((st + 16 : Nat) : Int) (List.replicate (c - 16).toNat sec0) :: opS :: [opW (st : Int) (List.replicate 16 sec0), opS, opW (st : Int) (copyS 1 (superJ 0 1)), opS], 0) := by
  have v := (validJ_iff _ _).1 hv
  have hf : formatS (st : Int) (superJ 0 1) = ([opW (st : Int) (List.replicate 16 sec0), opS, opW (st : Int) (copyS 1 (superJ 0 1)), opS], 0) := by
    rw [formatS, if_neg (by omega), if_neg (by have := super01_len; omega)]
  rw [formatJ, if_neg (by simp [hv]), hf, if_neg (by simp)]
  rfl
theorem fmtJ_exec {st n : Nat} {c : Int} (hv : validJ st c = true) (h : st + c.toNat ≤ n) : execS (zerL n) (formatJ st c).2.1 = newS n st ∧ (∀ o ∈ (formatJ st c).2.1, OpOk n o) ∧ (formatJ st c).2.1.getLast? = some opS := by
  have v := (validJ_iff _ _).1 hv
  rw [fmtJ_eq hv]
  refine ⟨?_, fun o ho => ?_, rfl⟩
  · dsimp only
    rw [execS_w, execS_s, execS_w, execS_s, execS_w, execS_s, execS, pat_zer (by omega), pat_zer (by omega)]; rfl
  · simp only [List.mem_cons, List.not_mem_nil, or_false] at ho
    rcases ho with rfl | rfl | rfl | rfl | rfl | rfl
    · exact .inr ⟨_, _, rfl, by rw [List.length_replicate]; omega⟩
    · exact .inl rfl
    · exact .inr ⟨_, _, rfl, by rw [List.length_replicate]; omega⟩
    · exact .inl rfl
    · exact .inr ⟨_, _, rfl, by rw [copyS_len]; omega⟩
    · exact .inl rfl
end Go.Proofs.YtmgoflhjblombaaGreatDoor
namespace Go.Proofs.YtmgoflhjblombaaGreatDoor
open Go.Proofs
theorem RJ.mono {s : List Sec} {j : Jrn} {rs : List Rcd} {l : List Sec} {T T' : Nat} (h : RJ s j rs l T) (ht : T ≤ T') : RJ s j rs l T' := by
  refine ⟨⟨h.jd.chk, h.jd.len, ?_⟩, h.sz, h.rc, h.lk, h.ring⟩
  obtain ⟨g, hg⟩ := h.jd.gd
  exact ⟨g, hg.l1, hg.l2, hg.bst, hg.pos, Nat.le_trans hg.top ht⟩
structure SI (size : UInt8) (N : Nat) (s : List Sec) (j : Jrn) (rs : List Rcd) (l : List Sec) : Prop where
  len : (s.length : Int) = rgN size + 7
  st : j.start = 3
  ct : j.count = rgN size
  rj : RJ s j rs l (N + 1)
  nx : nextJ j ≤ N + 1
  kd : ∀ r ∈ rs, r.kind = 7
  out : ∀ (q : Nat) x, s[q]? = some x → (q < 3 ∨ 3 + rgN size ≤ (q : Int)) → x = sec0
theorem rgN_in (k : UInt8) : 20 ≤ rgN k ∧ rgN k < 60 := by
  have := k.toNat_lt
  unfold rgN; omega
theorem mix_out {s s' : List Sec} {P : Nat → Sec → Prop} {a b : Nat} (hm : MixW s P s') (hP : ∀ q x, P q x → a ≤ q ∧ q < b) {q : Nat} (hq : q < a ∨ b ≤ q) : s'[q]? = s[q]? := by
  rcases hm.2 q with e | ⟨x, hx, -⟩
  · exact e
  · have := hP q x hx; omega
theorem SI.to {size : UInt8} {N N' : Nat} {s s' : List Sec} {j j' : Jrn} {rs rs' : List Rcd} {l l' : List Sec} {P : Nat → Sec → Prop} (h : SI size N s j rs l) (hm : MixW s P s') (hP : ∀ q x, P q x → 3 ≤ q ∧ q < 3 + (rgN size).toNat) (hj : RJ s' j' rs' l' (N' + 1)) (e1 : j'.start = 3) (e2 : j'.count = rgN size) (hn : nextJ j' ≤ N' + 1) (hk : ∀ r ∈ rs', r.kind = 7) : SI size N' s' j' rs' l' := by
  have := rgN_in size
  refine ⟨by rw [hm.1]; exact h.len, e1, e2, hj, hn, hk, fun q x hx hq => ?_⟩
  rw [mix_out hm hP (by omega)] at hx
  exact h.out q x hx hq
theorem SI.mono {size : UInt8} {N : Nat} {s : List Sec} {j : Jrn} {rs : List Rcd} {l : List Sec} (h : SI size N s j rs l) : SI size (N + 1) s j rs l :=
  ⟨h.len, h.st, h.ct, h.rj.mono (Nat.le_succ _), by have := h.nx; omega, h.kd, h.out⟩
theorem SI.begin (size : UInt8) : SI size 0 (newS (rgN size + 7).toNat 3) (newJ 3 (rgN size)) [] [] := by
  have := rgN_in size
  refine ⟨by rw [newS_len]; omega, rfl, rfl, newS_RJ (st := 3) (rgN_valid size) (by omega) (by omega), ?_, fun r h => (by cases h), fun q x hx hq => ?_⟩
  · show (1 : Int) + ((0 : Nat) : Int) ≤ ((0 : Nat) : Int) + 1; omega
  · have hq' : q < (rgN size + 7).toNat := by have := (List.getElem?_eq_some_iff.1 hx).1; rwa [newS_len] at this
    rw [newS_get (by omega) hq' (by omega)] at hx
    exact (Option.some.inj hx).symm
theorem SI.small {size : UInt8} {N : Nat} {s : List Sec} {j : Jrn} {rs : List Rcd} {l : List Sec} (h : SI size N s j rs l) : s.length ≤ 70 ∧ rs.length ≤ 40 ∧ j.sizes.length = rs.length := by
  have h1 := rgN_in size
  have h2 := h.len
  have hszl : j.sizes.length = rs.length := by rw [h.rj.sz, szs, List.length_map]
  have hc := (chkJ_iff j).1 h.rj.jd.chk
  have hge := sumI_ge j.sizes hc.2.2.1
  have := h.ct
  omega
def clnO (ws : List Opn) : List Opn := if ws = [] then [] else ws ++ [opS]
theorem SI.open {size : UInt8} {N : Nat} {s : List Sec} {j : Jrn} {rs : List Rcd} {l : List Sec} (h : SI size N s j rs l) :
    ∃ ws, openJ 3 (rgN size) ⟨s, []⟩ = (j, rs, clnO ws, 0) ∧ WsOk s.length ws ∧ (∀ s', MixW s (InW ws) s' → SI size N s' j rs l) ∧ SI size N (execS s ws) j rs [] ∧ (l = [] → ws = []) ∧ ws.length ≤ 60 := by
  have h1 := rgN_in size
  have ho := h.rj.open
  obtain ⟨ws, c1, c2, c3, c4, c5, c6, c7⟩ := h.rj.clean
  rw [h.ct] at c7
  rw [c1, h.st, h.ct] at ho
  have hP : ∀ q x, InW ws q x → 3 ≤ q ∧ q < 3 + (rgN size).toNat := fun q x hq => by
    have := c3 q x hq
    rw [h.st, h.ct] at this
    omega
  exact ⟨ws, ho, c2, fun s' hm => h.to hm hP (c4 s' hm) h.st h.ct h.nx h.kd, h.to (exec_mix ws s c2) hP c5 h.st h.ct h.nx h.kd, c6, by omega⟩
theorem SI.app {size : UInt8} {N : Nat} {s : List Sec} {j : Jrn} {rs : List Rcd} (h : SI size N s j rs []) (p : List UInt8) :
    (appJ j 7 p).2.2 ≠ 0 ∨ ∃ ws j', appJ j 7 p = (j', ws ++ [opS], 0) ∧ ws.length ≤ 2 ∧ WsOk s.length ws ∧
      (∀ s', MixW s (InW ws) s' → ∃ l, SI size (N + 1) s' j rs l ∨ SI size (N + 1) s' j' (rs ++ [⟨7, nextJ j, p⟩]) []) ∧ SI size (N + 1) (execS s ws) j' (rs ++ [⟨7, nextJ j, p⟩]) [] := by
  have h0 := rgN_in size
  have hJ := h.rj.jd.chk
  by_cases he : (appJ j 7 p).2.2 = 0
  case neg => exact .inl he
  right
  cases hen : encR ⟨7, nextJ j, p⟩ with
  | error e =>
    rw [appJ_err hJ hen] at he
    have := enc_err hen
    dsimp only at he
    omega
  | ok l =>
    by_cases h1 : 1073741824 ≤ nextJ j
    · rw [appJ_many hJ hen h1] at he; cases he
    by_cases h2 : freeJ j < l.length
    · rw [appJ_full hJ hen h1 h2] at he; cases he
    obtain ⟨a1, a2, a3, a4⟩ := h.rj.app hen h1 h2
    have hP : ∀ q x, InW (wrapW j.start j.count j.tail l) q x → 3 ≤ q ∧ q < 3 + (rgN size).toNat := fun q x hq => by
      have := a2 q x hq
      rw [h.st, h.ct] at this
      omega
    have hnx := h.nx
    have hnj : nextJ ⟨j.start, j.count, j.head, (j.tail + l.length) % (j.count - 16), j.first, j.sizes ++ [(l.length : Int)]⟩ ≤ ((N + 1 : Nat) : Int) + 1 := by
      unfold nextJ at hnx ⊢; simp; omega
    have hk : ∀ r ∈ rs ++ [(⟨7, nextJ j, p⟩ : Rcd)], r.kind = 7 := fun r hr => by
      rcases List.mem_append.1 hr with hr | hr
      · exact h.kd r hr
      · rw [List.mem_singleton] at hr; rw [hr]
    refine ⟨_, _, appJ_ok hJ hen h1 h2, wrapW_len _ _ _ _, a1, fun s' hm => ?_, h.to (exec_mix _ s a1) hP (a4.mono (Nat.le_succ _)) h.st h.ct hnj hk⟩
    rcases a3 s' hm with e | e
    · exact ⟨l, .inl (h.to hm hP (e.mono (Nat.le_succ _)) h.st h.ct (by omega) h.kd)⟩
    · exact ⟨l, .inr (h.to hm hP (e.mono (Nat.le_succ _)) h.st h.ct hnj hk)⟩
theorem SI.rel {size : UInt8} {N : Nat} {s : List Sec} {j : Jrn} {rs : List Rcd} (h : SI size N s j rs []) (hN : N ≤ 1000) {n : Nat} (hn : n ≤ rs.length) (h0 : n ≠ 0) :
    ∃ ws, relJ ⟨s, []⟩ j (j.first - 1 + n) = (dropJ j n, ws ++ [opS], 0) ∧ ws.length ≤ 2 ∧ WsOk s.length ws ∧
      (∀ s', MixW s (InW ws) s' → SI size (N + 1) s' j rs [] ∨ SI size (N + 1) s' (dropJ j n) (rs.drop n) []) ∧ SI size (N + 1) (execS s ws) (dropJ j n) (rs.drop n) [] := by
  have h1 := rgN_in size
  obtain ⟨ws, r1, r0, r2, r3, r4, r5⟩ := h.rj.rel (by omega) hn h0
  have hsm := h.small
  have hP : ∀ q x, InW ws q x → 3 ≤ q ∧ q < 3 + (rgN size).toNat := fun q x hq => by
    have := r3 q x hq
    rw [h.st] at this
    omega
  have hnx := h.nx
  have hnj : nextJ (dropJ j n) ≤ ((N + 1 : Nat) : Int) + 1 := by
    unfold nextJ dropJ at *
    dsimp only
    rw [List.length_drop]; omega
  have hk : ∀ r ∈ rs.drop n, r.kind = 7 := fun r hr => h.kd r (List.mem_of_mem_drop hr)
  refine ⟨ws, r1, by omega, r2, fun s' hm => ?_, h.to (exec_mix _ s r2) hP r5 h.st h.ct hnj hk⟩
  rcases r4 s' hm with e | e
  · exact .inl (h.to hm hP e h.st h.ct (by omega) h.kd)
  · exact .inr (h.to hm hP e h.st h.ct hnj hk)
theorem SI.rel0 {size : UInt8} {N : Nat} {s : List Sec} {j : Jrn} {rs : List Rcd} (h : SI size N s j rs []) : relJ ⟨s, []⟩ j (j.first - 1) = (j, [], 0) := by
  have hp := (preJ_iff j).1 ((chkJ_iff j).1 h.rj.jd.chk).2.1
  have := h.small
  rw [relJ, if_neg (by simp [chk_nil (show s.length ≤ 4096 by omega)]), if_neg (by simp [h.rj.jd.chk]), if_neg (by unfold nextJ; omega), if_pos rfl]
theorem cln_run {s : List Sec} {ws : List Opn} (hs : s.length ≤ 4096) (h : WsOk s.length ws) : runR ⟨s, []⟩ (clnO ws) = (⟨execS s ws, []⟩, (clnO ws).length, 0) := by
  rw [clnO]
  split
  · rename_i e; subst e; rw [run_nil hs]; rfl
  · rw [h.run hs, List.length_append]; rfl
theorem cln_len (ws : List Opn) : (clnO ws).length ≤ ws.length + 1 := by
  rw [clnO]
  split
  · simp
  · simp
theorem cln_tot {n : Nat} {ws : List Opn} (h : WsOk n ws) : tot (clnO ws) ≤ (ws.length + 1) * n := by
  rw [clnO]
  split
  · simp [tot]
  · exact h.tot
structure PlanOk (size : UInt8) (N : Nat) (s : List Sec) (j : Jrn) (rs : List Rcd) (ops : List Opn) (j' : Jrn) (rs2 : List Rcd) : Prop where
  len : ops.length ≤ 3
  tot : tot ops ≤ 5000
  run : ∃ s1, runR ⟨s, []⟩ ops = (⟨s1, []⟩, ops.length, 0) ∧ SI size (N + 1) s1 j' rs2 []
  itr : ∀ a : Nat, a ≤ ops.length → ∀ d' e, ItrS ⟨s, []⟩ ops a d' e → e = 0 ∧ ∃ s' l, d' = ⟨s', []⟩ ∧ ((a < ops.length ∧ SI size (N + 1) s' j rs l) ∨ SI size (N + 1) s' j' rs2 [])
theorem PlanOk.of {size : UInt8} {N : Nat} {s : List Sec} {j j' : Jrn} {rs rs2 : List Rcd} {ws : List Opn} (hsl : s.length ≤ 70) (hl : ws.length ≤ 2) (hw : WsOk s.length ws)
    (hm : ∀ s', MixW s (InW ws) s' → ∃ l, SI size (N + 1) s' j rs l ∨ SI size (N + 1) s' j' rs2 []) (hf : SI size (N + 1) (execS s ws) j' rs2 []) : PlanOk size N s j rs (ws ++ [opS]) j' rs2 := by
  refine ⟨by simp; omega, ?_, ⟨_, by rw [hw.run (by omega), List.length_append]; rfl, hf⟩, fun a ha d' e h => ?_⟩
  · have h1 := hw.tot
    have : (ws.length + 1) * s.length ≤ 3 * 70 := Nat.mul_le_mul (by omega) hsl
    omega
  · rw [List.length_append, List.length_singleton] at ha ⊢
    obtain ⟨e0, s', e1, e2, e3⟩ := itr_w (by omega) hw ha h
    refine ⟨e0, s', ?_⟩
    by_cases c : a = ws.length + 1
    · exact ⟨[], e1, .inr (by rw [e3 c]; exact hf)⟩
    · obtain ⟨l, h | h⟩ := hm s' e2
      · exact ⟨l, e1, .inl ⟨by omega, h⟩⟩
      · exact ⟨l, e1, .inr h⟩
theorem PlanOk.nil {size : UInt8} {N : Nat} {s : List Sec} {j : Jrn} {rs : List Rcd} (h : SI size N s j rs []) : PlanOk size N s j rs [] j rs := by
  have hs := h.small
  refine ⟨by simp, by simp [Go.Proofs.YtmgoflhjblombaaGreatDoor.tot], ⟨s, run_nil (by omega), h.mono⟩, fun a ha d' e hI => ?_⟩
  obtain rfl : a = 0 := by simpa using ha
  obtain ⟨e0, e1⟩ := itr_nil (by omega) hI
  exact ⟨e0, s, [], e1, .inr h.mono⟩
end Go.Proofs.YtmgoflhjblombaaGreatDoor
