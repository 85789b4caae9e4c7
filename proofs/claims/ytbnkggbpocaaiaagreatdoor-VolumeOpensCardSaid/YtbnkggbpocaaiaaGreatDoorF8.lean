import Derived.Test.YtbnkggbpocaaiaaGreatDoorF7
import Derived.Test.YtbnkggbpocaaiaaGreatDoorF6
import Derived.Test.YtbnkggbpocaaiaaGreatDoorF4
import Derived.Test.YtbnkggbpocaaiaaGreatDoorF5
set_option linter.unusedSimpArgs false
set_option linter.unusedVariables false
set_option linter.unusedSectionVars false
namespace Go.Proofs.YtbnkggbpocaaiaaGreatDoor
open Go.Proofs
theorem CX.cc {P : Program} {f : FuncId} {args : List CV} {H : Hp} {V : List Nat} {K : CV → Hp → List Nat → Prop} {E : List PanicEntry → Hp → List Nat → Prop} (h : CX P f args H V K E) (hE : ∀ ch H' V', ¬ E ch H' V') : CC P f args H V K :=
  ⟨h.1, fun m w us hi hu => (h.2 m w us hi hu).mono fun _ _ h => h.elim id fun ⟨c, m', H', V', h1, h2, h3⟩ => absurd h2 (hE _ _ _)⟩
def szN (s : Sec) : Nat := (lenR s + 10) / 4
def begE (l : List Sec) : Except Nat Nat :=
  match l with
  | [] => .error 10
  | s :: _ =>
    if gn s = 0 then .error 7 else if 4096 < lenR s then .error 5 else if l.length < szN s then .error 10
    else if (l.take (szN s)).all (fun x => gn x == gn s) = false then .error 10 else .ok (szN s)
def recE (st : List UInt8) (sq : Nat) : Except Nat Rcd :=
  if leV ((st.drop (3 + leV ((st.drop 1).take 2))).take 4) ≠ (crc (st.take (3 + leV ((st.drop 1).take 2)))).toNat then .error 9
  else if (st.drop (7 + leV ((st.drop 1).take 2))).any nzB = true ∨ leV (st.take 1) = 0 then .error 3
  else .ok ⟨(leV (st.take 1) : Int), sq, (st.drop 3).take (leV ((st.drop 1).take 2))⟩
theorem begE_0 : begE [] = .error 10 := rfl
theorem begE_7 {s : Sec} {l : List Sec} (h : gn s = 0) : begE (s :: l) = .error 7 := if_pos h
theorem begE_5 {s : Sec} {l : List Sec} (h : gn s ≠ 0) (h2 : 4096 < lenR s) : begE (s :: l) = .error 5 := (if_neg h).trans (if_pos h2)
theorem begE_10 {s : Sec} {l : List Sec} (h : gn s ≠ 0) (h2 : ¬ 4096 < lenR s) (h3 : (s :: l).length < szN s) : begE (s :: l) = .error 10 := (if_neg h).trans ((if_neg h2).trans (if_pos h3))
theorem begE_torn {s : Sec} {l : List Sec} (h : gn s ≠ 0) (h2 : ¬ 4096 < lenR s) (h3 : ¬ (s :: l).length < szN s) (h4 : ((s :: l).take (szN s)).all (fun x => gn x == gn s) = false) : begE (s :: l) = .error 10 := (if_neg h).trans ((if_neg h2).trans ((if_neg h3).trans (if_pos h4)))
theorem begE_ok {s : Sec} {l : List Sec} (h : gn s ≠ 0) (h2 : ¬ 4096 < lenR s) (h3 : ¬ (s :: l).length < szN s) (h4 : ((s :: l).take (szN s)).all (fun x => gn x == gn s) = true) : begE (s :: l) = .ok (szN s) := (if_neg h).trans ((if_neg h2).trans ((if_neg h3).trans (if_neg (by rw [h4]; decide))))
def rdZ : List CV := [.v (.slice none 0 0), iv 0, iv 0]
def BegK (H : Hp) (V : List Nat) (b : Nat) (l : List Sec) : CV → Hp → List Nat → Prop := fun r H' V' => ∃ s l' n, l = s :: l' ∧ begE l = .ok n ∧ r = .tup [] ∧ H' = H.set b (some (rdB (dataS (l.take n)) (ci (gn s)) (ci n))) ∧ V = V'
def BegX (H : Hp) (V : List Nat) (b : Nat) (l : List Sec) : List PanicEntry → Hp → List Nat → Prop := fun ch H' V' => ∃ e cs L W, begE l = .error e ∧ ch = panR e ∧ H' = H.set b (some cs) ++ L ∧ V' = V ++ W
theorem lenR_or (s : Sec) : bitop .or .i64 (sb s 5 : Int) (shl .i64 (sb s 6 : Int) 8) = (lenR s : Int) := by
  have h0 := sb_lt s 5
  have h1 := sb_lt s 6
  have := or_sh8 (n := sb s 5) (a := sb s 6) (i := 1) (by decide) h0 h1
  rw [show 8 * ((1 : Nat) : Int) = 8 from rfl] at this
  rw [this]
  show ((sb s 5 + sb s 6 * 256 ^ 1 : Nat) : Int) = _
  rw [lenR]
  simp only [sb]
  omega
theorem Fin.weakB {nb nv : Nat} {R : CV → Hp → List Nat → Prop} {r : CV} {H : Hp} {V : List Nat} {b : Nat} {cs ds : List CV} (hb : H[b]? = some (some cs)) (h : LeL cs ds) (hno : ∀ x ∈ cs, x.isObj = false) (hf : Fin nb nv R r (H.set b (some ds)) V) : Fin nb nv R r H V := by
  obtain ⟨r', H', V', g, hR⟩ := hf
  exact ⟨r', H', V', Gst.trans (Gst.weak hb h hno) g, hR⟩
theorem ApB.le8 {j : Nat} {l : List UInt8} {cv : CV} {V : List Nat} (h : ApB j l cv V) : Le cv (.sl .sh 1 (bs l)) := by
  rcases h with ⟨rfl, rfl⟩ | ⟨k, v, rfl, _⟩
  · exact .nil 1 (by decide)
  · exact .sh _ _ _
theorem ApB.noObj {j : Nat} {l : List UInt8} {cv : CV} {V : List Nat} (h : ApB j l cv V) : cv.isObj = false := by
  rcases h with ⟨rfl, rfl⟩ | ⟨k, v, rfl, _⟩ <;> rfl
theorem okH_put {H : Hp} {V : List Nat} {b : Nat} {ds : List CV} (hbl : b < H.length) (hokH : ∀ (b : Nat) cs, H[b]? = some (some cs) → okL H.length V.length cs) (hd : okL H.length V.length ds) : ∀ (b' : Nat) cs, (H.set b (some ds))[b']? = some (some cs) → okL H.length V.length cs := fun b' cs hb' => by
  by_cases e : b = b'
  · subst e
    rw [List.getElem?_set_self hbl] at hb'
    cases hb'; exact hd
  · rw [List.getElem?_set_ne e] at hb'; exact hokH _ _ hb'
theorem demT_cc (H : Hp) (V : List Nat) (k : Nat) : CC Tryz.prog 221 [.v (.bool true), er k] H V (Pu (.tup []) H V) :=
  (CX.cc (demandR_cx H V true k) (by rintro _ _ _ ⟨h, _⟩; cases h)).mono (by rintro r H' V' ⟨_, rfl, rfl, rfl⟩; exact ⟨rfl, rfl, rfl⟩)
set_option maxRecDepth 8000 in
theorem begin_cx (H : Hp) (V : List Nat) (b : Nat) (l : List Sec) (hb : H[b]? = some (some rdZ)) (hl : l.length ≤ 1000000) : CX Tryz.prog 207 [.ptr b 0, secsV l] H V (BegK H V b l) (BegX H V b l) := by
  have hbl := lt_of_box hb
  have hse : H.set b (some rdZ) = H := set_same hb
  refine CX.of_swp Tryz.func207 rfl (by kernel_rfl) (by rw [Tryz.ntmps207]; exact len_le _ _ rfl) fun hok hokH => ?_
  clear hok
  refine SWp.seq (SWp.callx (pre := [_, _, _]) (post := []) ?_)
  simp -implicitDefEqProofs [go_sem, args0]
  cases l with
  | nil =>
    refine cx_demR false 10 rfl (by simp) (fun h => by cases h) (fun _ => ?_)
    exact ⟨10, rdZ, [], [], begE_0, rfl, by rw [hse]; simp, by simp⟩
  | cons s l =>
    refine cx_demR true 10 rfl (by simp) (fun _ => ?_) (fun h => by cases h)
    simp -implicitDefEqProofs [go_sem]
    unfold rdZ at hb
    refine SWp.seq (Wp.s ?_)
    simp -implicitDefEqProofs [go_sem, hbx_of hb]
    refine CC.mono (rnumber_cc _ _ s) ?_
    rintro _ _ _ ⟨rfl, rfl, rfl⟩
    simp -implicitDefEqProofs [go_sem, hbx_of hb]
    obtain ⟨H1, hH1⟩ : ∃ H1, H1 = H.set b (some [.v (.slice none 0 0), ci (gn s), iv 0]) := ⟨_, rfl⟩
    have hb1 : H1[b]? = some (some [.v (.slice none 0 0), ci (gn s), iv 0]) := by rw [hH1, List.getElem?_set_self hbl]
    rw [← hH1]
    refine SWp.seq (SWp.callx (pre := [_, _, _, _, _]) (post := []) ?_)
    simp -implicitDefEqProofs [go_sem, hbx_of hb1]
    by_cases h1 : gn s = 0
    · refine cx_demR false 7 rfl (by simp [h1]) (fun h => by cases h) (fun _ => ?_)
      exact ⟨7, _, [], [], begE_7 h1, rfl, by rw [hH1]; simp; rfl, by simp⟩
    refine cx_demR true 7 rfl (by simp; omega) (fun _ => ?_) (fun h => by cases h)
    simp -implicitDefEqProofs [go_sem]
    refine SWp.seq (SWp.drawnT [] [] (.s 0 .pl <| .s 1 .pl <| .s 2 .pl <| .s 3 .pl <| .s 4 .pl <| .s 5 .pl <| .s 6 .pl <| .s 7 .pl <| .s 8 .pl <| .s 9 .pl <| .s 10 .pl <| .s 11 .pl <| .s 12 .pl <| .n) (by kernel_rfl) (by kernel_rfl) ?_)
    simp -implicitDefEqProofs [go_sem, secC_get, sb64, lenR_or]
    refine SWp.seq (SWp.callx (pre := [_, _]) (post := []) ?_)
    simp -implicitDefEqProofs [go_sem]
    by_cases h2 : 4096 < lenR s
    · refine cx_demR false 5 rfl (by simp; omega) (fun h => by cases h) (fun _ => ?_)
      exact ⟨5, _, [], [], begE_5 h1 h2, rfl, by rw [hH1]; simp; rfl, by simp⟩
    refine cx_demR true 5 rfl (by simp; omega) (fun _ => ?_) (fun h => by cases h)
    simp -implicitDefEqProofs [go_sem]
    have hsz : szR (lenR s : Int) = (szN s : Int) := by rw [szR, if_neg (by omega), szN]; omega
    refine SWp.seq (Wp.s ?_)
    simp -implicitDefEqProofs [go_sem]
    refine CC.mono (RSize_cc _ _ _) ?_
    rintro _ _ _ ⟨rfl, rfl, rfl⟩
    simp -implicitDefEqProofs [go_sem, hsz, hbx_of hb1]
    obtain ⟨H2, hH2⟩ : ∃ H2, H2 = H1.set b (some [.v (.slice none 0 0), ci (gn s), ci (szN s)]) := ⟨_, rfl⟩
    have hb2 : H2[b]? = some (some [.v (.slice none 0 0), ci (gn s), ci (szN s)]) := by rw [hH2, List.getElem?_set_self (by rw [hH1, List.length_set]; exact hbl)]
    have hH2' : H2 = H.set b (some [.v (.slice none 0 0), ci (gn s), ci (szN s)]) := by rw [hH2, hH1, List.set_set]
    rw [← hH2]
    refine SWp.seq (SWp.callx (pre := [_, _, _, _, _, _, _]) (post := []) ?_)
    simp -implicitDefEqProofs [go_sem, hbx_of hb2]
    by_cases h3 : (s :: l).length < szN s
    · refine cx_demR false 10 rfl (by simp at h3 ⊢; omega) (fun h => by cases h) (fun _ => ?_)
      exact ⟨10, _, [], [], begE_10 h1 h2 h3, rfl, by rw [hH2']; simp; rfl, by simp⟩
    refine cx_demR true 10 rfl (by simp at h3 ⊢; omega) (fun _ => ?_) (fun h => by cases h)
    simp -implicitDefEqProofs [go_sem]
    refine SWp.seq (Wp.s ?_)
    simp -implicitDefEqProofs [go_sem, hbx_of hb2]
    have hszl : szN s ≤ l.length + 1 := by simp at h3; omega
    refine ⟨hszl, ?_⟩
    rw [show secC s :: List.map secC l = List.map secC (s :: l) from rfl, ← List.map_take, Nat.min_eq_left hszl, hH2']
    have hq : ((s :: l).take (szN s)).length = szN s := by rw [List.length_take, List.length_cons]; omega
    have hbeg : ((s :: l).take (szN s)).all (fun x => gn x == gn s) = true → begE (s :: l) = .ok (szN s) := begE_ok h1 h2 h3
    have hbad : ((s :: l).take (szN s)).all (fun x => gn x == gn s) = false → begE (s :: l) = .error 10 := begE_torn h1 h2 h3
    have hBK : ∀ r H' V', BegK H V b (s :: l) r H' V' = (∃ s' l' n, s :: l = s' :: l' ∧ begE (s :: l) = .ok n ∧ r = .tup [] ∧ H' = H.set b (some (rdB (dataS ((s :: l).take n)) (ci (gn s')) (ci n))) ∧ V = V') := fun _ _ _ => rfl
    generalize hqq : (s :: l).take (szN s) = q at hq hbeg hbad ⊢
    generalize hn : szN s = n at hq hbeg hbad hszl hqq ⊢
    refine SWp.block ?_
    refine SWp.loop (α := Nat × CV × Hp × List Nat) (fun x => ([(0, .ptr b 0), (57, .sl .sh 8 (q.map secC)), (58, ci n), (59, ci x.1)], H.set b (some [x.2.1, ci (gn s), ci n]) ++ x.2.2.1, x.2.2.2))
      (fun x => x.1 ≤ n ∧ ApB V.length (dataS (q.take x.1)) x.2.1 x.2.2.2 ∧ (∃ W, x.2.2.2 = V ++ W) ∧ (q.take x.1).all (fun x => gn x == gn s) = true) (fun x => n - x.1) (0, .v (.slice none 0 0), [], V) ⟨by omega, .inl ⟨rfl, rfl⟩, ⟨[], by simp⟩, rfl⟩ (Sh.forget (by simp [go_sem]) (by simp) rfl) ?_
    rintro ⟨i, cv, L, V'⟩ ⟨hi, ha, ⟨W, hW⟩, hg⟩
    dsimp only at hi ha hW hg ⊢
    have hbx1 : ∀ (c : List CV) (M : Hp), (H.set b (some c) ++ M)[b]? = some (some c) := fun c M => by rw [List.getElem?_append_left (by rw [List.length_set]; exact hbl), List.getElem?_set_self hbl]
    refine SWp.seq (Wp.s ?_)
    simp -implicitDefEqProofs [go_sem]
    refine SWp.seq (Wp.s ?_)
    simp -implicitDefEqProofs [go_sem]
    refine ⟨fun h => ?_, fun h => ?_⟩
    case refine_2 =>
      obtain rfl : i = n := by omega
      rw [List.take_of_length_le (by omega)] at ha hg
      refine Fin.weakB (b := b) (ds := rdB (dataS q) (ci (gn s)) (ci i)) (hbx1 _ _) (.cons ha.le8 (LeL.rfl' _)) ?_ ?_
      · intro x hx
        rcases List.mem_cons.1 hx with rfl | hx
        · exact ha.noObj
        · rcases List.mem_cons.1 hx with rfl | hx
          · rfl
          · obtain rfl : x = ci i := by simpa using hx
            rfl
      rw [List.set_append_left _ _ (by rw [List.length_set]; exact hbl), List.set_set]
      exact Fin.cut H.length V.length ⟨s, l, i, rfl, hbeg hg, rfl, by rw [hqq], rfl⟩ (Nat.le_refl _) (Nat.le_refl _) (List.take_left' (by rw [List.length_set])) (by rw [hW]; simp) (.refl _) (by rw [okV, okL]; trivial) (okH_put hbl hokH (by simp [rdB, okL, okV, okTk, okBs_t]))
    have hiq : i < q.length := by omega
    refine SWp.seq (SWp.block (SWp.seq (Wp.s ?_)))
    simp -implicitDefEqProofs [go_sem, hiq]
    by_cases hgi : gn q[i] = gn s
    case neg =>
      have hgi' : ¬ ((gn q[i] : Nat) : Int) = ((gn s : Nat) : Int) := by omega
      have hall : (q.all fun x => gn x == gn s) = false := by
        rw [← Bool.not_eq_true, List.all_eq_true]
        intro hh
        exact hgi (by simpa using hh _ (List.getElem_mem hiq))
      have hX : ∀ M : Hp, BegX H V b (s :: l) (panR 10) (H.set b (some [cv, ci (gn s), ci n]) ++ M) V' := fun M => ⟨10, _, M, W, hbad hall, rfl, rfl, hW⟩
      refine SWp.seq (SWp.drawnY (.f 0 false (.f 1 false (.s 2 false (.s 3 false (.s 4 false (.s 5 false (.s 6 false (.s 7 true (.n))))))) 2 false (.f 1 false (.s 3 false (.s 4 false (.s 5 false (.s 6 false (.s 7 true (.n)))))) 3 false (.f 1 false (.s 4 false (.s 5 false (.s 6 false (.s 7 true (.n))))) 4 false (.f 1 false (.s 5 false (.s 6 false (.s 7 true (.n)))) 5 false (.s 1 false (.s 6 false (.s 7 true (.n)))))))) 2 false (.f 0 false (.f 1 false (.s 3 false (.s 4 false (.s 5 false (.s 6 false (.s 7 true (.n)))))) 3 false (.f 1 false (.s 4 false (.s 5 false (.s 6 false (.s 7 true (.n))))) 4 false (.f 1 false (.s 5 false (.s 6 false (.s 7 true (.n)))) 5 false (.s 1 false (.s 6 false (.s 7 true (.n))))))) 3 false (.f 0 false (.f 1 false (.s 4 false (.s 5 false (.s 6 false (.s 7 true (.n))))) 4 false (.f 1 false (.s 5 false (.s 6 false (.s 7 true (.n)))) 5 false (.s 1 false (.s 6 false (.s 7 true (.n)))))) 4 false (.f 0 false (.f 1 false (.s 5 false (.s 6 false (.s 7 true (.n)))) 5 false (.s 1 false (.s 6 false (.s 7 true (.n))))) 5 false (.s 0 false (.s 1 false (.s 6 false (.s 7 true (.n))))))))) (by kernel_rfl) (by kernel_rfl) ?_)
      have hbb := hbx1 [cv, ci (gn s), ci n] (L ++ [some (secC q[i])])
      simp -implicitDefEqProofs [go_sem, hbx_of hbb]
      repeat' (with_reducible refine And.intro ?_ ?_)
      all_goals
        refine CC.mono (rnumber_cc _ _ _) ?_
        rintro _ _ _ ⟨rfl, rfl, rfl⟩
        simp -implicitDefEqProofs [go_sem, hbx_of hbb, hgi]
        refine stepY_x rfl rfl (by simp [go_sem]) ?_
        simp -implicitDefEqProofs [go_sem]
        refine cx_demR false 10 rfl (by simp; exact hgi') (fun h => by cases h) (fun _ => hX _)
    refine SWp.seq (SWp.drawnT [] [] (.s 0 .pl <| .s 2 .pl <| .s 3 .pl <| .s 4 .pl <| .s 5 .pl <| .s 1 .pl <| .s 6 .pl <| .s 7 .pl <| .n) (by kernel_rfl) (by kernel_rfl) ?_)
    simp -implicitDefEqProofs [go_sem, hbx_of (hbx1 [cv, ci (gn s), ci n] (L ++ [some (secC q[i])]))]
    refine CC.mono (rnumber_cc _ _ _) ?_
    rintro _ _ _ ⟨rfl, rfl, rfl⟩
    simp -implicitDefEqProofs [go_sem, hgi]
    refine CC.mono (demT_cc _ _ _) ?_
    rintro _ _ _ ⟨rfl, rfl, rfl⟩
    simp -implicitDefEqProofs [go_sem]
    refine SWp.drawnT [] [11] (.s 0 .pl <| .s 1 .pl <| .s 2 .pl <| .s 3 .pl <| .s 4 .pl <| .s 5 .pl <| .s 6 .pl <| .s 7 .pl <| .s 8 .pl <| .s 9 .pl <| .s 10 .pl <| .s 11 .st <| .n) (by kernel_rfl) (by kernel_rfl) ?_
    have hg' : (q.take (i + 1)).all (fun x => gn x == gn s) = true := by
      rw [List.take_succ_eq_append_getElem hiq, List.all_append, hg]
      simp [hgi]
    have hd := dataS_succ q i hiq
    have hset : ∀ (c c' : List CV) (M : Hp), (H.set b (some c) ++ M).set b (some c') = H.set b (some c') ++ M := fun c c' M => by
      rw [List.set_append_left _ _ (by rw [List.length_set]; exact hbl), List.set_set]
    have hall' : ∀ (x : Sec), x ∈ q.take (i + 1) → gn x = gn s := fun x hx => by simpa using List.all_eq_true.1 hg' x hx
    rcases ha with ⟨rfl, he⟩ | ⟨k, v, rfl, hv, hk⟩
    · simp -implicitDefEqProofs [go_sem, hbx_of (hbx1 [.v (.slice none 0 0), ci (gn s), ci n] (L ++ [some (secC q[i])])), secC_drop4]
      refine ⟨by rw [q[i].len]; decide, Wp.s ?_⟩
      rw [hset]
      simp -implicitDefEqProofs [go_sem, wrap_succ (show i ≤ 1000000000 by simp at hl; omega)]
      refine ⟨i + 1, _, _, V' ++ [0], ⟨by omega, .inr ⟨V'.length, 0, by rw [hd, he]; rfl, by simp, by rw [hW]; simp⟩, ⟨W ++ [0], by rw [hW, List.append_assoc]⟩, hall'⟩, by omega, Sh.forget (by simp [go_sem]) rfl rfl⟩
    · simp -implicitDefEqProofs [go_sem, hbx_of (hbx1 [.sl (.own k v) 1 (bs (dataS (q.take i))), ci (gn s), ci n] (L ++ [some (secC q[i])])), secC_drop4, hv]
      have hkv := (List.getElem?_eq_some_iff.1 hv).1
      refine ⟨by rw [q[i].len, dataS_len, List.length_take]; simp at hl; omega, Wp.s ?_⟩
      rw [hset]
      simp -implicitDefEqProofs [go_sem, wrap_succ (show i ≤ 1000000000 by simp at hl; omega)]
      refine ⟨i + 1, .sl (.own k (v + 1)) 1 (bs (dataS (q.take i) ++ q[i].val.drop 4)), _, V'.set k (v + 1), ⟨by omega, .inr ⟨k, v + 1, by rw [hd], by rw [List.getElem?_set_self hkv], hk⟩, ⟨W.set (k - V.length) (v + 1), by rw [hW, List.set_append_right _ _ hk]⟩, hall'⟩, by omega, Sh.forget (by simp [go_sem]) rfl rfl⟩
end Go.Proofs.YtbnkggbpocaaiaaGreatDoor
namespace Go.Proofs.YtbnkggbpocaaiaaGreatDoor
open Go.Proofs
def lnS (st : List UInt8) : Nat := leV ((st.drop 1).take 2)
def RecK (H : Hp) (V : List Nat) (b : Nat) (st : List UInt8) (sq n : Nat) : CV → Hp → List Nat → Prop := fun r H' V' => ∃ rec rest, recE st sq = .ok rec ∧ r = .agg (rcC rec) ∧ H' = H.set b (some (rdB rest (ci sq) (ci n))) ∧ V = V'
def RecX (H : Hp) (V : List Nat) (b : Nat) (st : List UInt8) (sq n : Nat) : List PanicEntry → Hp → List Nat → Prop := fun ch H' V' => ∃ e cs L W, recE st sq = .error e ∧ ch = panR e ∧ H' = H.set b (some cs) ++ L ∧ V' = V ++ W
theorem recE_9 {st : List UInt8} {sq : Nat} (h : leV ((st.drop (3 + lnS st)).take 4) ≠ (crc (st.take (3 + lnS st))).toNat) : recE st sq = .error 9 := if_pos h
theorem recE_3 {st : List UInt8} {sq : Nat} (h : ¬ leV ((st.drop (3 + lnS st)).take 4) ≠ (crc (st.take (3 + lnS st))).toNat) (h2 : (st.drop (7 + lnS st)).any nzB = true ∨ leV (st.take 1) = 0) : recE st sq = .error 3 := (if_neg h).trans (if_pos h2)
theorem recE_ok {st : List UInt8} {sq : Nat} (h : ¬ leV ((st.drop (3 + lnS st)).take 4) ≠ (crc (st.take (3 + lnS st))).toNat) (h2 : ¬ ((st.drop (7 + lnS st)).any nzB = true ∨ leV (st.take 1) = 0)) : recE st sq = .ok ⟨(leV (st.take 1) : Int), sq, (st.drop 3).take (lnS st)⟩ := (if_neg h).trans (if_neg h2)
set_option maxRecDepth 8000 in
theorem record_cx (H : Hp) (V : List Nat) (b : Nat) (st : List UInt8) (sq n : Nat) (hb : H[b]? = some (some (rdB st (ci sq) (ci n)))) (hst : 7 + lnS st ≤ st.length) (hl : st.length ≤ 1000000) : CX Tryz.prog 208 [.ptr b 0] H V (RecK H V b st sq n) (RecX H V b st sq n) := by
  have hbl := lt_of_box hb
  refine CX.of_swp Tryz.func208 rfl (by kernel_rfl) (by rw [Tryz.ntmps208]; exact len_le _ _ rfl) fun hok hokH => ?_
  clear hok
  obtain ⟨z, hz⟩ : ∃ z : List CV, z = [iv 0, iv 0, .v (.slice none 0 0)] := ⟨_, rfl⟩
  have hbx : ∀ (c : List UInt8) (M : Hp), (H.set b (some (rdB c (ci sq) (ci n))) ++ M)[b]? = some (some (rdB c (ci sq) (ci n))) := fun c M => by rw [List.getElem?_append_left (by rw [List.length_set]; exact hbl), List.getElem?_set_self hbl]
  have hset : ∀ (c : List UInt8) (c' : List CV) (M : Hp), (H.set b (some (rdB c (ci sq) (ci n))) ++ M).set b (some c') = H.set b (some c') ++ M := fun c c' M => by
    rw [List.set_append_left _ _ (by rw [List.length_set]; exact hbl), List.set_set]
  have hH : H.set b (some (rdB st (ci sq) (ci n))) = H := set_same hb
  have hln : lnS st = leV ((st.drop 1).take 2) := rfl
  have hlb := leV_lt ((st.drop 1).take 2)
  rw [← hln, List.length_take, List.length_drop, Nat.min_eq_left (by omega)] at hlb
  generalize hlen : lnS st = m at hst hln hlb
  refine SWp.seq (Wp.s ?_)
  simp -implicitDefEqProofs [go_sem, args0]
  rw [← hz]
  have hb0 : (H ++ [some z])[b]? = some (some (rdB st (ci sq) (ci n))) := by rw [List.getElem?_append_left hbl]; exact hb
  refine SWp.seq (Wp.s ?_)
  simp -implicitDefEqProofs [go_sem, hbx_of (show (H ++ [some z])[b]? = some (some [.sl .sh 1 (bs st), ci sq, ci n]) from hb0)]
  refine SWp.seq (Wp.s ?_)
  simp -implicitDefEqProofs [go_sem]
  refine CC.mono (bnumber_cc _ _ b 1 st _ _ hb0 (by omega) hl (by decide)) ?_
  rintro _ _ _ ⟨rfl, rfl, rfl⟩
  rw [List.set_append_left _ _ hbl]
  simp -implicitDefEqProofs [go_sem, -List.drop_one]
  refine SWp.seq (Wp.s ?_)
  simp -implicitDefEqProofs [go_sem, -List.drop_one]
  refine CC.mono (bnumber_cc _ _ b 2 (st.drop 1) _ _ (hbx _ _) (by rw [List.length_drop]; omega) (by rw [List.length_drop]; omega) (by decide)) ?_
  rintro _ _ _ ⟨rfl, rfl, rfl⟩
  rw [hset, ← hln, List.drop_drop]
  simp -implicitDefEqProofs [go_sem, -List.drop_one]
  refine SWp.seq (Wp.s ?_)
  simp -implicitDefEqProofs [go_sem, -List.drop_one]
  refine CC.mono (take_cc _ _ b m (st.drop (1 + 2)) _ _ (hbx _ _) (by rw [List.length_drop]; omega) (by rw [List.length_drop]; omega)) ?_
  rintro _ _ _ ⟨rfl, rfl, rfl⟩
  rw [hset, List.drop_drop]
  simp -implicitDefEqProofs [go_sem, -List.drop_one]
  refine CC.mono (clone_cc _ _ _ _ (by simp; omega)) ?_
  rintro _ _ _ ⟨v, rfl, rfl, rfl⟩
  simp -implicitDefEqProofs [go_sem, -List.drop_one]
  refine SWp.seq (Wp.s ?_)
  simp -implicitDefEqProofs [go_sem, -List.drop_one]
  refine CC.mono (bnumber_cc _ _ b 4 (st.drop (1 + 2 + m)) _ _ (hbx _ _) (by rw [List.length_drop]; omega) (by rw [List.length_drop]; omega) (by decide)) ?_
  rintro _ _ _ ⟨rfl, rfl, rfl⟩
  rw [hset, List.drop_drop]
  simp -implicitDefEqProofs [go_sem, -List.drop_one]
  refine SWp.seq (SWp.callx (pre := [_, _, _, _, _, _, _, _]) (post := []) ?_)
  have w1 : IntKind.i64.wrap (3 + (m : Int)) = ((3 + m : Nat) : Int) := (IntWalk.i64_in _ ⟨by omega, by omega⟩).trans (by omega)
  simp -implicitDefEqProofs [go_sem, -List.drop_one, w1]
  refine ⟨by omega, by omega, ?_⟩
  rw [show (3 + (m : Int)).toNat = 3 + m by omega]
  refine CC.mono (Sum_cc _ _ .sh (st.take (3 + m)) (by rw [List.length_take]; omega)) ?_
  rintro _ _ _ ⟨rfl, rfl, rfl⟩
  simp -implicitDefEqProofs [go_sem, -List.drop_one, wrap_rn]
  have r9 := recE_9 (st := st) (sq := sq)
  have r3 := recE_3 (st := st) (sq := sq)
  have rok := recE_ok (st := st) (sq := sq)
  rw [hlen] at r9 r3 rok
  generalize leV ((st.drop (3 + m)).take 4) = sm at r9 r3 rok ⊢
  generalize (crc (st.take (3 + m))).toNat = cs at r9 r3 rok ⊢
  by_cases hs : sm = cs
  case neg =>
    have hs' : ¬ (sm : Int) = (cs : Int) := by omega
    refine cx_demR false 9 rfl (by simp; exact hs') (fun h => by cases h) (fun _ => ?_)
    exact ⟨9, _, [some z], [v], r9 hs, rfl, rfl, rfl⟩
  refine cx_demR true 9 rfl (by simp [hs]) (fun _ => ?_) (fun h => by cases h)
  simp -implicitDefEqProofs [go_sem, -List.drop_one]
  have hkd := leV_lt (st.take 1)
  rw [List.length_take, Nat.min_eq_left (by omega)] at hkd
  generalize hkv : leV (st.take 1) = kd at r3 rok hkd ⊢
  refine SWp.seq (SWp.callx (pre := [_, _, _, _, _, _, _, _, _, _, _]) (post := []) ?_)
  have hbb := hbx (st.drop (3 + m + 4)) [some z]
  by_cases hk : kd = 0
  · simp -implicitDefEqProofs [go_sem, -List.drop_one, hk]
    refine cx_demR false 3 rfl (by simp) (fun h => by cases h) (fun _ => ?_)
    exact ⟨3, _, [some z], [v], r3 (by simp [hs]) (.inr hk), rfl, rfl, rfl⟩
  have hk' : 0 < kd := by omega
  simp -implicitDefEqProofs [go_sem, -List.drop_one, hk', hbx_of (show (H.set b (some (rdB (st.drop (3 + m + 4)) (ci sq) (ci n))) ++ [some z])[b]? = some (some [.sl .sh 1 (bs (st.drop (3 + m + 4))), ci sq, ci n]) from hbb)]
  refine CC.mono (containsB_cc _ _ .sh (st.drop (3 + m + 4)) (by rw [List.length_drop]; omega)) ?_
  rintro _ _ _ ⟨rfl, rfl, rfl⟩
  have e7 : 3 + m + 4 = 7 + m := by omega
  cases hnz : (st.drop (7 + m)).any nzB with
  | true =>
    simp -implicitDefEqProofs [go_sem, e7, hnz]
    refine cx_demR false 3 rfl (by simp) (fun h => by cases h) (fun _ => ?_)
    exact ⟨3, _, [some z], [v], r3 (by simp [hs]) (.inl hnz), rfl, rfl, rfl⟩
  | false =>
    simp -implicitDefEqProofs [go_sem, e7, hnz]
    refine cx_demR true 3 rfl rfl (fun _ => ?_) (fun h => by cases h)
    simp -implicitDefEqProofs [go_sem, -List.drop_one]
    have hR := rok (by simp [hs]) (by simp [hnz, hk])
    have hb7 : (H.set b (some (rdB (st.drop (7 + m)) (ci sq) (ci n))) ++ [some z])[b]? = some (some [.sl .sh 1 (bs (st.drop (7 + m))), ci sq, ci n]) := hbx _ _
    have hbz : (H.set b (some (rdB (st.drop (7 + m)) (ci sq) (ci n))) ++ [some z])[H.length]? = some (some [iv 0, iv 0, .v (.slice none 0 0)]) := by
      rw [List.getElem?_append_right (by rw [List.length_set]; exact Nat.le_refl _), List.length_set, Nat.sub_self, hz]; rfl
    have hss : ∀ y : List CV, (H.set b (some (rdB (st.drop (7 + m)) (ci sq) (ci n))) ++ [some z]).set H.length (some y) = H.set b (some (rdB (st.drop (7 + m)) (ci sq) (ci n))) ++ [some y] := fun y => by
      rw [List.set_append_right _ _ (by rw [List.length_set]; exact Nat.le_refl _), List.length_set, Nat.sub_self]; rfl
    refine SWp.seq (Wp.s ?_)
    simp -implicitDefEqProofs [go_sem, hbx_of hb7, hbx_of hbz, hss]
    refine Wp.s ?_
    simp -implicitDefEqProofs [go_sem]
    refine Fin.cut (r' := .agg (rcC ⟨(kd : Int), (sq : Int), (st.drop 3).take m⟩)) H.length V.length ⟨_, _, hR, rfl, rfl, rfl⟩ (Nat.le_refl _) (Nat.le_refl _) (List.take_left' (by rw [List.length_set])) (by simp) (.agg (.cons (.refl _) (.cons (.refl _) (.cons (.sh _ _ _) .nil)))) (by rw [okV, okL_rcC]; trivial) (okH_put hbl hokH (by simp [rdB, okL, okV, okTk, okBs_t]))
def dcV : Except Nat (Rcd × Nat) → CV
  | .ok (r, n) => .tup [.agg (rcC r), ci n, er 0]
  | .error e => .tup [.agg (rcC zrc), ci 0, er e]
def decX (l : List Sec) : Except Nat (Rcd × Nat) :=
  match begE l with
  | .error e => .error e
  | .ok n =>
    match recE (dataS (l.take n)) (gn (l.getD 0 sec0)) with
    | .error e => .error e
    | .ok r => .ok (r, n)
end Go.Proofs.YtbnkggbpocaaiaaGreatDoor
namespace Go.Proofs.YtbnkggbpocaaiaaGreatDoor
open Go.Proofs
theorem taR (v : Value) (w : World) : (Instr.typeAssert (.iface 289 v) 20 289 true).run Tryz.prog w = .ok (.tuple #[v, .bool true]) w := by
  simp [Instr.typeAssert, go_sem]
theorem retDecR : RetD Tryz.prog 206 3 := ⟨⟨_, Tryz.func206, rfl, by kernel_rfl⟩, fun us w hs => by
  obtain ⟨a, b, c, rfl⟩ : ∃ a b c, us = #[a, b, c] := by
    rcases us with ⟨l⟩
    match l, hs with
    | [a, b, c], _ => exact ⟨a, b, c, rfl⟩
  refine callsD_of_wpS Tryz.func206 rfl fun c₀ cs hu => ?_
  apply wpS_seq
  apply wpS_region
  simp [wpOpsS, go_sem, recoverD, hu, Tryz.ntmps206, Exit.thenS]
  apply wpS_seq
  apply wpS_region
  simp [wpOpsS, go_sem, recoverD, hu, Tryz.ntmps206, Exit.thenS]
  refine wpS_cond (t := false) (by simp [Act.eval, Array.replicate]) ?_
  simp only [Bool.false_eq_true, if_false]
  refine wpS_of_wp (wp_skip ?_)
  cases c₀
  simp_all [bodyPostS, results, Tryz.results206]⟩
def rcZ : List CV := [iv 0, iv 0, .v (.slice none 0 0)]
theorem catchDecR (H : Hp) (V : List Nat) (a b c k : Nat) (cs : List CV) (x y : CV) (ha : H[a]? = some (some cs)) (hb : H[b]? = some (some [x])) (hc : H[c]? = some (some [y])) (hab : a ≠ b) (hac : a ≠ c) (hbc : b ≠ c) (hcs : cs.length = 3) :
    CD Tryz.prog 206 [.ptr a 0, .ptr b 0, .ptr c 0] (panR k) H V (fun H' V' => ∃ M, H' = (((H.set a (some rcZ)).set b (some [iv 0])).set c (some [er k])) ++ M ∧ V' = V) := by
  refine CD.of_swp Tryz.func206 rfl (by kernel_rfl) Tryz.results206 (by rw [Tryz.ntmps206]; exact len_le _ _ rfl) (by rw [Tryz.ntmps206]; decide) (by rw [Tryz.ntmps206]; decide) (by rw [Tryz.ntmps206]; decide) (by rw [Tryz.ntmps206]; decide) ?_ (SWp.seq (Wp.s ?_))
  · intro w A h
    have h' : A.tmps[7]?.getD undef = .iface 289 (.agg #[.int .i64 k]) := by simpa [Act.eval] using h
    simp [go_sem, h']
  have hb1 : (H.set a (some rcZ))[b]? = some (some [x]) := by rw [List.getElem?_set_ne hab]; exact hb
  have hc1 : ((H.set a (some rcZ)).set b (some [iv 0]))[c]? = some (some [y]) := by rw [List.getElem?_set_ne hbc, List.getElem?_set_ne hac]; exact hc
  unfold rcZ at hb1 hc1 ⊢
  simp -implicitDefEqProofs [go_sem, args0, hbx_some ha, hcs, hbx_some hb1, hbx_some hc1, List.drop_eq_nil_of_le (show cs.length ≤ 3 by omega)]
  obtain ⟨H3, hH3⟩ : ∃ H3, H3 = (H.set a (some [iv 0, iv 0, .v (.slice none 0 0)])).set b (some [iv 0]) := ⟨_, rfl⟩
  have hcl : c < H3.length := by rw [hH3, List.length_set, List.length_set]; exact lt_of_box hc
  have hln : H3.length = H.length := by rw [hH3, List.length_set, List.length_set]
  rw [← hH3]
  obtain ⟨H4, hH4⟩ : ∃ H4, H4 = H3.set c (some [iv 3]) := ⟨_, rfl⟩
  have hc4 : H4[c]? = some (some [iv 3]) := by rw [hH4, List.getElem?_set_self hcl]
  have hs4 : ∀ y : List CV, H4.set c (some y) = H3.set c (some y) := fun y => by rw [hH4, List.set_set]
  have hl4 : H4.length = H.length := by rw [hH4, List.length_set, hln]
  rw [← hH4, ← hl4]
  refine SWp.seq (SWp.tassert (pre := [_]) (post := [_, _, _, _, _, _]) ?_)
  simp -implicitDefEqProofs [go_sem]
  refine ⟨.agg [ci k], 289, _, ⟨rfl, rfl⟩, fun m w V => ?_, fun A w hA => ?_, ?_⟩
  · rw [RelV]; exact ⟨[_], rfl, by rw [RelL]; exact ⟨_, _, rfl, by rw [RelV], by rw [RelL]⟩⟩
  · rw [hA, taR]; rfl
  simp -implicitDefEqProofs [go_sem]
  refine SWp.seq (Wp.s ?_)
  simp -implicitDefEqProofs [go_sem]
  have hcc : (H4 ++ [some [ci k]])[c]? = some (some [iv 3]) := by rw [List.getElem?_append_left (lt_of_box hc4)]; exact hc4
  refine Wp.s ?_
  simp -implicitDefEqProofs [go_sem, hbx_of hcc]
  refine Fin.self ⟨⟨[some [ci k]], ?_⟩, rfl⟩
  rw [List.set_append_left _ _ (lt_of_box hc4), hs4]
theorem okV_dcV (i j : Nat) (x : Except Nat (Rcd × Nat)) : okV i j (dcV x) := by
  cases x <;> simp only [dcV] <;> rw [okV, okL, okL, okL, okL] <;> exact ⟨by rw [okV, okL_rcC]; trivial, by rw [okV]; trivial, okV_er _ _ _, trivial⟩
theorem rcZ_le : Le (.agg rcZ) (.agg (rcC zrc)) := .agg (.cons (.refl _) (.cons (.refl _) (.cons (.nil 1 (by decide)) .nil)))
theorem begE_spec {s : Sec} {l : List Sec} {n : Nat} (h : begE (s :: l) = .ok n) : n = szN s ∧ n ≤ (s :: l).length ∧ gn s ≠ 0 ∧ lenR s ≤ 4096 := by
  by_cases h1 : gn s = 0
  · rw [begE_7 h1] at h; cases h
  by_cases h2 : 4096 < lenR s
  · rw [begE_5 h1 h2] at h; cases h
  by_cases h3 : (s :: l).length < szN s
  · rw [begE_10 h1 h2 h3] at h; cases h
  cases h4 : ((s :: l).take (szN s)).all (fun x => gn x == gn s) with
  | false => rw [begE_torn h1 h2 h3 h4] at h; cases h
  | true =>
    rw [begE_ok h1 h2 h3 h4] at h
    cases h
    exact ⟨rfl, by omega, h1, by omega⟩
theorem lnS_data (s : Sec) (l : List Sec) (n : Nat) (hn : 1 ≤ n) : lnS (dataS ((s :: l).take n)) = lenR s := by
  obtain ⟨m, rfl⟩ : ∃ m, n = m + 1 := ⟨n - 1, by omega⟩
  rw [List.take_succ_cons, dataS, List.flatMap_cons, lnS, lenR]
  have h8 := s.len
  generalize s.val = v at h8
  match v, h8 with
  | [a, b, c, d, e, f, g, h], _ => simp [leV]
set_option maxRecDepth 8000 in
set_option maxHeartbeats 4000000 in
theorem RDecode_cc (H : Hp) (V : List Nat) (l : List Sec) (hl : l.length ≤ 100000) : CC Tryz.prog 186 [secsV l] H V (Pu (dcV (decX l)) H V) := by
  refine CC.of_deferX (pre := [_]) Tryz.func186 rfl (by kernel_rfl) (by rw [Tryz.ntmps186]; exact len_le _ _ rfl) retDecR fun hok hokH => Wp.s ?_
  clear hok
  simp -implicitDefEqProofs [go_sem, args0]
  refine SWp.seq (Wp.s ?_)
  simp -implicitDefEqProofs [go_sem]
  refine SWp.seq (SWp.callx (pre := [_, _]) (post := []) ?_)
  simp -implicitDefEqProofs [go_sem]
  have hb3 : (H ++ [some [iv 0, iv 0, .v (.slice none 0 0)], some [iv 0], some [iv 0], some rdZ])[H.length + 3]? = some (some rdZ) := by rw [hget]; rfl
  have stop : ∀ (k : Nat) (L : Hp) (W : List Nat), decX l = .error k → CD Tryz.prog 206 [.ptr H.length 0, .ptr (H.length + 1) 0, .ptr (H.length + 2) 0] (panR k)
      (H ++ some [iv 0, iv 0, .v (.slice none 0 0)] :: some [iv 0] :: some [iv 0] :: L) (V ++ W)
      fun H' V' => hbx H' H.length fun cs => 3 ≤ cs.length ∧ hbx H' (H.length + 1) fun cs_1 => ∃ h : 0 < cs_1.length, hbx H' (H.length + 2) fun cs_2 => ∃ h_1 : 0 < cs_2.length,
        Fin H.length V.length (Pu (dcV (decX l)) H V) (.tup [.agg (cs.take 3), cs_1[0], cs_2[0]]) H' V' := fun k L W hk => by
    refine (catchDecR _ _ _ _ _ k _ _ _ (by rw [at_len]; rfl) (by rw [at_len_add]; rfl) (by rw [at_len_add]; rfl) (by omega) (by omega) (by omega) rfl).mono ?_
    rintro _ _ ⟨M, rfl, rfl⟩
    simp -implicitDefEqProofs [go_sem, rcZ]
    rw [hk]
    exact Fin.pu (.tup (.cons rcZ_le (.cons (.refl _) (.cons (.refl _) .nil)))) (okV_dcV _ _ (.error k)) hokH (by simp) (by simp)
  refine CX.mono (begin_cx _ V (H.length + 3) l hb3 (by omega)) ?_ ?_
  case refine_2 =>
    rintro _ _ _ ⟨e, cs, L, W, hbeg, rfl, rfl, rfl⟩
    simp -implicitDefEqProofs [go_sem]
    exact stop e (some cs :: L) W (by rw [decX, hbeg])
  rintro _ _ _ ⟨s, l', n, hll, hbeg, rfl, rfl, rfl⟩
  simp -implicitDefEqProofs [go_sem]
  subst hll
  obtain ⟨hn, hnl, hg0, hle⟩ := begE_spec hbeg
  have hn1 : 1 ≤ n := by rw [hn, szN]; omega
  have hD : decX (s :: l') = (match recE (dataS ((s :: l').take n)) (gn s) with | .error e => .error e | .ok r => .ok (r, n)) := by rw [decX, hbeg]; rfl
  have hst : (dataS ((s :: l').take n)).length = 4 * n := by rw [dataS_len, List.length_take, Nat.min_eq_left hnl]
  have hls : 7 + lnS (dataS ((s :: l').take n)) ≤ (dataS ((s :: l').take n)).length := by rw [hst, lnS_data _ _ _ hn1, hn, szN]; omega
  generalize dataS ((s :: l').take n) = st at hD hst hls ⊢
  generalize decX (s :: l') = dx at hD stop ⊢
  have hb4 : ∀ c : List UInt8, (H ++ [some [iv 0, iv 0, .v (.slice none 0 0)], some [iv 0], some [iv 0], some (rdB c (ci (gn s)) (ci n))])[H.length + 3]? = some (some (rdB c (ci (gn s)) (ci n))) := fun c => by rw [hget]; rfl
  refine SWp.seq (SWp.ghost (T' := [(5, .ptr (H.length + 3) 0), (2, .ptr H.length 0), (3, .ptr (H.length + 1) 0), (4, .ptr (H.length + 2) 0)]) (Gst.forget (TLe.get (by simp [go_sem]))) ?_)
  refine SWp.drawnY (.f 0 false (.f 1 true (.f 2 false (.f 3 false (.f 4 false (.f 5 false (.s 6 false (.s 7 false (.s 8 false (.n)))) 6 false (.s 5 false (.s 7 false (.s 8 false (.n))))) 6 false (.s 4 false (.s 5 false (.s 7 false (.s 8 false (.n)))))) 6 false (.s 3 false (.s 4 false (.s 5 false (.s 7 false (.s 8 false (.n))))))) 6 false (.s 2 false (.s 3 false (.s 4 false (.s 5 false (.s 7 false (.s 8 false (.n)))))))) 2 false (.f 1 true (.f 3 false (.f 4 false (.f 5 false (.s 6 false (.s 7 false (.s 8 false (.n)))) 6 false (.s 5 false (.s 7 false (.s 8 false (.n))))) 6 false (.s 4 false (.s 5 false (.s 7 false (.s 8 false (.n)))))) 6 false (.s 3 false (.s 4 false (.s 5 false (.s 7 false (.s 8 false (.n))))))) 3 false (.f 1 true (.f 4 false (.f 5 false (.s 6 false (.s 7 false (.s 8 false (.n)))) 6 false (.s 5 false (.s 7 false (.s 8 false (.n))))) 6 false (.s 4 false (.s 5 false (.s 7 false (.s 8 false (.n)))))) 4 false (.f 1 true (.f 5 false (.s 6 false (.s 7 false (.s 8 false (.n)))) 6 false (.s 5 false (.s 7 false (.s 8 false (.n))))) 5 false (.s 1 true (.s 6 false (.s 7 false (.s 8 false (.n))))))))) 2 false (.f 0 false (.f 1 true (.f 3 false (.f 4 false (.f 5 false (.s 6 false (.s 7 false (.s 8 false (.n)))) 6 false (.s 5 false (.s 7 false (.s 8 false (.n))))) 6 false (.s 4 false (.s 5 false (.s 7 false (.s 8 false (.n)))))) 6 false (.s 3 false (.s 4 false (.s 5 false (.s 7 false (.s 8 false (.n))))))) 3 false (.f 1 true (.f 4 false (.f 5 false (.s 6 false (.s 7 false (.s 8 false (.n)))) 6 false (.s 5 false (.s 7 false (.s 8 false (.n))))) 6 false (.s 4 false (.s 5 false (.s 7 false (.s 8 false (.n)))))) 4 false (.f 1 true (.f 5 false (.s 6 false (.s 7 false (.s 8 false (.n)))) 6 false (.s 5 false (.s 7 false (.s 8 false (.n))))) 5 false (.s 1 true (.s 6 false (.s 7 false (.s 8 false (.n)))))))) 3 false (.f 0 false (.f 1 true (.f 4 false (.f 5 false (.s 6 false (.s 7 false (.s 8 false (.n)))) 6 false (.s 5 false (.s 7 false (.s 8 false (.n))))) 6 false (.s 4 false (.s 5 false (.s 7 false (.s 8 false (.n)))))) 4 false (.f 1 true (.f 5 false (.s 6 false (.s 7 false (.s 8 false (.n)))) 6 false (.s 5 false (.s 7 false (.s 8 false (.n))))) 5 false (.s 1 true (.s 6 false (.s 7 false (.s 8 false (.n))))))) 4 false (.f 0 false (.f 1 true (.f 5 false (.s 6 false (.s 7 false (.s 8 false (.n)))) 6 false (.s 5 false (.s 7 false (.s 8 false (.n))))) 5 false (.s 1 true (.s 6 false (.s 7 false (.s 8 false (.n)))))) 5 false (.s 0 false (.s 1 true (.s 6 false (.s 7 false (.s 8 false (.n)))))))))) (by kernel_rfl) (by kernel_rfl) ?_
  simp -implicitDefEqProofs [go_sem, rdB]
  repeat' (with_reducible refine And.intro ?_ ?_)
  all_goals
    refine stepY_x rfl rfl (by simp [go_sem]) ?_
    simp -implicitDefEqProofs [go_sem]
    refine CX.mono (record_cx _ V (H.length + 3) st (gn s) n (hb4 st) hls (by simp at hl; simp at hnl; omega)) ?_ ?_
    case refine_2 =>
      rintro _ _ _ ⟨e, cs, L, W, hrec, rfl, rfl, rfl⟩
      simp -implicitDefEqProofs [go_sem]
      exact stop e (some cs :: L) W (by rw [hD, hrec])
    rintro _ _ _ ⟨rec, rest, hrec, rfl, rfl, rfl⟩
    rw [hrec] at hD
    subst hD
    simp -implicitDefEqProofs [go_sem, rdB]
    repeat' (with_reducible refine And.intro ?_ ?_)
    all_goals
      refine Wp.s ?_
      simp -implicitDefEqProofs [go_sem]
      exact Fin.pu (.refl _) (okV_dcV _ _ (.ok (rec, n))) hokH (by simp) (by simp)
end Go.Proofs.YtbnkggbpocaaiaaGreatDoor
namespace Go.Proofs.YtbnkggbpocaaiaaGreatDoor
open Go.Proofs
def scanX : Nat → List Sec → Int → List Rcd × Nat
  | 0, _, _ => ([], 0)
  | f + 1, l, sq =>
    if sq < 1 then ([], 0) else
    match decX l with
    | .error _ => ([], 0)
    | .ok (r, n) => if r.sq ≠ sq then ([], 0) else (r :: (scanX f (l.drop n) (sq + 1)).1, n + (scanX f (l.drop n) (sq + 1)).2)
def scanA (l : List Sec) (sq : Int) : List Rcd × Nat := scanX (l.length + 1) l sq
theorem decX_n {l : List Sec} {r : Rcd} {n : Nat} (h : decX l = .ok (r, n)) : 2 ≤ n ∧ n ≤ l.length := by
  cases l with
  | nil => rw [decX, begE_0] at h; cases h
  | cons s l =>
    unfold decX at h
    split at h
    · cases h
    · rename_i m hm
      split at h
      · cases h
      · cases h
        obtain ⟨h1, h2, _⟩ := begE_spec hm
        exact ⟨by rw [h1, szN]; omega, h2⟩
@[go_sem] theorem okE_rcs' (i j : Nat) (l : List Rcd) : okE i j (l.map rcC) = True := okE_rcs i j l
theorem decX_err {l : List Sec} {e : Nat} (h : decX l = .error e) : e ≠ 0 := by
  have hb : ∀ {l : List Sec} {e : Nat}, begE l = .error e → e ≠ 0 := by
    intro l e h
    cases l with
    | nil => rw [begE_0] at h; cases h; decide
    | cons s l =>
      unfold begE at h
      dsimp only at h
      split at h
      · cases h; decide
      · split at h
        · cases h; decide
        · split at h
          · cases h; decide
          · split at h
            · cases h; decide
            · cases h
  unfold decX at h
  split at h
  · rename_i e' he; cases h; exact hb he
  · split at h
    · rename_i e' he
      cases h
      unfold recE at he
      split at he
      · cases he; decide
      · split at he
        · cases he; decide
        · cases he
    · cases h
def ScI (l : List Sec) (sq : Int) (out : List Rcd) (a : Nat) (f : Nat) : Prop := scanA l sq = (out ++ (scanX f (l.drop a) (sq + out.length)).1, a + (scanX f (l.drop a) (sq + out.length)).2) ∧ a ≤ l.length ∧ l.length - a < f ∧ out.length ≤ a
theorem ScI.stop {l : List Sec} {sq : Int} {out : List Rcd} {a f : Nat} (h : ScI l sq out a f) (hs : scanX f (l.drop a) (sq + out.length) = ([], 0)) : scanA l sq = (out, a) := by
  have := h.1
  rw [hs, List.append_nil] at this
  exact this
theorem ScI.less {l : List Sec} {sq : Int} {out : List Rcd} {a f : Nat} (h : ScI l sq out a f) (hs : sq + out.length < 1) : scanA l sq = (out, a) := h.stop (by
  cases f with
  | zero => rfl
  | succ f => rw [scanX, if_pos hs])
theorem ScI.err {l : List Sec} {sq : Int} {out : List Rcd} {a f : Nat} {e : Nat} (h : ScI l sq out a f) (he : decX (l.drop a) = .error e) : scanA l sq = (out, a) := h.stop (by
  cases f with
  | zero => rfl
  | succ f =>
    rw [scanX, he]
    split <;> rfl)
theorem ScI.other {l : List Sec} {sq : Int} {out : List Rcd} {a f : Nat} {r : Rcd} {n : Nat} (h : ScI l sq out a f) (he : decX (l.drop a) = .ok (r, n)) (hr : r.sq ≠ sq + out.length) : scanA l sq = (out, a) := h.stop (by
  cases f with
  | zero => rfl
  | succ f =>
    rw [scanX, he]
    dsimp only
    rw [if_pos hr]
    split <;> rfl)
theorem ScI.next {l : List Sec} {sq : Int} {out : List Rcd} {a f : Nat} {r : Rcd} {n : Nat} (h : ScI l sq out a f) (hs : ¬ sq + out.length < 1) (he : decX (l.drop a) = .ok (r, n)) (hr : r.sq = sq + out.length) : ∃ f', ScI l sq (out ++ [r]) (a + n) f' := by
  obtain ⟨h1, h2, h3, h4⟩ := h
  have hn := decX_n he
  rw [List.length_drop] at hn
  cases f with
  | zero => omega
  | succ f =>
    refine ⟨f, ?_, by omega, by omega, by rw [List.length_append, List.length_singleton]; omega⟩
    rw [h1, scanX, if_neg hs, he]
    dsimp only
    rw [if_neg (by simpa using hr), List.drop_drop, List.length_append, List.length_singleton]
    have e : sq + ((out.length + 1 : Nat) : Int) = sq + out.length + 1 := by omega
    rw [e, List.append_assoc]
    exact Prod.ext rfl (by show a + (n + _) = a + n + _; omega)
theorem Sh.trim0 {n : Nat} {T T' : Tm} {H0 H : Hp} {V0 V V' : List Nat} (h : TLe T T') (hT : TOk H0.length V'.length T') (hokH : ∀ (b : Nat) cs, H0[b]? = some (some cs) → okL H0.length V0.length cs) (hV0 : V0.length ≤ V'.length) (eH : H.take H0.length = H0) (eV : V.take V'.length = V') : Sh n H0.length V0.length T H V (T', H0, V') := by
  have := Sh.trim (n := n) (T := T) (H := H) (L := []) h (by simpa using hT) hokH trivial hV0 (by simpa using eH) eV
  simpa using this
def scV (x : List Rcd × Nat) : CV := .tup [.sl .sh 3 (x.1.map rcC), ci x.2]
set_option maxRecDepth 8000 in
theorem Scan_cc (H : Hp) (V : List Nat) (l : List Sec) (sq : Int) (hl : l.length ≤ 100000) (hsq : sq ≤ 10000000000) (hsq2 : -10000000000 ≤ sq) : CC Tryz.prog 148 [secsV l, iv sq] H V (Pu (scV (scanA l sq)) H V) := by
  refine CC.of_swp Tryz.func148 rfl (by kernel_rfl) (by rw [Tryz.ntmps148]; exact len_le _ _ rfl) fun hok hokH => ?_
  clear hok
  refine SWp.seq (Wp.s ?_)
  simp -implicitDefEqProofs [go_sem, args0]
  refine SWp.seq (Wp.s ?_)
  simp -implicitDefEqProofs [go_sem]
  refine SWp.seq (Wp.s ?_)
  simp -implicitDefEqProofs [go_sem]
  refine SWp.join (α := List Rcd × Nat × Nat) (fun x => ([(6, .sl (.own V.length x.2.2) 3 (x.1.map rcC)), (7, ci x.2.1)], H, V ++ [x.2.2])) (fun x => scanA l sq = (x.1, x.2.1)) ?_ ?_
  · refine SWp.block ?_
    refine SWp.loop (α := List Rcd × Nat × Nat) (fun x => ([(0, secsV l), (1, iv (sq + x.1.length)), (6, .sl (.own V.length x.2.2) 3 (x.1.map rcC)), (7, ci x.2.1)], H, V ++ [x.2.2])) (fun x => ∃ f, ScI l sq x.1 x.2.1 f) (fun x => l.length - x.2.1) ([], 0, 0) ⟨l.length + 1, by simp [scanA], Nat.zero_le _, by simp, by simp⟩ (Sh.tokT (by simp [go_sem]) rfl rfl) ?_
    rintro ⟨out, a, v⟩ ⟨f, hi⟩
    dsimp only at hi ⊢
    have hal := hi.2.1
    have hol := hi.2.2.2
    refine SWp.seq (SWp.seq (Wp.s ?_))
    by_cases h1 : 1 ≤ sq + out.length
    case neg =>
      simp -implicitDefEqProofs [go_sem, h1]
      refine Wp.s ?_
      simp -implicitDefEqProofs [go_sem]
      exact ⟨out, a, hi.less (by omega), v, Sh.forget (by simp [go_sem]) rfl rfl⟩
    simp -implicitDefEqProofs [go_sem, h1]
    refine Wp.s ?_
    simp -implicitDefEqProofs [go_sem]
    refine SWp.block (SWp.seq (Wp.s ?_))
    simp -implicitDefEqProofs [go_sem, hal]
    rw [show List.drop a (List.map secC l) = List.map secC (l.drop a) from (List.map_drop ..).symm]
    refine CC.mono (RDecode_cc _ _ (l.drop a) (by rw [List.length_drop]; omega)) ?_
    rintro _ _ _ ⟨rfl, rfl, rfl⟩
    cases hd : decX (l.drop a) with
    | error e =>
      have he := decX_err hd
      simp -implicitDefEqProofs [go_sem, dcV]
      refine SWp.seq (SWp.seq (Wp.s ?_))
      simp -implicitDefEqProofs [go_sem, he]
      refine Wp.s ?_
      simp -implicitDefEqProofs [go_sem]
      refine ⟨out, a, hi.err hd, v, Sh.trim0 (by simp [go_sem]) (by simp [go_sem]) hokH (by simp) (by simp) (by simp)⟩
    | ok x =>
      obtain ⟨r, n⟩ := x
      simp -implicitDefEqProofs [go_sem, dcV]
      refine SWp.seq (SWp.seq (Wp.s ?_))
      by_cases hr : r.sq = sq + out.length
      case neg =>
        simp -implicitDefEqProofs [go_sem, hr]
        refine Wp.s ?_
        simp -implicitDefEqProofs [go_sem]
        refine ⟨out, a, hi.other hd hr, v, Sh.trim0 (by simp [go_sem]) (by simp [go_sem]) hokH (by simp) (by simp) (by simp)⟩
      obtain ⟨f', hi'⟩ := hi.next (by omega) hd hr
      have hn2 := hi'.2.1
      have w1 : IntKind.i64.wrap (sq + (out.length : Int) + 1) = sq + (out.length : Int) + 1 := IntWalk.i64_in _ ⟨by omega, by omega⟩
      have w2 : IntKind.i64.wrap ((a : Int) + (n : Int)) = (a : Int) + (n : Int) := IntWalk.i64_in _ ⟨by omega, by omega⟩
      simp -implicitDefEqProofs [go_sem, hr]
      refine Wp.s ?_
      simp -implicitDefEqProofs [go_sem]
      refine Wp.s ?_
      simp -implicitDefEqProofs [go_sem, w1, w2]
      have hn0 := decX_n hd
      refine ⟨by omega, out ++ [r], a + n, ⟨f', hi'⟩, by omega, v + 1, Sh.trim0 ?_ (by simp [go_sem, -List.map_append]) hokH (by simp) (by simp) (by simp)⟩
      simp [go_sem, show sq + ((out.length : Int) + 1) = sq + (out.length : Int) + 1 by omega]
  rintro ⟨out, a, v⟩ hx
  dsimp only at hx ⊢
  refine Wp.s ?_
  simp -implicitDefEqProofs [go_sem]
  rw [hx]
  exact Fin.pu (.tup (.cons (.sh _ _ _) (.cons (.refl _) .nil))) (by rw [scV, okV, okL, okL, okL, okV_sh]; exact ⟨by simp [go_sem], by rw [okV]; trivial, trivial⟩) hokH (by simp) (by simp)
end Go.Proofs.YtbnkggbpocaaiaaGreatDoor
namespace Go.Proofs.YtbnkggbpocaaiaaGreatDoor
open Go.Proofs
theorem from_cc (H : Hp) (V : List Nat) (s c p n : Int) : CC Tryz.prog 147 [.agg [iv s, iv c], iv p, iv n] H V (fun r H' V' => r = .fn 185 [.ptr (H.length + 2) 0, .ptr (H.length + 1) 0, .ptr H.length 0] ∧ H' = H ++ [some [iv s, iv c], some [iv p], some [iv n]] ∧ V = V') := by
  refine CC.of_swp Tryz.func147 rfl (by kernel_rfl) (by rw [Tryz.ntmps147]; exact len_le _ _ rfl) fun hok hokH => ?_
  refine SWp.seq (Wp.s ?_)
  simp -implicitDefEqProofs [go_sem, args0]
  refine Wp.s ?_
  simp -implicitDefEqProofs [go_sem]
  refine Fin.cut (H.length + 3) V.length ⟨rfl, rfl, rfl⟩ (by omega) (Nat.le_refl _) (List.take_of_length_le (by simp)) (List.take_of_length_le (Nat.le_refl _)) (.refl _) (by simp [go_sem]) ?_
  intro b cs hb
  rw [List.getElem?_append] at hb
  split at hb
  · exact okL_mono (by omega) (Nat.le_refl _) (hokH b cs hb)
  · exact okH_get (i := H.length + 3) (j := V.length) (L := [some [iv s, iv c], some [iv p], some [iv n]]) (by simp [go_sem]) _ _ hb
theorem from1_cc (H : Hp) (V : List Nat) (L b1 b2 b3 : Nat) (s c p : Int) (n : Nat) (hv : validJ s c = true) (hp : 0 ≤ p) (hp2 : p ≤ 1000000) (hn : n ≤ 1000000) (I : Nat → Hp → List Nat → Prop) (h0 : I 0 H V)
    (hI : ∀ i H V, I i H V → H[b1]? = some (some [iv (n : Int)]) ∧ H[b2]? = some (some [iv p]) ∧ H[b3]? = some (some [iv s, iv c]))
    (hy : ∀ i, i < n → ∀ H V, I i H V → YC Tryz.prog L [iv ((p + i) % (c - 16))] H V (fun r H' V' => r = .v (.bool true) ∧ I (i + 1) H' V')) :
    CC Tryz.prog 185 [.yl L, .ptr b1 0, .ptr b2 0, .ptr b3 0] H V (fun _ H' V' => I n H' V') := by
  have hvi := (validJ_iff s c).1 hv
  refine CC.of_swp Tryz.func185 rfl (by kernel_rfl) (by rw [Tryz.ntmps185]; exact len_le _ _ rfl) fun hok hokH => ?_
  clear hok
  obtain ⟨g1, _, _⟩ := hI _ _ _ h0
  refine SWp.seq (Wp.s ?_)
  simp -implicitDefEqProofs [go_sem, args0, hbx_of g1]
  refine SWp.block ?_
  refine SWp.loop (α := Nat × Hp × List Nat) (fun x => ([(0, .yl L), (2, .ptr b2 0), (3, .ptr b3 0), (6, iv (n : Int)), (7, ci x.1)], x.2.1, x.2.2)) (fun x => x.1 ≤ n ∧ I x.1 x.2.1 x.2.2) (fun x => n - x.1) (0, H, V) ⟨by omega, h0⟩ (Sh.forget (by simp [go_sem]) rfl rfl) ?_
  rintro ⟨i, H1, V1⟩ ⟨hi, hi1⟩
  dsimp only at hi hi1 ⊢
  obtain ⟨g1, g2, g3⟩ := hI _ _ _ hi1
  refine SWp.seq (Wp.s ?_)
  simp -implicitDefEqProofs [go_sem]
  refine SWp.seq (Wp.s ?_)
  simp -implicitDefEqProofs [go_sem]
  refine ⟨fun h => ?_, fun h => ?_⟩
  case refine_2 =>
    obtain rfl : i = n := by omega
    exact Fin.self hi1
  refine SWp.seq (SWp.block (SWp.seq (Wp.s ?_)))
  simp -implicitDefEqProofs [go_sem]
  have w1 : IntKind.i64.wrap (p + (i : Int)) = p + (i : Int) := IntWalk.i64_in _ ⟨by omega, by omega⟩
  have t1 := Int.tmod_eq_emod_of_nonneg (b := c - 16) (show 0 ≤ p + (i : Int) by omega)
  have hz : ¬ c - 16 = 0 := by omega
  refine SWp.seq (SWp.drawnT [b2, b3] [7] (.s 0 .pl <| .s 1 .ld <| .s 2 .pl <| .s 3 .pl <| .s 4 .ld <| .s 5 .pl <| .s 6 .pl <| .s 7 .st <| .s 8 .pl <| .n) (by kernel_rfl) (by kernel_rfl) ?_)
  simp -implicitDefEqProofs [go_sem, hbx_of g2, hbx_of g3, w1]
  refine CC.mono (length_cc _ _ _ _ hv) ?_
  rintro _ _ _ ⟨rfl, rfl, rfl⟩
  simp -implicitDefEqProofs [go_sem, t1, hz]
  refine YC.mono (hy i h _ _ hi1) ?_
  rintro _ H2 V2 ⟨rfl, hi2⟩
  obtain ⟨k1, k2, k3⟩ := hI _ _ _ hi2
  simp -implicitDefEqProofs [go_sem]
  refine ⟨Kp.keep fun b hb => ?_, ?_⟩
  · rcases List.mem_cons.1 hb with rfl | hb
    · rw [g2, k2]
    · obtain rfl : b = b3 := by simpa using hb
      rw [g3, k3]
  refine Wp.s ?_
  simp -implicitDefEqProofs [go_sem]
  refine Wp.s ?_
  simp -implicitDefEqProofs [go_sem]
  refine ⟨i + 1, H2, V2, ⟨by omega, hi2⟩, by omega, Sh.forget ?_ rfl rfl⟩
  simp [go_sem, wrap_succ (show i ≤ 1000000000 by omega)]
end Go.Proofs.YtbnkggbpocaaiaaGreatDoor
namespace Go.Proofs.YtbnkggbpocaaiaaGreatDoor
open Go.Proofs
def mkC (M : List Bool) : List CV := M.map fun b => CV.v (.bool b)
@[go_sem, simp] theorem mkC_len (M : List Bool) : (mkC M).length = M.length := List.length_map ..
@[go_sem] theorem mkC_get (M : List Bool) (i : Nat) (h : i < (mkC M).length) : (mkC M)[i] = CV.v (.bool (M[i]'(by simpa using h))) := by simp [mkC]
theorem mkC_set (M : List Bool) (i : Nat) (b : Bool) (h : i < M.length) : (mkC M).take i ++ CV.v (.bool b) :: (mkC M).drop (i + 1) = mkC (M.set i b) := by
  rw [List.set_eq_take_append_cons_drop, if_pos h]
  simp [mkC]
@[go_sem] theorem okL_mkC (i j : Nat) : ∀ M : List Bool, okL i j (mkC M) = True
  | [] => by rw [mkC, List.map_nil, okL]
  | b :: l => by rw [mkC, List.map_cons, okL, okV]; exact (true_and _).trans (okL_mkC i j l)
def markX (n tl nxt : Int) (ct : List Sec) : Nat → List Bool
  | 0 => List.replicate n.toNat false
  | i + 1 => (markX n tl nxt ct i).set ((tl + i) % n).toNat (decide (nxt ≤ (gn (ct.getD ((tl + i) % n).toNat sec0) : Int)))
theorem markX_len (n tl nxt : Int) (ct : List Sec) : ∀ i, (markX n tl nxt ct i).length = n.toNat
  | 0 => by rw [markX, List.length_replicate]
  | i + 1 => by rw [markX, List.length_set, markX_len n tl nxt ct i]
def runL : List Bool → Nat
  | true :: l => runL l + 1
  | _ => 0
def runsX (s : Int) : Nat → List Bool → Nat → List Opn
  | 0, _, _ => []
  | f + 1, M, p => if M.length ≤ p then [] else if runL (M.drop p) = 0 then runsX s f M (p + 1) else opW (s + 16 + p) (List.replicate (runL (M.drop p)) sec0) :: runsX s f M (p + runL (M.drop p) + 1)
def remX (j : Jrn) (ct : List Sec) : List Opn :=
  let M := markX (j.count - 16) j.tail (nextJ j) ct (freeJ j).toNat
  let r := runsX j.start (M.length + 1) M 0
  if r = [] then [] else r ++ [opS]
theorem runL_le : ∀ l : List Bool, runL l ≤ l.length
  | [] => Nat.le_refl _
  | true :: l => by rw [runL, List.length_cons]; have := runL_le l; omega
  | false :: l => Nat.zero_le _
theorem runL_lt : ∀ (l : List Bool) (k : Nat), k < runL l → l[k]? = some true
  | [], k, h => absurd h (Nat.not_lt_zero _)
  | true :: l, 0, _ => rfl
  | true :: l, k + 1, h => by rw [List.getElem?_cons_succ]; exact runL_lt l k (by rw [runL] at h; omega)
  | false :: l, k, h => absurd h (Nat.not_lt_zero _)
theorem runL_at : ∀ l : List Bool, l[runL l]? ≠ some true
  | [] => by simp
  | true :: l => by rw [runL, List.getElem?_cons_succ]; exact runL_at l
  | false :: l => by simp [runL]
def RmI (s : Int) (M : List Bool) (p : Nat) (ops : List Opn) : Prop := ∃ f, runsX s (M.length + 1) M 0 = ops ++ runsX s f M p ∧ M.length - p < f
theorem RmI.stop {s : Int} {M : List Bool} {p : Nat} {ops : List Opn} (h : RmI s M p ops) (hp : M.length ≤ p) : runsX s (M.length + 1) M 0 = ops := by
  obtain ⟨f, h1, h2⟩ := h
  cases f with
  | zero => omega
  | succ f => rw [h1, runsX, if_pos hp, List.append_nil]
theorem RmI.zero {s : Int} {M : List Bool} {p : Nat} {ops : List Opn} (h : RmI s M p ops) (hp : p < M.length) (hr : runL (M.drop p) = 0) : RmI s M (p + 1) ops := by
  obtain ⟨f, h1, h2⟩ := h
  cases f with
  | zero => omega
  | succ f => exact ⟨f, by rw [h1, runsX, if_neg (by omega), if_pos hr], by omega⟩
theorem RmI.run {s : Int} {M : List Bool} {p : Nat} {ops : List Opn} (h : RmI s M p ops) (hp : p < M.length) (hr : runL (M.drop p) ≠ 0) : RmI s M (p + runL (M.drop p) + 1) (ops ++ [opW (s + 16 + p) (List.replicate (runL (M.drop p)) sec0)]) := by
  obtain ⟨f, h1, h2⟩ := h
  cases f with
  | zero => omega
  | succ f => exact ⟨f, by rw [h1, runsX, if_neg (by omega), if_neg hr, List.append_assoc]; rfl, by omega⟩
theorem FyE.app {bx : Nat} {cs : List CV} {a b : List (List CV)} {c d : List (List CV)} : FyE bx cs a b → FyE bx cs c d → FyE bx cs (a ++ c) (b ++ d)
  | .nil, h => h
  | .cons h t, g => .cons h (FyE.app t g)
theorem Fk.run (b K : Nat) (tk : Tk) (ops : List Opn) (at' : Int) : Fk b (secsF (List.replicate K sec0)) (.sl tk 3 (ops.map opC ++ [[iv 0, iv at', .bsl b 0 K 8]])) (.sl tk 3 ((ops ++ [opW at' (List.replicate K sec0)]).map opC)) := by
  rw [List.map_append]
  exact .slk _ _ (FyE.app (FyE.rfl' _ _ _) (.cons (.cons (.refl _) (.cons (.refl _) (.cons (Fy.zeros _ _) .nil))) .nil))
abbrev HM (H : Hp) (j : Jrn) (u : Int) (ct : List Sec) (M : List Bool) (n : Nat) (x1 x2 x3 lp : Option (List CV)) : Hp := H ++ (some (stJ j u) :: some [secsV ct] :: some (mkC M) :: some [.bsl (H.length + 2) 0 n 1] :: x1 :: x2 :: x3 :: lp :: [])
set_option maxRecDepth 8000 in
theorem remove_cc (H : Hp) (V : List Nat) (j : Jrn) (ct : List Sec) (h : chkJ j = true) (hc : ct.length = (j.count - 16).toNat) : CC Tryz.prog 149 [.agg (stJ j (sumI j.sizes)), secsV ct] H V (Pu (opsV (remX j ct)) H V) := by
  refine CC.of_swp0 Tryz.func149 rfl (by kernel_rfl) (by rw [Tryz.ntmps149]; exact len_le _ _ rfl) fun hok hokH => ?_
  have hn := chkJ_next h
  have hsu := chkJ_sum h
  have hva := chkJ_val h
  have hv := (validJ_iff _ _).1 hva
  have ht := chkJ_tail h
  obtain ⟨n, hnn⟩ : ∃ n : Nat, j.count - 16 = (n : Int) := ⟨(j.count - 16).toNat, by omega⟩
  obtain ⟨f, hff⟩ : ∃ f : Nat, j.count - 16 - sumI j.sizes = (f : Int) := ⟨(j.count - 16 - sumI j.sizes).toNat, by omega⟩
  refine SWp0.seq (SWp.s0 (Wp.s ?_))
  simp -implicitDefEqProofs [go_sem, args0]
  refine SWp0.seq (SWp.s0 (Wp.s ?_))
  simp -implicitDefEqProofs [go_sem]
  refine CC.mono (length_cc _ _ _ _ hva) ?_
  rintro _ _ _ ⟨rfl, rfl, rfl⟩
  simp -implicitDefEqProofs [go_sem, hnn]
  refine ⟨by omega, ?_⟩
  refine SWp0.join (α := Unit) (fun _ => ([(2, .ptr H.length 0), (5, .ptr (H.length + 3) 0)], H ++ [some (stJ j (sumI j.sizes)), some [secsV ct], some (mkC (markX n j.tail (nextJ j) ct f)), some [.bsl (H.length + 2) 0 n 1]], V)) (fun _ => True) ?_ ?_
  · refine SWp0.seq (SWp.s0 (SWp.drawnT [] [] (.s 0 .pl <| .s 1 .pl <| .s 2 .pl <| .s 3 .pl <| .s 4 .pl <| .s 5 .pl <| .s 6 .pl <| .s 7 .pl <| .n) (by kernel_rfl) (by kernel_rfl) ?_))
    simp -implicitDefEqProofs [go_sem]
    refine CC.mono (free_cc _ _ _ _ hva hsu.1 (by omega)) ?_
    rintro _ _ _ ⟨rfl, rfl, rfl⟩
    simp -implicitDefEqProofs [go_sem, hff]
    refine CC.mono (from_cc _ _ _ _ _ _) ?_
    rintro _ _ _ ⟨rfl, rfl, rfl⟩
    simp -implicitDefEqProofs [go_sem]
    refine SWp0.block (SWp0.range [(2, .ptr H.length 0), (3, .ptr (H.length + 1) 0), (5, .ptr (H.length + 3) 0)] rfl (by simp [go_sem]) ?_)
    simp -implicitDefEqProofs [go_sem]
    generalize hbd : Code.block 1 _ = bd
    generalize has : Code.region 3 _ _ = asg
    refine CC.mono (from1_cc _ V _ _ _ _ j.start j.count j.tail f hva ht.1 (by omega) (by omega) (fun i G V' => V = V' ∧ G = HM H j (sumI j.sizes) ct (markX n j.tail (nextJ j) ct i) n (some [iv j.start, iv j.count]) (some [iv j.tail]) (some [iv f]) (some [lpc 79 #[22] asg bd [(2, .ptr H.length 0), (3, .ptr (H.length + 1) 0), (5, .ptr (H.length + 3) 0)] .ready none]))
      ⟨rfl, by simp [markX, mkC]⟩ ?_ ?_) ?_
    · rintro i _ V' ⟨rfl, rfl⟩
      exact ⟨hget _ _ 6, hget _ _ 5, hget _ _ 4⟩
    · rintro i hi _ V' ⟨rfl, rfl⟩
      refine YC.of_round (n := 79) (ps := #[22]) (bd := bd) (T := [(2, .ptr H.length 0), (3, .ptr (H.length + 1) 0), (5, .ptr (H.length + 3) 0)]) (hget _ _ 7) rfl (by decide) ?_
      subst hbd has
      rw [hnn]
      have hq1 := Int.emod_nonneg (j.tail + (i : Int)) (show (n : Int) ≠ 0 by omega)
      have hq2 := Int.emod_lt_of_pos (j.tail + (i : Int)) (show 0 < (n : Int) by omega)
      have hM := markX_len n j.tail (nextJ j) ct i
      have hmx : markX n j.tail (nextJ j) ct (i + 1) = (markX n j.tail (nextJ j) ct i).set ((j.tail + i) % (n : Int)).toNat (decide (nextJ j ≤ (gn (ct.getD ((j.tail + i) % (n : Int)).toNat sec0) : Int))) := rfl
      rw [hmx]
      generalize markX n j.tail (nextJ j) ct i = M at hM ⊢
      obtain ⟨q, hqq⟩ : ∃ q : Nat, (j.tail + (i : Int)) % (n : Int) = (q : Int) := ⟨((j.tail + (i : Int)) % (n : Int)).toNat, by omega⟩
      rw [hqq] at hq1 hq2 ⊢
      rw [Int.toNat_natCast]
      have hqc : q < ct.length := by omega
      have hqn : q < n := by omega
      have hgd : ct.getD q sec0 = ct[q] := by rw [List.getD_eq_getElem?_getD, List.getElem?_eq_getElem hqc]; rfl
      rw [hgd]
      refine Wp.s ?_
      simp -implicitDefEqProofs [go_sem, tps]
      refine SWp.block ?_
      generalize hlp : lpc 79 #[22] _ _ _ LoopState.busy none = lp
      generalize hqqq : RQ 79 #[22] _ _ _ _ _ = QQ
      refine SWp.drawnT [] [11] (.s 0 .pl <| .s 1 .pl <| .s 2 .pl <| .s 3 .pl <| .s 4 .pl <| .s 5 .pl <| .s 7 .pl <| .s 6 .pl <| .s 8 .pl <| .s 9 .pl <| .s 10 .pl <| .s 11 .st <| .n) (by kernel_rfl) (by kernel_rfl) ?_
      simp -implicitDefEqProofs [go_sem, hqc, hqn]
      refine CC.mono (jnumber_cc _ _ ct[q]) ?_
      rintro _ _ _ ⟨rfl, rfl, rfl⟩
      simp -implicitDefEqProofs [go_sem]
      refine CC.mono (next_cc _ _ j _ hn.1 hn.2) ?_
      rintro _ _ _ ⟨rfl, rfl, rfl⟩
      have hMn : M.length = n := by simpa using hM
      simp -implicitDefEqProofs [go_sem, hqn, hMn]
      rw [mkC_set _ _ _ (by omega), ← hqqq, ← hlp]
      exact ⟨by omega, hget _ _ 7, rfl, rfl, by simp⟩
    · rintro _ _ V' ⟨rfl, rfl⟩
      refine .inl ⟨hget _ _ 7, ?_⟩
      refine Sh.trim (L := [some (stJ j (sumI j.sizes)), some [secsV ct], some (mkC (markX n j.tail (nextJ j) ct f)), some [.bsl (H.length + 2) 0 n 1]]) (by simp [go_sem]) (by simp [go_sem]) hokH (by simp [go_sem]) (Nat.le_refl _) (by simp) (by simp)
  rintro _ -
  dsimp only
  have hM := markX_len n j.tail (nextJ j) ct f
  have hR : remX j ct = if runsX j.start ((markX n j.tail (nextJ j) ct f).length + 1) (markX n j.tail (nextJ j) ct f) 0 = [] then [] else runsX j.start ((markX n j.tail (nextJ j) ct f).length + 1) (markX n j.tail (nextJ j) ct f) 0 ++ [opS] := by
    rw [remX, freeJ, hff, hnn, Int.toNat_natCast]
  generalize markX n j.tail (nextJ j) ct f = M at hM hR ⊢
  have hMn : M.length = n := by simpa using hM
  obtain ⟨B, hB⟩ : ∃ B : Hp, B = [some (stJ j (sumI j.sizes)), some [secsV ct], some (mkC M), some [.bsl (H.length + 2) 0 n 1]] := ⟨_, rfl⟩
  have hBok : okH (H.length + B.length) V.length B := by rw [hB]; simp [go_sem]
  have hBok' : ∀ k, V.length ≤ k → okH (H.length + 4) k [some (stJ j (sumI j.sizes)), some [secsV ct], some (mkC M), some [.bsl (H.length + 2) 0 n 1]] := fun k _ => by simp [go_sem]
  refine SWp0.seq (SWp.s0 (Wp.s ?_))
  simp -implicitDefEqProofs [go_sem]
  refine SWp.s0 ?_
  refine SWp.join (α := List Opn × Nat) (fun x => ([(7, .sl (.own V.length x.2) 3 (x.1.map opC))], H, V ++ [x.2])) (fun x => runsX j.start (M.length + 1) M 0 = x.1 ∧ x.1.length ≤ 1000000) ?_ ?_
  · refine SWp.seq (Wp.s ?_)
    simp -implicitDefEqProofs [go_sem]
    refine SWp.block ?_
    refine SWp.loop (α := Nat × List Opn × Nat) (fun x => ([(2, .ptr H.length 0), (5, .ptr (H.length + 3) 0), (7, .sl (.own V.length x.2.2) 3 (x.2.1.map opC)), (8, ci x.1)], H ++ B, V ++ [x.2.2])) (fun x => RmI j.start M x.1 x.2.1 ∧ x.2.1.length ≤ x.1 ∧ x.1 ≤ n + 1) (fun x => n + 1 - x.1) (0, [], 0) ⟨⟨M.length + 1, rfl, by omega⟩, by simp, by omega⟩ (Sh.tokT (by simp [go_sem]) (by rw [hB]) rfl) ?_
    rintro ⟨p, ops, v⟩ ⟨hI, hol, hpn⟩
    dsimp only at hI hol hpn ⊢
    refine SWp.seq (SWp.seq (Wp.s ?_))
    subst hB
    by_cases hp : p < n
    case neg =>
      simp -implicitDefEqProofs [go_sem, hp]
      refine Wp.s ?_
      simp -implicitDefEqProofs [go_sem]
      refine ⟨ops, ⟨hI.stop (by omega), by omega⟩, v, Sh.trim0 (by simp [go_sem]) (by simp [go_sem]) hokH (by simp) (by simp) (by simp)⟩
    simp -implicitDefEqProofs [go_sem, hp]
    refine Wp.s ?_
    simp -implicitDefEqProofs [go_sem]
    refine SWp.seq (SWp.block (SWp.seq (Wp.s ?_)))
    simp -implicitDefEqProofs [go_sem]
    obtain ⟨K, hK⟩ : ∃ K, K = runL (M.drop p) := ⟨_, rfl⟩
    have hKl : p + K ≤ n := by have := runL_le (M.drop p); rw [List.length_drop, ← hK] at this; omega
    refine SWp.join (α := Unit) (fun _ => ([(2, .ptr H.length 0), (5, .ptr (H.length + 3) 0), (7, .sl (.own V.length v) 3 (ops.map opC)), (8, ci p), (9, ci K)], H ++ [some (stJ j (sumI j.sizes)), some [secsV ct], some (mkC M), some [.bsl (H.length + 2) 0 n 1]], V ++ [v])) (fun _ => True) ?_ ?_
    · refine SWp.block ?_
      refine SWp.loop (α := Nat) (fun k => ([(2, .ptr H.length 0), (5, .ptr (H.length + 3) 0), (7, .sl (.own V.length v) 3 (ops.map opC)), (8, ci p), (9, ci k)], H ++ [some (stJ j (sumI j.sizes)), some [secsV ct], some (mkC M), some [.bsl (H.length + 2) 0 n 1]], V ++ [v])) (fun k => k ≤ K) (fun k => K - k) 0 (Nat.zero_le _) (Sh.forget (by simp [go_sem]) rfl rfl) ?_
      intro k hk
      dsimp only
      have w1 : IntKind.i64.wrap ((p : Int) + (k : Int)) = (p : Int) + (k : Int) := IntWalk.i64_in _ ⟨by omega, by omega⟩
      refine SWp.seq (SWp.seq (Wp.s ?_))
      by_cases hpk : p + k < n
      case neg =>
        have hpk' : ¬ (p : Int) + (k : Int) < (n : Int) := by omega
        simp -implicitDefEqProofs [go_sem, w1, hpk']
        refine Wp.s ?_
        simp -implicitDefEqProofs [go_sem]
        obtain rfl : k = K := by omega
        exact Sh.forget (by simp [go_sem]) rfl rfl
      have hpk' : (p : Int) + (k : Int) < (n : Int) := by omega
      have hpm : p + k < M.length := by omega
      have hgt : M[p + k]? = (M.drop p)[k]? := by rw [List.getElem?_drop]
      have et : ((p : Int) + (k : Int)).toNat = p + k := by omega
      by_cases hkK : k < K
      · have hm : M[p + k] = true := by
          have := runL_lt (M.drop p) k (by omega)
          rw [← hgt, List.getElem?_eq_getElem hpm] at this
          exact Option.some.inj this
        simp -implicitDefEqProofs [go_sem, w1, hpk', hpk, hMn, et]
        refine ⟨by omega, ?_⟩
        rw [hm]
        refine Wp.s ?_
        simp -implicitDefEqProofs [go_sem]
        refine SWp.block (Wp.s ?_)
        simp -implicitDefEqProofs [go_sem]
        refine ⟨k + 1, by omega, by omega, Sh.forget ?_ rfl rfl⟩
        simp [go_sem, wrap_succ (show k ≤ 1000000000 by omega)]
      · obtain rfl : k = K := by omega
        have hm : M[p + k] = false := by
          have := runL_at (M.drop p)
          rw [← hK, ← hgt, List.getElem?_eq_getElem hpm] at this
          simpa using this
        simp -implicitDefEqProofs [go_sem, w1, hpk', hpk, hMn, et]
        refine ⟨by omega, ?_⟩
        rw [hm]
        refine Wp.s ?_
        simp -implicitDefEqProofs [go_sem]
        exact Sh.forget (by simp [go_sem]) rfl rfl
    rintro _ -
    dsimp only
    refine SWp.seq (Wp.s ?_)
    simp -implicitDefEqProofs [go_sem]
    by_cases hK0 : K = 0
    · simp -implicitDefEqProofs [go_sem, hK0]
      refine Wp.s ?_
      simp -implicitDefEqProofs [go_sem]
      refine Wp.s ?_
      simp -implicitDefEqProofs [go_sem]
      refine ⟨p + 1, ops, ⟨hI.zero (by omega) (by omega), by omega, by omega⟩, by omega, v, Sh.forget ?_ rfl rfl⟩
      simp [go_sem, wrap_succ (show p ≤ 1000000000 by omega)]
    have hK0' : 0 < K := by omega
    simp -implicitDefEqProofs [go_sem, hK0']
    refine SWp.condT (by simp [go_sem]) ?_
    have w1 : IntKind.i64.wrap ((p : Int) + (K : Int)) = (p : Int) + (K : Int) := IntWalk.i64_in _ ⟨by omega, by omega⟩
    refine SWp.seq (SWp.drawnT [] [] (.s 0 .pl <| .s 1 .pl <| .s 2 .pl <| .s 3 .pl <| .s 5 .pl <| .c 4 <| .s 6 .pl <| .s 7 .pl <| .s 8 .pl <| .s 9 .pl <| .s 10 .pl <| .n) (by kernel_rfl) (by kernel_rfl) ?_)
    simp -implicitDefEqProofs [go_sem]
    refine ⟨_, fun H V => sector_cc H V j.start j.count p hva (by omega) (by omega), ?_⟩
    simp -implicitDefEqProofs [go_sem, -List.reduceReplicate]
    refine ⟨by omega, by omega, ?_⟩
    have hz := zeros_secs K
    simp only [List.map_cons, List.map_nil] at hz
    rw [hz]
    have w2 : IntKind.i64.wrap ((p : Int) + (K : Int) + 1) = (p : Int) + (K : Int) + 1 := IntWalk.i64_in _ ⟨by omega, by omega⟩
    refine Wp.s ?_
    simp -implicitDefEqProofs [go_sem, w1]
    refine Wp.s ?_
    simp -implicitDefEqProofs [go_sem, w2]
    have hI' := hI.run (by omega) (show runL (M.drop p) ≠ 0 by omega)
    rw [← hK] at hI'
    refine ⟨p + K + 1, _, ⟨hI', by simp; omega, by omega⟩, by omega, v + 1, ?_⟩
    refine Gst.trans (T' := [(2, .ptr H.length 0), (5, .ptr (H.length + 3) 0), (7, .sl (.own V.length (v + 1)) 3 ((ops ++ [opW (j.start + 16 + p) (List.replicate K sec0)]).map opC)), (8, ci (p + K + 1 : Nat))]) (Gst.freezeK (b := H.length + 4) (cs := secsF (List.replicate K sec0)) (by rw [hget]; rfl) (TFk.get ⟨by simp [go_sem], by simp [go_sem], Fk.run _ _ _ _ _, by simp [go_sem], trivial⟩)) ?_
    exact Sh.trim (L := [some (stJ j (sumI j.sizes)), some [secsV ct], some (mkC M), some [.bsl (H.length + 2) 0 n 1]]) (by simp [go_sem]) (by simp [go_sem, -List.map_append]) hokH (hBok' _ (by simp)) (by simp) (by simp) (by simp)
  rintro ⟨ops, v⟩ ⟨hx, hl⟩
  dsimp only at hx hl ⊢
  rw [hx] at hR
  rw [hR]
  refine SWp.seq (SWp.seq (Wp.s ?_))
  by_cases ho : ops = []
  · subst ho
    simp -implicitDefEqProofs [go_sem]
    refine Wp.s ?_
    simp -implicitDefEqProofs [go_sem]
    refine Wp.s ?_
    simp -implicitDefEqProofs [go_sem]
    exact Fin.pu (.sh _ _ _) (by rw [okV_sh, okE_ops]; trivial) hokH (by simp) (by simp)
  have ho' : 0 < ops.length := List.length_pos_iff.2 ho
  have ho2 : ¬ (ops.length : Int) = 0 := by omega
  simp -implicitDefEqProofs [go_sem, ho']
  refine Wp.s ?_
  simp -implicitDefEqProofs [go_sem]
  refine ⟨by omega, Wp.s ?_⟩
  simp -implicitDefEqProofs [go_sem]
  rw [if_neg ho]
  exact Fin.pu (.sle _ _ (ops_le1 ops)) (by rw [okV_sh, okE_ops]; trivial) hokH (by simp) (by simp)
end Go.Proofs.YtbnkggbpocaaiaaGreatDoor
namespace Go.Proofs.YtbnkggbpocaaiaaGreatDoor
open Go.Proofs
def turnM (h : Int) (n : Nat) (ct : List Sec) (i : Nat) : List Sec := (List.range i).map fun (k : Nat) => ct.getD ((h + (k : Int)) % (n : Int)).toNat sec0
theorem turnM_succ (h : Int) (n : Nat) (ct : List Sec) (i : Nat) : turnM h n ct (i + 1) = turnM h n ct i ++ [ct.getD ((h + (i : Int)) % (n : Int)).toNat sec0] := by rw [turnM, List.range_succ, List.map_append]; rfl
@[go_sem, simp] theorem turnM_len (h : Int) (n : Nat) (ct : List Sec) (i : Nat) : (turnM h n ct i).length = i := by rw [turnM, List.length_map, List.length_range]
/-- The sizes of records, and where the last of them ends. -/
def szs (l : List Rcd) : List Int := l.map fun r => szR (r.pay.length : Int)
def tailX (n h : Int) (l : List Int) : Int := l.foldl (fun t x => (t + x) % n) h
def recsO (first : Int) (l : List Sec) : List Rcd := let r := (scanA l first).1; r.take (min r.length (1073741824 - first).toNat)
def jO (s c h f : Int) (rs : List Rcd) : Jrn := ⟨s, c, h, tailX (c - 16) h (szs rs), f, szs rs⟩
def openJ (s c : Int) (d : Dk) : Jrn × List Rcd × List Opn × Nat :=
  if checkD d ≠ 0 then (zjr, [], [], checkD d) else
  if validJ s c = false ∨ (d.stable.length : Int) < s + c then (zjr, [], [], 2) else
  if (headJ s c d).2.2 ≠ 0 then (zjr, [], [], (headJ s c d).2.2) else
  if (readD d (s + 16) (c - 16)).2 ≠ 0 then (zjr, [], [], (readD d (s + 16) (c - 16)).2) else
  let ct := (readD d (s + 16) (c - 16)).1
  let rs := recsO (headJ s c d).2.1 (turnM (headJ s c d).1 (c - 16).toNat ct (c - 16).toNat)
  if chkJ (jO s c (headJ s c d).1 (headJ s c d).2.1 rs) = false then (zjr, [], [], 3)
  else (jO s c (headJ s c d).1 (headJ s c d).2.1 rs, rs, remX (jO s c (headJ s c d).1 (headJ s c d).2.1 rs) ct, 0)
def opV (x : Jrn × List Rcd × List Opn × Nat) : CV := .tup [.agg (jrC x.1), .sl .sh 3 (x.2.1.map rcC), opsV x.2.2.1, er x.2.2.2]
theorem okV_opV (i j : Nat) (x : Jrn × List Rcd × List Opn × Nat) : okV i j (opV x) := by
  rw [opV, okV, okL, okL, okL, okL, okL]
  simp [go_sem, okL, okV, okL_jrC, okE_ops, okE_rcs]
theorem headP_ok {c : Int} {p : List UInt8} (h : (headP c p).2.2 = 0) : 0 ≤ (headP c p).1 ∧ (headP c p).1 < c - 16 ∧ 1 ≤ (headP c p).2.1 ∧ (headP c p).2.1 ≤ 1073741824 := by
  cases hn : number p with
  | error e => rw [headP, hn] at h; cases h
  | ok x =>
    obtain ⟨a, r⟩ := x
    cases hn2 : number r with
    | error e => rw [headP, hn] at h; simp only at h; rw [hn2] at h; cases h
    | ok x =>
      obtain ⟨f, r'⟩ := x
      have hP : headP c p = if 0 < r'.length ∨ c - 16 ≤ (a : Int) ∨ (f : Int) < 1 ∨ 1073741824 < (f : Int) then (0, 0, 3) else ((a : Int), (f : Int), 0) := by
        rw [headP, hn]; simp only; rw [hn2]
      rw [hP] at h ⊢
      by_cases hb : 0 < r'.length ∨ c - 16 ≤ (a : Int) ∨ (f : Int) < 1 ∨ 1073741824 < (f : Int)
      · rw [if_pos hb] at h; cases h
      · rw [if_neg hb]
        exact ⟨by show (0 : Int) ≤ a; omega, by show (a : Int) < _; omega, by show 1 ≤ (f : Int); omega, by show (f : Int) ≤ _; omega⟩
theorem headJ_ok {s c : Int} {d : Dk} (h : (headJ s c d).2.2 = 0) : 0 ≤ (headJ s c d).1 ∧ (headJ s c d).1 < c - 16 ∧ 1 ≤ (headJ s c d).2.1 ∧ (headJ s c d).2.1 ≤ 1073741824 := by
  by_cases h1 : (loadS d s).2.2 ≠ 0
  · rw [headJ, if_pos h1] at h; exact absurd h h1
  · rw [headJ, if_neg h1] at h ⊢
    exact headP_ok h
theorem readD_n {d : Dk} {a m : Int} {n : Nat} (h : (readD d a m).2 = 0) (hm : m = (n : Int)) : (readD d a m).1.length = n := by
  subst hm
  by_cases h1 : checkD d = 0
  · by_cases h2 : insideB d a n = true
    · have e : readD d a n = (((newestD d).drop a.toNat).take (n : Int).toNat, 0) := by rw [readD, if_neg (by simp [h1]), if_neg (by simp [h2])]
      rw [e]
      simp only [insideB, Bool.and_eq_true, decide_eq_true_eq] at h2
      rw [List.length_take, List.length_drop, newestD_len]
      omega
    · rw [readD, if_neg (by simp [h1]), if_pos (by simpa using h2)] at h; cases h
  · rw [readD, if_pos h1] at h; exact absurd h h1
theorem scanX_len : ∀ (f : Nat) (l : List Sec) (sq : Int), (scanX f l sq).1.length ≤ l.length
  | 0, l, sq => by rw [scanX]; exact Nat.zero_le _
  | f + 1, l, sq => by
    rw [scanX]
    split
    · exact Nat.zero_le _
    · split
      · exact Nat.zero_le _
      · rename_i r n h
        split
        · exact Nat.zero_le _
        · have h1 := scanX_len f (l.drop n) (sq + 1)
          have h2 := decX_n h
          rw [List.length_drop] at h1
          rw [List.length_cons]; omega
theorem szs_snoc (l : List Rcd) (i : Nat) (h : i < l.length) : szs (l.take (i + 1)) = szs (l.take i) ++ [szR (l[i].pay.length : Int)] := by
  rw [szs, List.take_succ_eq_append_getElem h, List.map_append]; rfl
theorem tailX_snoc (n h : Int) (l : List Int) (x : Int) : tailX n h (l ++ [x]) = (tailX n h l + x) % n := by rw [tailX, List.foldl_append]; rfl
theorem tailX_in {n h : Int} (hn : 0 < n) (h0 : 0 ≤ h) (h1 : h < n) : ∀ l : List Int, 0 ≤ tailX n h l ∧ tailX n h l < n := fun l => by
  rcases List.eq_nil_or_concat l with rfl | ⟨l', x, rfl⟩
  · exact ⟨h0, h1⟩
  · rw [List.concat_eq_append, tailX_snoc]
    exact ⟨Int.emod_nonneg _ (by omega), Int.emod_lt_of_pos _ hn⟩
theorem szR_in (n : Int) : 0 ≤ szR n ∧ szR n ≤ 1026 := by
  unfold szR
  split <;> omega
def ApZ (V : List Nat) (l : List Int) (cv : CV) (W : List Nat) : Prop := (l = [] ∧ cv = .v (.slice none 0 0) ∧ W = V) ∨ ∃ v, cv = .sl (.own V.length v) 1 (l.map ic) ∧ W = V ++ [v]
theorem ApZ.le {V : List Nat} {l : List Int} {cv : CV} {W : List Nat} (h : ApZ V l cv W) : Le cv (.sl .sh 1 (l.map ic)) := by
  rcases h with ⟨rfl, rfl, rfl⟩ | ⟨v, rfl, rfl⟩
  · exact .nil 1 (by decide)
  · exact .sh _ _ _
theorem ApZ.ok {V : List Nat} {l : List Int} {cv : CV} {W : List Nat} {i : Nat} (h : ApZ V l cv W) : okV i W.length cv := by
  rcases h with ⟨rfl, rfl, rfl⟩ | ⟨v, rfl, rfl⟩
  · rw [okV]; trivial
  · rw [okV_own, okE_ints]; simp
theorem ApZ.len {V : List Nat} {l : List Int} {cv : CV} {W : List Nat} (h : ApZ V l cv W) : V.length ≤ W.length ∧ W.take V.length = V := by
  rcases h with ⟨rfl, rfl, rfl⟩ | ⟨v, rfl, rfl⟩ <;> simp
abbrev HO (H : Hp) (d : Dk) (s c : Int) (ct : List Sec) (cv : CV) (x1 x2 x3 lp : Option (List CV)) : Hp := H ++ [some (dkC d), some [iv s, iv c], some zjC, some [iv s, iv c], some [secsV ct], some [cv], x1, x2, x3, lp]
set_option maxRecDepth 8000 in
theorem Open_cc (H : Hp) (V : List Nat) (s c : Int) (d : Dk) (hl : DkS d) (hp : (loadS d s).1.length ≤ 100) : CC Tryz.prog 95 [.agg (dkC d), .agg [iv s, iv c]] H V (Pu (opV (openJ s c d)) H V) := by
  refine CC.of_swp0 Tryz.func95 rfl (by kernel_rfl) (by rw [Tryz.ntmps95]; exact len_le _ _ rfl) fun hok hokH => ?_
  have bad : ∀ (e : Nat) {H' : Hp} {V' : List Nat}, openJ s c d = (zjr, [], [], e) → H'.take H.length = H → V'.take V.length = V → Fin H.length V.length (Pu (opV (openJ s c d)) H V) (.tup [.agg zjC, .v (.slice none 0 0), .v (.slice none 0 0), er e]) H' V' := fun e H' V' h1 h2 h3 => by
    rw [h1]
    exact Fin.pu (.tup (.cons zj_le (.cons (.nil 3 (by decide)) (.cons (.nil 3 (by decide)) (.cons (.refl _) .nil))))) (okV_opV _ _ _) hokH h2 h3
  refine SWp0.seq (SWp.s0 (Wp.s ?_))
  simp -implicitDefEqProofs [go_sem, args0]
  refine SWp0.seq (SWp.s0 (SWp.seq (Wp.s ?_)))
  simp -implicitDefEqProofs [go_sem]
  refine CC.mono (sCheck_cc _ _ d hl) ?_
  rintro _ _ _ ⟨rfl, rfl, rfl⟩
  simp -implicitDefEqProofs [go_sem]
  refine SWp.seq (Wp.s ?_)
  by_cases h0 : checkD d = 0
  case neg =>
    simp -implicitDefEqProofs [go_sem, h0]
    refine Wp.s ?_
    simp -implicitDefEqProofs [go_sem]
    exact bad _ (by rw [openJ, if_pos h0]) (by simp) (by simp)
  simp -implicitDefEqProofs [go_sem, h0]
  refine Wp.s ?_
  simp -implicitDefEqProofs [go_sem]
  have e0 : openJ s c d = _ := (by rw [openJ, if_neg (by simp [h0])])
  refine SWp0.seq (SWp.s0 (Wp.s ?_))
  simp -implicitDefEqProofs [go_sem]
  refine SWp0.seq (SWp.s0 (SWp.seq (Wp.s ?_)))
  simp -implicitDefEqProofs [go_sem]
  refine CC.mono (valid_cc _ _ _ _) ?_
  rintro _ _ _ ⟨rfl, rfl, rfl⟩
  have w0 : validJ s c = true → IntKind.i64.wrap (s + c) = s + c := fun h => by
    have := (validJ_iff s c).1 h
    exact IntWalk.i64_in _ ⟨by omega, by omega⟩
  by_cases hv : validJ s c = true
  case neg =>
    simp -implicitDefEqProofs [go_sem, hv]
    refine Wp.s ?_
    simp -implicitDefEqProofs [go_sem]
    exact bad 2 (by rw [e0, if_pos (.inl (by simpa using hv))]) (by simp) (by simp)
  have hvi := (validJ_iff s c).1 hv
  by_cases hln : (d.stable.length : Int) < s + c
  · simp -implicitDefEqProofs [go_sem, hv, w0 hv, hln]
    refine Wp.s ?_
    simp -implicitDefEqProofs [go_sem]
    exact bad 2 (by rw [e0, if_pos (.inr hln)]) (by simp) (by simp)
  rw [if_neg (by simp [hv, hln])] at e0
  simp -implicitDefEqProofs [go_sem, hv, w0 hv, hln]
  refine Wp.s ?_
  simp -implicitDefEqProofs [go_sem]
  refine SWp0.seq (SWp.s0 (Wp.s ?_))
  simp -implicitDefEqProofs [go_sem]
  refine CC.mono (load_cc _ _ s c d hv hl hp) ?_
  rintro _ _ _ ⟨rfl, rfl, rfl⟩
  simp -implicitDefEqProofs [go_sem, hdV]
  refine SWp0.seq (SWp.s0 (SWp.seq (Wp.s ?_)))
  by_cases h1 : (headJ s c d).2.2 = 0
  case neg =>
    simp -implicitDefEqProofs [go_sem, h1]
    refine Wp.s ?_
    simp -implicitDefEqProofs [go_sem]
    exact bad _ (by rw [e0, if_pos h1]) (by simp) (by simp)
  have hho := headJ_ok h1
  rw [if_neg (by simp [h1])] at e0
  simp -implicitDefEqProofs [go_sem, h1]
  refine Wp.s ?_
  simp -implicitDefEqProofs [go_sem]
  generalize (headJ s c d).1 = hd at hho e0 ⊢
  generalize (headJ s c d).2.1 = fi at hho e0 ⊢
  refine SWp0.seq (SWp.s0 (SWp.drawnT [] [11] (.s 0 .pl <| .s 1 .pl <| .s 3 .pl <| .c 2 <| .c 4 <| .s 5 .pl <| .c 6 <| .s 7 .pl <| .s 8 .pl <| .s 9 .pl <| .s 10 .pl <| .s 11 .st <| .s 12 .pl <| .n) (by kernel_rfl) (by kernel_rfl) ?_))
  simp -implicitDefEqProofs [go_sem]
  refine ⟨_, fun H V => sector_cc H V s c 0 hv (by decide) (by decide), ?_⟩
  simp -implicitDefEqProofs [go_sem]
  refine ⟨_, fun H V => length_cc H V s c hv, ?_⟩
  simp -implicitDefEqProofs [go_sem]
  refine ⟨_, fun H V => sRead_cc H V d ⟨s + 16, c - 16⟩ hl, ?_⟩
  simp -implicitDefEqProofs [go_sem]
  refine SWp0.seq (SWp.s0 (SWp.seq (Wp.s ?_)))
  by_cases h2 : (readD d (s + 16) (c - 16)).2 = 0
  case neg =>
    simp -implicitDefEqProofs [go_sem, h2]
    refine Wp.s ?_
    simp -implicitDefEqProofs [go_sem]
    exact bad _ (by rw [e0, if_pos h2]) (by simp) (by simp)
  rw [if_neg (by simp [h2])] at e0
  simp -implicitDefEqProofs [go_sem, h2]
  refine Wp.s ?_
  simp -implicitDefEqProofs [go_sem]
  obtain ⟨n, hnn⟩ : ∃ n : Nat, c - 16 = (n : Int) := ⟨(c - 16).toNat, by omega⟩
  have hct : (readD d (s + 16) (c - 16)).1.length = n := readD_n h2 hnn
  generalize (readD d (s + 16) (c - 16)).1 = ct at hct e0 ⊢
  rw [show (c - 16).toNat = n by omega] at e0
  dsimp only at e0
  refine SWp0.seq (SWp.s0 (Wp.s ?_))
  simp -implicitDefEqProofs [go_sem]
  refine SWp0.ghost (Sh.trim (T' := [(2, .ptr H.length 0), (3, .ptr (H.length + 1) 0), (4, .ptr (H.length + 2) 0), (9, .ptr (H.length + 3) 0), (10, iv hd), (11, iv fi), (13, .ptr (H.length + 4) 0), (14, .ptr (H.length + 5) 0)]) (L := [some (dkC d), some [iv s, iv c], some zjC, some [iv s, iv c], some [secsV ct], some [.v (.slice none 0 0)]]) (V' := V) (by simp [go_sem]) (by simp [go_sem]) hokH (by simp [go_sem]) (Nat.le_refl _) (by simp) (by simp)) ?_
  refine SWp0.join (α := CV × List Nat) (fun x => ([(2, .ptr H.length 0), (3, .ptr (H.length + 1) 0), (4, .ptr (H.length + 2) 0), (9, .ptr (H.length + 3) 0), (10, iv hd), (11, iv fi), (13, .ptr (H.length + 4) 0), (14, .ptr (H.length + 5) 0)], H ++ [some (dkC d), some [iv s, iv c], some zjC, some [iv s, iv c], some [secsV ct], some [x.1]], x.2))
    (fun x => ApS V.length (turnM hd n ct n) x.1 x.2 ∧ V.length ≤ x.2.length ∧ x.2.take V.length = V) ?_ ?_
  · refine SWp0.seq (SWp.s0 (SWp.drawnT [] [] (.s 0 .pl <| .s 1 .pl <| .s 2 .pl <| .s 3 .pl <| .s 4 .pl <| .n) (by kernel_rfl) (by kernel_rfl) ?_))
    simp -implicitDefEqProofs [go_sem]
    refine CC.mono (length_cc _ _ _ _ hv) ?_
    rintro _ _ _ ⟨rfl, rfl, rfl⟩
    simp -implicitDefEqProofs [go_sem, hnn]
    refine CC.mono (from_cc _ _ _ _ _ _) ?_
    rintro _ _ _ ⟨rfl, rfl, rfl⟩
    simp -implicitDefEqProofs [go_sem]
    refine SWp0.block (SWp0.range [(13, .ptr (H.length + 4) 0), (14, .ptr (H.length + 5) 0), (2, .ptr H.length 0), (3, .ptr (H.length + 1) 0), (4, .ptr (H.length + 2) 0), (9, .ptr (H.length + 3) 0), (10, iv hd), (11, iv fi)] rfl (by simp [go_sem]) ?_)
    simp -implicitDefEqProofs [go_sem]
    generalize hbd : Code.block 1 _ = bd
    generalize has : Code.region 15 _ _ = asg
    obtain ⟨TT, hTT⟩ : ∃ TT : Tm, TT = [(13, .ptr (H.length + 4) 0), (14, .ptr (H.length + 5) 0), (2, .ptr H.length 0), (3, .ptr (H.length + 1) 0), (4, .ptr (H.length + 2) 0), (9, .ptr (H.length + 3) 0), (10, iv hd), (11, iv fi)] := ⟨_, rfl⟩
    rw [← hTT]
    refine CC.mono (from1_cc _ V _ _ _ _ s c hd n hv hho.1 (by omega) (by omega) (fun i G V' => ∃ cv, ApS V.length (turnM hd n ct i) cv V' ∧ V.length ≤ V'.length ∧ V'.take V.length = V ∧ G = HO H d s c ct cv (some [iv s, iv c]) (some [iv hd]) (some [iv n]) (some [lpc 142 #[77] asg bd TT .ready none]))
      ⟨.v (.slice none 0 0), .inl ⟨rfl, rfl⟩, Nat.le_refl _, by simp, rfl⟩ ?_ ?_) ?_
    · rintro i _ V' ⟨cv, _, _, _, rfl⟩
      exact ⟨hget _ _ 8, hget _ _ 7, hget _ _ 6⟩
    · rintro i hi _ V' ⟨cv, ha, hv1, hv2, rfl⟩
      refine YC.of_round (n := 142) (ps := #[77]) (bd := bd) (T := TT) (hget _ _ 9) rfl (by decide) ?_
      subst hbd has
      rw [hnn]
      have hq1 := Int.emod_nonneg (hd + (i : Int)) (show (n : Int) ≠ 0 by omega)
      have hq2 := Int.emod_lt_of_pos (hd + (i : Int)) (show 0 < (n : Int) by omega)
      have hmx := turnM_succ hd n ct i
      rw [hmx]
      have hln := turnM_len hd n ct i
      generalize turnM hd n ct i = M at ha hln ⊢
      obtain ⟨q, hqq⟩ : ∃ q : Nat, (hd + (i : Int)) % (n : Int) = (q : Int) := ⟨((hd + (i : Int)) % (n : Int)).toNat, by omega⟩
      rw [hqq] at hq1 hq2 ⊢
      rw [Int.toNat_natCast]
      have hqc : q < ct.length := by omega
      have hgd : ct.getD q sec0 = ct[q] := by rw [List.getD_eq_getElem?_getD, List.getElem?_eq_getElem hqc]; rfl
      rw [hgd]
      subst hTT
      refine Wp.s ?_
      simp -implicitDefEqProofs [go_sem, tps]
      refine SWp.block ?_
      generalize hlp : lpc 142 #[77] _ _ _ LoopState.busy none = lp
      generalize hqqq : RQ 142 #[77] _ _ _ _ _ = QQ
      refine SWp.drawnT [] [7] (.s 0 .pl <| .s 1 .pl <| .s 2 .pl <| .s 3 .pl <| .s 4 .pl <| .s 5 .pl <| .s 6 .pl <| .s 7 .st <| .n) (by kernel_rfl) (by kernel_rfl) ?_
      rcases ha with ⟨rfl, he⟩ | ⟨k, v, rfl, hv, hk⟩
      · simp -implicitDefEqProofs [go_sem, hqc]
        rw [← hqqq, ← hlp]
        refine ⟨hget _ _ 9, rfl, .sl (.own V'.length 0) 8 [secC ct[q]], .inr ⟨V'.length, 0, ?_, by simp, hv1⟩, by simp; omega, ?_, ?_⟩
        · rw [he]; rfl
        · rw [List.take_append_of_le_length hv1]; exact hv2
        · simp
      · simp -implicitDefEqProofs [go_sem, hqc, hv]
        rw [← hqqq, ← hlp]
        have hkv := (List.getElem?_eq_some_iff.1 hv).1
        refine ⟨by omega, hget _ _ 9, rfl, .sl (.own k (v + 1)) 8 (List.map secC M ++ [secC ct[q]]), .inr ⟨k, v + 1, ?_, by rw [List.getElem?_set_self hkv], hk⟩, by simpa using hv1, ?_, ?_⟩
        · rw [List.map_append]; rfl
        · rw [List.take_set_of_le hk]; exact hv2
        · simp
    · rintro _ _ V' ⟨cv, ha, hv1, hv2, rfl⟩
      refine .inl ⟨hget _ _ 9, ?_⟩
      subst hTT
      refine ⟨cv, V', ⟨ha, hv1, hv2⟩, ?_⟩
      exact Sh.trim (L := [some (dkC d), some [iv s, iv c], some zjC, some [iv s, iv c], some [secsV ct], some [cv]]) (by simp [go_sem]) (by simp [go_sem]) hokH (by simp [go_sem, ha.ok]) hv1 (by simp) (List.take_of_length_le (Nat.le_refl _))
  rintro ⟨cv, V'⟩ ⟨h3, h4, h5⟩
  dsimp only
  refine SWp.s0 ?_
  refine SWp.seq (Wp.s ?_)
  simp -implicitDefEqProofs [go_sem]
  refine CC.le (.cons h3.le (.cons (.refl _) .nil)) ?_
  have htl := turnM_len hd n ct n
  generalize turnM hd n ct n = l at htl h3 e0 ⊢
  refine CC.mono (Scan_cc _ _ l fi (by omega) (by omega) (by omega)) ?_
  rintro _ _ _ ⟨rfl, rfl, rfl⟩
  simp -implicitDefEqProofs [go_sem, scV]
  have hR : recsO fi l = (scanA l fi).1.take (min (scanA l fi).1.length (1073741824 - fi).toNat) := rfl
  have hsl : (scanA l fi).1.length ≤ l.length := scanX_len _ _ _
  generalize (scanA l fi).1 = rs0 at hR hsl ⊢
  generalize (scanA l fi).2 = na
  have w3 : IntKind.i64.wrap (1073741824 - fi) = 1073741824 - fi := IntWalk.i64_in _ ⟨by omega, by omega⟩
  obtain ⟨m, hm⟩ : ∃ m, m = min rs0.length (1073741824 - fi).toNat := ⟨_, rfl⟩
  have hmi : min (rs0.length : Int) (1073741824 - fi) = (m : Int) := by omega
  have hml : m ≤ rs0.length := by omega
  refine SWp.seq (Wp.s ?_)
  simp -implicitDefEqProofs [go_sem, w3, hmi, hml]
  refine SWp.seq (Wp.s ?_)
  simp -implicitDefEqProofs [go_sem]
  have eT : List.take m (List.map rcC rs0) = (rs0.take m).map rcC := (List.map_take ..).symm
  rw [eT]
  rw [← hm] at hR
  have hrl : (rs0.take m).length ≤ 100000 := by rw [List.length_take]; omega
  generalize rs0.take m = rs at hR hrl ⊢
  rw [hR] at e0
  have hA5 : ∀ W : List Nat, V'.length ≤ W.length → okV (H.length + 7) W.length cv := fun W hW => okV_mono (Nat.le_refl _) hW h3.ok
  refine SWp.join (α := CV × List Nat) (fun x => ([(4, .ptr (H.length + 2) 0), (13, .ptr (H.length + 4) 0), (16, .sl .sh 3 (rs.map rcC)), (18, .ptr (H.length + 6) 0)], H ++ [some (dkC d), some [iv s, iv c], some zjC, some [iv s, iv c], some [secsV ct], some [cv], some [iv s, iv c, iv hd, iv (tailX n hd (szs rs)), iv fi, x.1]], x.2)) (fun x => ApZ V' (szs rs) x.1 x.2) ?_ ?_
  · refine SWp.seq (Wp.s ?_)
    simp -implicitDefEqProofs [go_sem]
    refine SWp.block ?_
    refine SWp.loop (α := Nat × CV × List Nat) (fun x => ([(4, .ptr (H.length + 2) 0), (9, .ptr (H.length + 3) 0), (13, .ptr (H.length + 4) 0), (16, .sl .sh 3 (rs.map rcC)), (18, .ptr (H.length + 6) 0), (103, .sl .sh 3 (rs.map rcC)), (104, ci rs.length), (105, ci x.1)], H ++ [some (dkC d), some [iv s, iv c], some zjC, some [iv s, iv c], some [secsV ct], some [cv], some [iv s, iv c, iv hd, iv (tailX n hd (szs (rs.take x.1))), iv fi, x.2.1]], x.2.2)) (fun x => x.1 ≤ rs.length ∧ ApZ V' (szs (rs.take x.1)) x.2.1 x.2.2) (fun x => rs.length - x.1) (0, .v (.slice none 0 0), V') ⟨Nat.zero_le _, .inl ⟨rfl, rfl, rfl⟩⟩ (Sh.forget (by simp [go_sem]) (by simp [tailX, szs]) rfl) ?_
    rintro ⟨i, cz, W⟩ ⟨hi, hz⟩
    dsimp only at hi hz ⊢
    refine SWp.seq (Wp.s ?_)
    simp -implicitDefEqProofs [go_sem]
    refine SWp.seq (Wp.s ?_)
    simp -implicitDefEqProofs [go_sem]
    refine ⟨fun h => ?_, fun h => ?_⟩
    case refine_2 =>
      rw [List.take_of_length_le h] at hz ⊢
      exact ⟨cz, W, hz, Sh.forget (by simp [go_sem]) rfl rfl⟩
    have htx := tailX_in (n := n) (h := hd) (by omega) (by omega) (by omega) (szs (rs.take i))
    have hsn := szs_snoc rs i h
    have hsx := szR_in (rs[i].pay.length : Int)
    have htn := tailX_snoc n hd (szs (rs.take i)) (szR (rs[i].pay.length : Int))
    generalize tailX n hd (szs (rs.take i)) = tl at htx htn ⊢
    refine SWp.seq (SWp.block (SWp.seq (Wp.s ?_)))
    simp -implicitDefEqProofs [go_sem, h]
    refine SWp.seq (Wp.s ?_)
    simp -implicitDefEqProofs [go_sem]
    refine CC.mono (RSize_cc _ _ _) ?_
    rintro _ _ _ ⟨rfl, rfl, rfl⟩
    simp -implicitDefEqProofs [go_sem]
    generalize szR (rs[i].pay.length : Int) = sz at hsn hsx htn ⊢
    have w5 : IntKind.i64.wrap (tl + sz) = tl + sz := IntWalk.i64_in _ ⟨by omega, by omega⟩
    have t5 := Int.tmod_eq_emod_of_nonneg (b := (n : Int)) (show 0 ≤ tl + sz by omega)
    have hz0 : ¬ (n : Int) = 0 := by omega
    have hst : tailX (n : Int) hd (szs (rs.take (i + 1))) = (tl + sz) % (n : Int) := by rw [hsn, htn]
    rcases hz with ⟨he, rfl, rfl⟩ | ⟨v, rfl, rfl⟩
    · refine SWp.seq (Wp.s ?_)
      simp -implicitDefEqProofs [go_sem]
      refine SWp.drawnT [] [8] (.s 0 .pl <| .s 1 .pl <| .s 2 .pl <| .s 3 .pl <| .s 4 .pl <| .s 5 .pl <| .s 6 .pl <| .s 7 .pl <| .s 8 .st <| .n) (by kernel_rfl) (by kernel_rfl) ?_
      simp -implicitDefEqProofs [go_sem, w5]
      refine CC.mono (length_cc _ _ _ _ hv) ?_
      rintro _ _ _ ⟨rfl, rfl, rfl⟩
      simp -implicitDefEqProofs [go_sem, hnn, t5, hz0]
      refine ⟨by omega, Wp.s ?_⟩
      simp -implicitDefEqProofs [go_sem, wrap_succ (show i ≤ 1000000000 by omega)]
      refine ⟨i + 1, .sl (.own W.length 0) 1 [ic sz], W ++ [0], ⟨by omega, .inr ⟨0, by rw [hsn, he]; rfl, rfl⟩⟩, by omega, ?_⟩
      rw [hst]
      exact Sh.trim (L := [some (dkC d), some [iv s, iv c], some zjC, some [iv s, iv c], some [secsV ct], some [cv], some [iv s, iv c, iv hd, iv ((tl + sz) % (n : Int)), iv fi, .sl (.own W.length 0) 1 [ic sz]]]) (by simp [go_sem]) (by simp [go_sem]) hokH (by simp [go_sem, hA5 (W ++ [0]) (by simp), okL, okV, ic]; exact okV_mono (Nat.le_refl _) (by simp) h3.ok) (by simp; simp at h4; omega) (by simp [ic]) (by simp)
    · refine SWp.seq (Wp.s ?_)
      simp -implicitDefEqProofs [go_sem]
      refine ⟨by simp [szs]; omega, ?_⟩
      refine SWp.drawnT [] [8] (.s 0 .pl <| .s 1 .pl <| .s 2 .pl <| .s 3 .pl <| .s 4 .pl <| .s 5 .pl <| .s 6 .pl <| .s 7 .pl <| .s 8 .st <| .n) (by kernel_rfl) (by kernel_rfl) ?_
      simp -implicitDefEqProofs [go_sem, w5]
      refine CC.mono (length_cc _ _ _ _ hv) ?_
      rintro _ _ _ ⟨rfl, rfl, rfl⟩
      simp -implicitDefEqProofs [go_sem, hnn, t5, hz0]
      refine ⟨by omega, Wp.s ?_⟩
      simp -implicitDefEqProofs [go_sem, wrap_succ (show i ≤ 1000000000 by omega)]
      refine ⟨i + 1, .sl (.own V'.length (v + 1)) 1 (List.map ic (szs (rs.take i)) ++ [ic sz]), V' ++ [v + 1], ⟨by omega, .inr ⟨v + 1, by rw [hsn, List.map_append]; rfl, rfl⟩⟩, by omega, ?_⟩
      rw [hst]
      exact Sh.trim (L := [some (dkC d), some [iv s, iv c], some zjC, some [iv s, iv c], some [secsV ct], some [cv], some [iv s, iv c, iv hd, iv ((tl + sz) % (n : Int)), iv fi, .sl (.own V'.length (v + 1)) 1 (List.map ic (szs (rs.take i)) ++ [ic sz])]]) (by simp [go_sem]) (by simp [go_sem]) hokH (by
        rw [show List.map ic (szs (rs.take i)) ++ [ic sz] = (szs (rs.take i) ++ [sz]).map ic by rw [List.map_append]; rfl]
        simp [go_sem, okE_ints, -List.map_append]; exact okV_mono (Nat.le_refl _) (by simp) h3.ok) (by simp; simp at h4; omega) (by simp [ic]) (by simp)
  rintro ⟨cz, W⟩ hz
  dsimp only at hz ⊢
  refine SWp.seq (Wp.s ?_)
  simp -implicitDefEqProofs [go_sem]
  obtain ⟨J, hJd⟩ : ∃ J, J = jO s c hd fi rs := ⟨_, rfl⟩
  have hJ : [iv s, iv c, iv hd, iv (tailX n hd (szs rs)), iv fi, .sl .sh 1 ((szs rs).map ic)] = jrC J := by rw [hJd, jO, hnn]; rfl
  have hJs : J.sizes.length ≤ 1000000000 := by rw [hJd, jO]; simp [szs]; omega
  have hJ1 : J.start = s := by rw [hJd]; rfl
  have hJ2 : J.count = c := by rw [hJd]; rfl
  rw [← hJd] at e0
  have hzl := hz.len
  refine CC.le (ys := [.agg (jrC J)]) (.cons (by rw [← hJ]; exact .agg (.cons (.refl _) (.cons (.refl _) (.cons (.refl _) (.cons (.refl _) (.cons (.refl _) (.cons hz.le .nil))))))) .nil) ?_
  refine CC.mono (examine_cc _ _ J hJs) ?_
  rintro _ _ _ ⟨u, rfl, rfl, rfl, hu⟩
  simp -implicitDefEqProofs [go_sem]
  refine SWp.seq (SWp.seq (Wp.s ?_))
  have hV : W.take V.length = V := by
    have h6 : V'.take V.length = V := h5
    rw [← h6, ← hzl.2, List.take_take, Nat.min_eq_left (by simpa using h4)]
    simp
  by_cases hck : chkJ J = true
  case neg =>
    rw [if_pos (by simpa using hck)] at e0
    simp -implicitDefEqProofs [go_sem, hck]
    refine Wp.s ?_
    simp -implicitDefEqProofs [go_sem]
    exact bad 3 e0 (by simp) hV
  rw [if_neg (by simp [hck])] at e0
  obtain rfl := hu hck
  simp -implicitDefEqProofs [go_sem, hck]
  refine Wp.s ?_
  simp -implicitDefEqProofs [go_sem]
  refine SWp.seq (SWp.drawnT [H.length + 7, H.length + 4] [6] (.s 0 .pl <| .s 2 .pl <| .s 3 .ld <| .s 4 .ld <| .s 1 .pl <| .s 5 .pl <| .s 6 .st <| .s 7 .pl <| .s 8 .pl <| .s 9 .pl <| .n) (by kernel_rfl) (by kernel_rfl) ?_)
  simp -implicitDefEqProofs [go_sem]
  refine CC.mono (own_cc _ _ J _ hJs) ?_
  rintro _ _ _ ⟨v, rfl, rfl, rfl⟩
  simp -implicitDefEqProofs [go_sem]
  refine CC.mono (remove_cc _ _ J ct hck (by rw [hct, hJ2]; omega)) ?_
  rintro _ _ _ ⟨rfl, rfl, rfl⟩
  simp -implicitDefEqProofs [go_sem]
  refine ⟨Kp.keep fun b hb => ?_, Wp.s ?_⟩
  · rcases List.mem_cons.1 hb with rfl | hb
    · rw [hget, hget]; rfl
    · obtain rfl : b = H.length + 4 := by simpa using hb
      rw [hget, hget]; rfl
  simp -implicitDefEqProofs [go_sem]
  rw [e0]
  refine Fin.pu (.tup (.cons (.agg (.cons (.refl _) (.cons (.refl _) (.cons (.refl _) (.cons (.refl _) (.cons (.refl _) (.cons (.sh _ _ _) .nil))))))) (.cons (.refl _) (.cons (.refl _) (.cons (.refl _) .nil))))) (okV_opV _ _ _) hokH (by simp) ?_
  rw [List.take_append_of_le_length (by have := hzl.1; simp at h4; omega)]
  exact hV
end Go.Proofs.YtbnkggbpocaaiaaGreatDoor
namespace Go.Proofs.YtbnkggbpocaaiaaGreatDoor
open Go.Proofs
end Go.Proofs.YtbnkggbpocaaiaaGreatDoor
namespace Go.Proofs.YtbnkggbpocaaiaaGreatDoor
open Go.Proofs
@[go_sem, simp] theorem dkC_drop2 (d : Dk) : (dkC d).drop 2 = [] := rfl
@[go_sem, simp] theorem dkC_take2 (d : Dk) : (dkC d).take 2 = dkC d := rfl
end Go.Proofs.YtbnkggbpocaaiaaGreatDoor
namespace Go.Proofs.YtbnkggbpocaaiaaGreatDoor
open Go.Proofs
theorem chunks_map1 {α : Type} (f : α → CV) : ∀ (n : Nat) (l : List α), n ≤ l.length → chunks 1 n (l.map f) = (l.take n).map fun b => [f b]
  | 0, l, _ => by simp [chunks]
  | n + 1, [], h => by simp at h
  | n + 1, a :: l, h => by
    rw [chunks, List.take_succ_cons, List.map_cons, List.map_cons]
    show [f a] :: chunks 1 n (l.map f) = _
    rw [chunks_map1 f n l (by simpa using h)]
theorem secC_cut (s : Sec) (k n : Nat) (h : k + n ≤ 8) : chunks 1 n ((secC s).drop k) = bs ((s.val.drop k).take n) := by
  have hl : s.val.length = 8 := s.2
  unfold secC
  rw [← List.map_drop, chunks_map1 _ _ _ (by rw [List.length_drop]; omega)]; rfl
theorem leV_drop (b : List UInt8) (k : Nat) (h : k < b.length) : leV (b.drop k) = b[k].toNat + 256 * leV (b.drop (k + 1)) := by
  rw [List.drop_eq_getElem_cons h, leV]
theorem get_cc (H : Hp) (V : List Nat) (tk : Tk) (b : List UInt8) (hl : b.length ≤ 6) : CC Tryz.prog 214 [.sl tk 1 (bs b)] H V (Pu (ci (leV b)) H V) := by
  refine CC.of_swp Tryz.func214 rfl (by kernel_rfl) (by rw [Tryz.ntmps214]; exact len_le _ _ rfl) fun hok hokH => ?_
  clear hok
  have w0 : IntKind.i64.wrap ((b.length : Int) - 1) = (b.length : Int) - 1 := IntWalk.i64_in _ ⟨by omega, by omega⟩
  refine SWp.seq (Wp.s ?_)
  simp -implicitDefEqProofs [go_sem, args0]
  refine SWp.seq (Wp.s ?_)
  simp -implicitDefEqProofs [go_sem]
  refine SWp.join (α := Unit) (fun _ => ([(3, ci (leV b))], H, V)) (fun _ => True) ?_ ?_
  · refine SWp.seq (Wp.s ?_)
    simp -implicitDefEqProofs [go_sem, w0]
    refine SWp.block ?_
    refine SWp.loop (α := Nat) (fun k => ([(0, .sl tk 1 (bs b)), (3, ci (leV (b.drop k))), (4, ci ((k : Int) - 1))], H, V)) (fun k => k ≤ b.length) (fun k => k) b.length (Nat.le_refl _) (Sh.forget (by simp [go_sem, leV]) rfl rfl) ?_
    intro k hk
    dsimp only
    refine SWp.seq (SWp.seq (Wp.s ?_))
    cases k with
    | zero =>
      simp -implicitDefEqProofs [go_sem]
      refine Wp.s ?_
      simp -implicitDefEqProofs [go_sem]
      exact Sh.forget (by simp [go_sem]) rfl rfl
    | succ k =>
      have hk' : k < b.length := by omega
      have hb := b[k].toNat_lt
      have hp : 256 ^ (b.length - (k + 1)) ≤ 256 ^ 5 := Nat.pow_le_pow_right (by decide) (by omega)
      have hv := leV_lt (b.drop (k + 1))
      rw [List.length_drop] at hv
      have w1 : IntKind.i64.wrap (256 * (leV (b.drop (k + 1)) : Int)) = 256 * (leV (b.drop (k + 1)) : Int) := IntWalk.i64_in _ ⟨by omega, by omega⟩
      have w2 : IntKind.i64.wrap (b[k].toNat : Int) = (b[k].toNat : Int) := IntWalk.i64_in _ ⟨by omega, by omega⟩
      have w3 : IntKind.i64.wrap (256 * (leV (b.drop (k + 1)) : Int) + (b[k].toNat : Int)) = 256 * (leV (b.drop (k + 1)) : Int) + (b[k].toNat : Int) := IntWalk.i64_in _ ⟨by omega, by omega⟩
      have w4 : IntKind.i64.wrap ((k : Int) - 1) = (k : Int) - 1 := IntWalk.i64_in _ ⟨by omega, by omega⟩
      have e1 : ((k + 1 : Nat) : Int) - 1 = (k : Int) := by omega
      rw [e1]
      simp -implicitDefEqProofs [go_sem, show (0 : Int) ≤ (k : Int) by omega]
      refine Wp.s ?_
      simp -implicitDefEqProofs [go_sem]
      refine SWp.seq (SWp.block (Wp.s ?_))
      simp -implicitDefEqProofs [go_sem, hk', w1, w2, w3]
      refine Wp.s ?_
      simp -implicitDefEqProofs [go_sem, w4]
      refine ⟨k, by omega, by omega, Sh.forget ?_ rfl rfl⟩
      simp [go_sem, w4, leV_drop b k hk']
      exact .int (by omega)
  · rintro _ -
    dsimp only
    refine Wp.s ?_
    simp -implicitDefEqProofs [go_sem]
    exact Fin.int rfl hokH (by simp) (by simp)
theorem gn_leV (s : Sec) : leV (s.val.take 4) = gn s := by
  obtain ⟨l, hl⟩ := s
  match l, hl with
  | [a, b, c, d, e, f, g, h], _ => simp [gn, gi, sb, leV]; omega
theorem lenR_leV (s : Sec) : leV ((s.val.drop 5).take 2) = lenR s := by
  obtain ⟨l, hl⟩ := s
  match l, hl with
  | [a, b, c, d, e, f, g, h], _ => simp [lenR, leV]
theorem refNum_cc (H : Hp) (V : List Nat) (s : Sec) : CC Tryz.prog 213 [.agg (secC s)] H V (Pu (ci (gn s)) H V) := by
  refine CC.of_swp Tryz.func213 rfl (by kernel_rfl) (by rw [Tryz.ntmps213]; exact len_le _ _ rfl) fun hok hokH => ?_
  clear hok
  have hl : s.val.length = 8 := s.2
  have e1 : chunks 1 4 ((secC s).drop 0) = bs (s.val.take 4) := by rw [secC_cut s 0 4 (by decide), List.drop_zero]
  refine SWp.seq (Wp.s ?_)
  simp -implicitDefEqProofs [go_sem, args0]
  refine Wp.s ?_
  simp -implicitDefEqProofs [go_sem]
  refine CC.let_go [.sl .sh 1 (bs (s.val.take 4))] H.length (secC s) (by simp) (.cons ?_ .nil) ?_
  · rw [← e1]; exact .bsl 0 4 1 (by simp)
  refine CC.mono (get_cc _ _ .sh (s.val.take 4) (by rw [List.length_take]; omega)) ?_
  rintro _ _ _ ⟨rfl, rfl, rfl⟩
  rw [gn_leV]
  simp -implicitDefEqProofs [go_sem]
  exact Fin.int rfl hokH (by simp) (by simp)
end Go.Proofs.YtbnkggbpocaaiaaGreatDoor
namespace Go.Proofs.YtbnkggbpocaaiaaGreatDoor
open Go.Proofs
theorem all_take {α : Type} {p : α → Bool} {l : List α} {i : Nat} (h : i < l.length) (h1 : (l.take i).all p = true) (h2 : p l[i] = true) : (l.take (i + 1)).all p = true := by
  rw [List.take_succ_eq_append_getElem h, List.all_append, h1]; simp [h2]
theorem leV_1 : ∀ (st : List UInt8) (h : 0 < st.length), leV (st.take 1) = st[0].toNat
  | b :: r, _ => by simp [leV]
theorem szN_R (s : Sec) (h : lenR s ≤ 4096) : szR (lenR s : Int) = ((szN s : Nat) : Int) := by
  rw [szR, if_neg (by omega), szN]; omega
theorem dataS_s {l : List Sec} {i : Nat} (h : i < l.length) : dataS (l.take (i + 1)) = dataS (l.take i) ++ l[i].val.drop 4 := by
  rw [List.take_succ_eq_append_getElem h, dataS, List.flatMap_append]; simp [dataS]
def zerU (st : List UInt8) (k j : Nat) : Bool := ((st.drop k).take j).any nzB
theorem zerU_s {st : List UInt8} {k j : Nat} (h : k + j < st.length) (h1 : zerU st k j = false) (h2 : st[k + j] = 0) : zerU st k (j + 1) = false := by
  have hl : j < (st.drop k).length := by rw [List.length_drop]; omega
  exact any_take hl h1 (by rw [List.getElem_drop, h2]; rfl)
theorem zerU_at {st : List UInt8} {k j : Nat} (h : k + j < st.length) (h2 : st[k + j] ≠ 0) : (st.drop k).any nzB = true := by
  have hl : j < (st.drop k).length := by rw [List.length_drop]; omega
  exact any_at hl (by rw [List.getElem_drop]; simpa [nzB] using h2)
theorem zerU_all {st : List UInt8} {k j : Nat} (h : st.length ≤ k + j) : zerU st k j = (st.drop k).any nzB := by
  rw [zerU, List.take_of_length_le (by rw [List.length_drop]; omega)]
def alU (s : Sec) (l : List Sec) (i : Nat) : Bool := (l.take i).all (fun x => gn x == gn s)
theorem refDecode_cc (H : Hp) (V : List Nat) (tk : Tk) (l : List Sec) (hl : l.length ≤ 100000) : CC Tryz.prog 190 [.sl tk 8 (l.map secC)] H V (Pu (dcV (decX l)) H V) := by
  refine CC.of_swp Tryz.func190 rfl (by kernel_rfl) (by rw [Tryz.ntmps190]; exact len_le _ _ rfl) fun hok hokH => ?_
  clear hok
  have stop : ∀ {e : Nat} {H' : Hp} {V' : List Nat}, decX l = .error e → H'.take H.length = H → V'.take V.length = V → Fin H.length V.length (Pu (dcV (decX l)) H V) (.tup [.agg rcZ, ci 0, er e]) H' V' := fun h1 h2 h3 => by
    rw [h1]; exact Fin.pu (.tup (.cons rcZ_le (.cons (.refl _) (.cons (.refl _) .nil)))) (okV_dcV _ _ (.error _)) hokH h2 h3
  cases l with
  | nil =>
    refine SWp.seq (Wp.s ?_)
    simp -implicitDefEqProofs [go_sem, args0]
    refine SWp.seq (SWp.seq (Wp.s ?_))
    simp -implicitDefEqProofs [go_sem]
    refine Wp.s ?_
    simp -implicitDefEqProofs [go_sem]
    exact stop rfl (by simp) (by simp)
  | cons s l' =>
  obtain ⟨l, hll⟩ : ∃ l, l = s :: l' := ⟨_, rfl⟩
  have h0 : 0 < l.length := by rw [hll]; simp
  have hs0 : l[0] = s := by simp [hll]
  have hd0 : l.getD 0 sec0 = s := by simp [hll]
  have dE : ∀ {e : Nat}, begE (s :: l') = .error e → decX l = .error e := fun h => by rw [decX, hll, h]
  rw [← hll] at stop hl ⊢
  have h0' : ¬ (l.length : Int) = 0 := by omega
  refine SWp.seq (Wp.s ?_)
  simp -implicitDefEqProofs [go_sem, args0]
  refine SWp.seq (SWp.seq (Wp.s ?_))
  simp -implicitDefEqProofs [go_sem, h0', show ¬ l.length = 0 by omega, show l ≠ [] by rw [hll]; simp]
  refine Wp.s ?_
  simp -implicitDefEqProofs [go_sem]
  refine SWp.seq (Wp.s ?_)
  simp -implicitDefEqProofs [go_sem, h0, hs0]
  refine CC.mono (refNum_cc _ _ s) ?_
  rintro _ _ _ ⟨rfl, rfl, rfl⟩
  simp -implicitDefEqProofs [go_sem]
  refine SWp.seq (SWp.seq (Wp.s ?_))
  by_cases g0 : gn s = 0
  · simp -implicitDefEqProofs [go_sem, g0]
    refine Wp.s ?_
    simp -implicitDefEqProofs [go_sem]
    exact stop (dE (begE_7 g0)) (by simp) (by simp)
  simp -implicitDefEqProofs [go_sem, g0]
  refine Wp.s ?_
  simp -implicitDefEqProofs [go_sem]
  refine SWp.seq (Wp.s ?_)
  simp -implicitDefEqProofs [go_sem, h0, hs0]
  have e5 : chunks 1 2 ((secC s).drop 5) = bs ((s.val.drop 5).take 2) := secC_cut s 5 2 (by decide)
  have hsl : s.val.length = 8 := s.2
  rw [e5]
  refine CC.mono (get_cc _ _ .sh ((s.val.drop 5).take 2) (by rw [List.length_take]; omega)) ?_
  rintro _ _ _ ⟨rfl, rfl, rfl⟩
  rw [lenR_leV]
  simp -implicitDefEqProofs [go_sem]
  refine SWp.seq (SWp.seq (Wp.s ?_))
  by_cases g5 : 4096 < lenR s
  · simp -implicitDefEqProofs [go_sem, show (4096 : Int) < (lenR s : Int) by omega]
    refine Wp.s ?_
    simp -implicitDefEqProofs [go_sem]
    exact stop (dE (begE_5 g0 g5)) (by simp) (by simp)
  simp -implicitDefEqProofs [go_sem, show ¬ (4096 : Int) < (lenR s : Int) by omega]
  refine Wp.s ?_
  simp -implicitDefEqProofs [go_sem]
  refine SWp.seq (Wp.s ?_)
  simp -implicitDefEqProofs [go_sem]
  refine CC.mono (refSize_cc _ _ (lenR s : Int)) ?_
  rintro _ _ _ ⟨rfl, rfl, rfl⟩
  rw [szN_R s (by omega)]
  simp -implicitDefEqProofs [go_sem]
  refine SWp.seq (SWp.seq (Wp.s ?_))
  by_cases g10 : l.length < szN s
  · simp -implicitDefEqProofs [go_sem, g10, show (l.length : Int) < (szN s : Int) by omega]
    refine Wp.s ?_
    simp -implicitDefEqProofs [go_sem]
    exact stop (dE (begE_10 g0 g5 (by rw [← hll]; exact g10))) (by simp) (by simp)
  simp -implicitDefEqProofs [go_sem, g10, show ¬ (l.length : Int) < (szN s : Int) by omega]
  refine Wp.s ?_
  simp -implicitDefEqProofs [go_sem]
  obtain ⟨n, hn⟩ : ∃ n, n = szN s := ⟨_, rfl⟩
  have hnl : 2 ≤ n ∧ n ≤ 1026 ∧ 7 + lenR s ≤ 4 * n := by rw [hn, szN]; omega
  rw [← hn] at g10 ⊢
  refine SWp.seq (Wp.s ?_)
  simp -implicitDefEqProofs [go_sem]
  refine SWp.join (α := Unit) (fun _ => ([(2, .ptr H.length 0), (5, ci (gn s)), (6, ci (lenR s)), (7, ci n), (8, .sl (.own V.length n) 1 (bs (dataS (l.take n))))], H ++ [some rcZ], V ++ [n])) (fun _ => alU s l n = true) ?_ ?_
  · refine SWp.seq (Wp.s ?_)
    simp -implicitDefEqProofs [go_sem]
    refine SWp.block ?_
    refine SWp.loop (α := Nat) (fun i => ([(0, .sl .sh 8 (l.map secC)), (2, .ptr H.length 0), (5, ci (gn s)), (6, ci (lenR s)), (7, ci n), (8, .sl (.own V.length i) 1 (bs (dataS (l.take i)))), (9, ci i)], H ++ [some rcZ], V ++ [i])) (fun i => i ≤ n ∧ alU s l i = true) (fun i => n - i) 0 ⟨Nat.zero_le _, by simp [alU]⟩ (Sh.tokT ⟨.le (.sh ..), by simp [go_sem, dataS]⟩ (by simp [rcZ]) rfl) ?_
    rintro i ⟨hi, hp⟩
    dsimp only
    refine SWp.seq (SWp.seq (Wp.s ?_))
    simp -implicitDefEqProofs [go_sem]
    refine Wp.s ?_
    simp -implicitDefEqProofs [go_sem]
    refine ⟨fun h => ?_, fun h => ?_⟩
    case refine_2 =>
      obtain rfl : i = n := by omega
      exact ⟨hp, Sh.forget (by simp [go_sem]) rfl rfl⟩
    have hil : i < l.length := by omega
    refine SWp.seq (SWp.block (SWp.seq (SWp.seq (Wp.s ?_))))
    simp -implicitDefEqProofs [go_sem, hil]
    refine CC.mono (refNum_cc _ _ l[i]) ?_
    rintro _ _ _ ⟨rfl, rfl, rfl⟩
    by_cases q : gn l[i] = gn s
    case neg =>
      have q' : ¬ (gn l[i] : Int) = (gn s : Int) := by omega
      simp -implicitDefEqProofs [go_sem, q, q']
      refine Wp.s ?_
      simp -implicitDefEqProofs [go_sem]
      refine ⟨by decide, ?_⟩
      refine stop (dE (begE_torn g0 g5 (by rw [← hll, ← hn]; exact g10) ?_)) (by simp) (by simp)
      rw [← hll, ← hn, List.all_eq_false]
      exact ⟨l[i], List.mem_take_iff_getElem.2 ⟨i, by omega, rfl⟩, by simpa using q⟩
    have q' : (gn l[i] : Int) = (gn s : Int) := by omega
    simp -implicitDefEqProofs [go_sem, q, q']
    refine Wp.s ?_
    simp -implicitDefEqProofs [go_sem]
    have hdl : (dataS (l.take i)).length = 4 * i := by rw [dataS_len, List.length_take]; omega
    have hil8 : l[i].val.length = 8 := l[i].2
    refine Wp.s ?_
    simp -implicitDefEqProofs [go_sem, hil, secC_drop4, hdl]
    refine ⟨by omega, ?_⟩
    refine Wp.s ?_
    simp -implicitDefEqProofs [go_sem]
    refine ⟨i + 1, ⟨by omega, all_take hil hp (by simpa using q)⟩, by omega, Sh.forget ?_ rfl (by simp)⟩
    simp [go_sem, wrap_succ (show i ≤ 1000000000 by omega), dataS_s hil]
  rintro _ hal
  dsimp only
  have hok : begE (s :: l') = .ok n := by rw [hn]; exact begE_ok g0 g5 (by rw [← hll, ← hn]; exact g10) (by rw [← hll, ← hn]; exact hal)
  have hln : lnS (dataS (l.take n)) = lenR s := by rw [hll]; exact lnS_data s l' n (by omega)
  have hdl : (dataS (l.take n)).length = 4 * n := by rw [dataS_len, List.length_take]; omega
  have dR : ∀ {e : Nat}, recE (dataS (l.take n)) (gn s) = .error e → decX l = .error e := fun h => by rw [decX, hll, hok, ← hll]; dsimp only; rw [hd0, h]
  have dO : ∀ {r : Rcd}, recE (dataS (l.take n)) (gn s) = .ok r → decX l = .ok (r, n) := fun h => by rw [decX, hll, hok, ← hll]; dsimp only; rw [hd0, h]
  obtain ⟨m, hm⟩ : ∃ m, m = lenR s := ⟨_, rfl⟩
  rw [← hm] at hln hnl ⊢
  have hm4 : m ≤ 4096 := by omega
  generalize dataS (l.take n) = st at hln hdl dR dO ⊢
  have w3 : IntKind.i64.wrap (3 + (m : Int)) = 3 + (m : Int) := IntWalk.i64_in _ ⟨by omega, by omega⟩
  have w7 : IntKind.i64.wrap (7 + (m : Int)) = 7 + (m : Int) := IntWalk.i64_in _ ⟨by omega, by omega⟩
  have t3 : (3 + (m : Int)).toNat = 3 + m := by omega
  have t7 : (7 + (m : Int)).toNat = 7 + m := by omega
  have e4 : (st.take (7 + m)).drop (3 + m) = (st.drop (3 + m)).take 4 := by rw [List.drop_take]; congr 1; omega
  refine SWp.seq (SWp.seq (SWp.drawnT [] [] (.s 0 .pl <| .s 1 .pl <| .s 2 .pl <| .s 3 .pl <| .s 4 .pl <| .s 5 .pl <| .s 7 .pl <| .s 8 .pl <| .s 9 .pl <| .s 10 .pl <| .s 6 .pl <| .s 11 .pl <| .s 12 .pl <| .s 13 .pl <| .n) (by kernel_rfl) (by kernel_rfl) ?_))
  simp -implicitDefEqProofs [go_sem, w3, w7, t3, t7, e4, hdl, show 7 + m ≤ 4 * n by omega, show 3 + m ≤ 4 * n by omega]
  refine ⟨by omega, by omega, by omega, ?_⟩
  refine CC.mono (get_cc _ _ .sh ((st.drop (3 + m)).take 4) (by rw [List.length_take]; omega)) ?_
  rintro _ _ _ ⟨rfl, rfl, rfl⟩
  simp -implicitDefEqProofs [go_sem]
  refine CC.mono (refSum_cc _ _ _ (st.take (3 + m)) (by rw [List.length_take]; omega)) ?_
  rintro _ _ _ ⟨rfl, rfl, rfl⟩
  by_cases q9 : leV ((st.drop (3 + m)).take 4) = (crc (st.take (3 + m))).toNat
  case neg =>
    have q9' : ¬ (leV ((st.drop (3 + m)).take 4) : Int) = ((crc (st.take (3 + m))).toNat : Int) := by omega
    simp -implicitDefEqProofs [go_sem, wrap_rn, q9']
    refine Wp.s ?_
    simp -implicitDefEqProofs [go_sem]
    refine ⟨by decide, ?_⟩
    exact stop (dR (recE_9 (by rw [hln]; exact q9))) (by simp) (by simp)
  simp -implicitDefEqProofs [go_sem, wrap_rn, q9]
  refine Wp.s ?_
  simp -implicitDefEqProofs [go_sem]
  have h9 : ¬ leV ((st.drop (3 + lnS st)).take 4) ≠ (crc (st.take (3 + lnS st))).toNat := by rw [hln]; exact fun h => h q9
  refine SWp.join (α := Unit) (fun _ => ([(2, .ptr H.length 0), (5, ci (gn s)), (6, ci m), (7, ci n), (8, .sl (.own V.length n) 1 (bs st))], H ++ [some rcZ], V ++ [n])) (fun _ => zerU st (7 + m) (4 * n) = false) ?_ ?_
  · refine SWp.seq (Wp.s ?_)
    simp -implicitDefEqProofs [go_sem, w7]
    refine SWp.block ?_
    refine SWp.loop (α := Nat) (fun p => ([(2, .ptr H.length 0), (5, ci (gn s)), (6, ci m), (7, ci n), (8, .sl (.own V.length n) 1 (bs st)), (10, ci p)], H ++ [some rcZ], V ++ [n])) (fun p => 7 + m ≤ p ∧ p ≤ 4 * n ∧ zerU st (7 + m) (p - (7 + m)) = false) (fun p => 4 * n - p) (7 + m) ⟨Nat.le_refl _, by omega, by rw [Nat.sub_self]; rfl⟩ (Sh.forget (by simp [go_sem, w7]) rfl rfl) ?_
    rintro p ⟨hp1, hp2, hp3⟩
    dsimp only
    refine SWp.seq (SWp.seq (Wp.s ?_))
    simp -implicitDefEqProofs [go_sem]
    refine Wp.s ?_
    simp -implicitDefEqProofs [go_sem]
    refine ⟨fun h => ?_, fun h => ?_⟩
    case refine_2 =>
      refine ⟨?_, Sh.forget (by simp [go_sem]) rfl rfl⟩
      rw [zerU_all (by omega)] at hp3 ⊢
      exact hp3
    have hps : p < st.length := h
    have ep : 7 + m + (p - (7 + m)) = p := by omega
    have hwr : p < 1000000 := by omega
    refine SWp.seq (SWp.block (SWp.seq (Wp.s ?_)))
    by_cases q0 : st[p] = 0
    · have q0' : (st[p].toNat : Int) = 0 := by rw [q0]; rfl
      simp -implicitDefEqProofs [go_sem, hps, q0, q0']
      refine Wp.s ?_
      simp -implicitDefEqProofs [go_sem]
      refine Wp.s ?_
      simp -implicitDefEqProofs [go_sem]
      refine ⟨p + 1, ⟨by omega, by omega, ?_⟩, by omega, Sh.forget ?_ rfl rfl⟩
      · rw [show p + 1 - (7 + m) = (p - (7 + m)) + 1 by omega]
        exact zerU_s (by omega) hp3 (by simp only [ep]; exact q0)
      · simp [go_sem, wrap_succ (show p ≤ 1000000000 by omega)]
    · have q0' : ¬ st[p].toNat = 0 := fun e => q0 (UInt8.toNat_inj.1 (by rw [e]; rfl))
      simp -implicitDefEqProofs [go_sem, hps, q0, q0']
      refine Wp.s ?_
      simp -implicitDefEqProofs [go_sem]
      refine ⟨by decide, ?_⟩
      exact stop (dR (recE_3 h9 (.inl (by rw [hln]; exact zerU_at (j := p - (7 + m)) (by omega) (by simp only [ep]; exact q0))))) (by simp) (by simp)
  rintro _ hz
  dsimp only
  rw [zerU_all (by omega)] at hz
  have h00 : 0 < st.length := by omega
  have l1 := leV_1 st h00
  refine SWp.seq (SWp.seq (Wp.s ?_))
  by_cases q0 : st[0] = 0
  · have q0' : (st[0].toNat : Int) = 0 := by rw [q0]; rfl
    simp -implicitDefEqProofs [go_sem, h00, q0, q0']
    refine Wp.s ?_
    simp -implicitDefEqProofs [go_sem]
    refine ⟨by decide, ?_⟩
    exact stop (dR (recE_3 h9 (.inr (by rw [l1, q0]; rfl)))) (by simp) (by simp)
  have q0n : st[0].toNat ≠ 0 := fun e => q0 (UInt8.toNat_inj.1 (by rw [e]; rfl))
  simp -implicitDefEqProofs [go_sem, h00, q0, q0n]
  refine Wp.s ?_
  simp -implicitDefEqProofs [go_sem]
  have hR := recE_ok (st := st) (sq := gn s) h9 (by rw [hln, hz, l1]; simp [q0n])
  rw [hln, l1] at hR
  have e3 : (st.take (3 + m)).drop 3 = (st.drop 3).take m := by rw [List.drop_take]; congr 1; omega
  have w0 : IntKind.i64.wrap (st[0].toNat : Int) = (st[0].toNat : Int) := by have := st[0].toNat_lt; exact IntWalk.i64_in _ ⟨by omega, by omega⟩
  refine SWp.seq (Wp.s ?_)
  simp -implicitDefEqProofs [go_sem]
  refine SWp.seq (Wp.s ?_)
  simp -implicitDefEqProofs [go_sem, w3, t3, e3, hdl, show 3 + m ≤ 4 * n by omega]
  refine ⟨by omega, by omega, ?_⟩
  refine SWp.seq (Wp.s ?_)
  simp -implicitDefEqProofs [go_sem, h00, w0]
  refine ⟨by decide, ?_⟩
  refine Wp.s ?_
  simp -implicitDefEqProofs [go_sem]
  rw [dO hR]
  exact Fin.pu (r0 := dcV (.ok (⟨(st[0].toNat : Int), (gn s : Int), (st.drop 3).take m⟩, n))) (.tup (.cons (.agg (.cons (.refl _) (.cons (.refl _) (.cons (.sh ..) .nil)))) (.cons (.refl _) (.cons (.refl _) .nil)))) (okV_dcV _ _ (.ok _)) hokH (by simp) (by simp)
end Go.Proofs.YtbnkggbpocaaiaaGreatDoor
namespace Go.Proofs.YtbnkggbpocaaiaaGreatDoor
open Go.Proofs
set_option maxRecDepth 8000 in
theorem refScan_cc (H : Hp) (V : List Nat) (l : List Sec) (sq : Int) (hl : l.length ≤ 100000) (hsq : sq ≤ 10000000000) (hsq2 : -10000000000 ≤ sq) : CC Tryz.prog 153 [secsV l, iv sq] H V (Pu (scV (scanA l sq)) H V) := by
  refine CC.of_swp Tryz.func153 rfl (by kernel_rfl) (by rw [Tryz.ntmps153]; exact len_le _ _ rfl) fun hok hokH => ?_
  clear hok
  refine SWp.seq (Wp.s ?_)
  simp -implicitDefEqProofs [go_sem, args0]
  refine SWp.seq (Wp.s ?_)
  simp -implicitDefEqProofs [go_sem]
  refine SWp.seq (Wp.s ?_)
  simp -implicitDefEqProofs [go_sem]
  refine SWp.join (α := List Rcd × Nat × Nat) (fun x => ([(6, .sl (.own V.length x.2.2) 3 (x.1.map rcC)), (7, ci x.2.1)], H, V ++ [x.2.2])) (fun x => scanA l sq = (x.1, x.2.1)) ?_ ?_
  · refine SWp.block ?_
    refine SWp.loop (α := List Rcd × Nat × Nat) (fun x => ([(0, secsV l), (1, iv (sq + x.1.length)), (6, .sl (.own V.length x.2.2) 3 (x.1.map rcC)), (7, ci x.2.1)], H, V ++ [x.2.2])) (fun x => ∃ f, ScI l sq x.1 x.2.1 f) (fun x => l.length - x.2.1) ([], 0, 0) ⟨l.length + 1, by simp [scanA], Nat.zero_le _, by simp, by simp⟩ (Sh.tokT (by simp [go_sem]) rfl rfl) ?_
    rintro ⟨out, a, v⟩ ⟨f, hi⟩
    dsimp only at hi ⊢
    have hal := hi.2.1
    have hol := hi.2.2.2
    refine SWp.seq (SWp.seq (Wp.s ?_))
    by_cases h1 : 1 ≤ sq + out.length
    case neg =>
      simp -implicitDefEqProofs [go_sem, h1]
      refine Wp.s ?_
      simp -implicitDefEqProofs [go_sem]
      exact ⟨out, a, hi.less (by omega), v, Sh.forget (by simp [go_sem]) rfl rfl⟩
    simp -implicitDefEqProofs [go_sem, h1]
    refine Wp.s ?_
    simp -implicitDefEqProofs [go_sem]
    refine SWp.block (SWp.seq (Wp.s ?_))
    simp -implicitDefEqProofs [go_sem, hal]
    rw [show List.drop a (List.map secC l) = List.map secC (l.drop a) from (List.map_drop ..).symm]
    refine CC.mono (refDecode_cc _ _ .sh (l.drop a) (by rw [List.length_drop]; omega)) ?_
    rintro _ _ _ ⟨rfl, rfl, rfl⟩
    cases hd : decX (l.drop a) with
    | error e =>
      have he := decX_err hd
      simp -implicitDefEqProofs [go_sem, dcV]
      refine SWp.seq (SWp.seq (Wp.s ?_))
      simp -implicitDefEqProofs [go_sem, he]
      refine Wp.s ?_
      simp -implicitDefEqProofs [go_sem]
      refine ⟨out, a, hi.err hd, v, Sh.trim0 (by simp [go_sem]) (by simp [go_sem]) hokH (by simp) (by simp) (by simp)⟩
    | ok x =>
      obtain ⟨r, n⟩ := x
      simp -implicitDefEqProofs [go_sem, dcV]
      refine SWp.seq (SWp.seq (Wp.s ?_))
      by_cases hr : r.sq = sq + out.length
      case neg =>
        simp -implicitDefEqProofs [go_sem, hr]
        refine Wp.s ?_
        simp -implicitDefEqProofs [go_sem]
        refine ⟨out, a, hi.other hd hr, v, Sh.trim0 (by simp [go_sem]) (by simp [go_sem]) hokH (by simp) (by simp) (by simp)⟩
      obtain ⟨f', hi'⟩ := hi.next (by omega) hd hr
      have hn2 := hi'.2.1
      have w1 : IntKind.i64.wrap (sq + (out.length : Int) + 1) = sq + (out.length : Int) + 1 := IntWalk.i64_in _ ⟨by omega, by omega⟩
      have w2 : IntKind.i64.wrap ((a : Int) + (n : Int)) = (a : Int) + (n : Int) := IntWalk.i64_in _ ⟨by omega, by omega⟩
      simp -implicitDefEqProofs [go_sem, hr]
      refine Wp.s ?_
      simp -implicitDefEqProofs [go_sem]
      refine Wp.s ?_
      simp -implicitDefEqProofs [go_sem, w1, w2]
      have hn0 := decX_n hd
      refine ⟨by omega, out ++ [r], a + n, ⟨f', hi'⟩, by omega, v + 1, Sh.trim0 ?_ (by simp [go_sem, -List.map_append]) hokH (by simp) (by simp) (by simp)⟩
      simp [go_sem, show sq + ((out.length : Int) + 1) = sq + (out.length : Int) + 1 by omega]
  rintro ⟨out, a, v⟩ hx
  dsimp only at hx ⊢
  refine Wp.s ?_
  simp -implicitDefEqProofs [go_sem]
  rw [hx]
  exact Fin.pu (.tup (.cons (.sh _ _ _) (.cons (.refl _) .nil))) (by rw [scV, okV, okL, okL, okL, okV_sh]; exact ⟨by simp [go_sem], by rw [okV]; trivial, trivial⟩) hokH (by simp) (by simp)

end Go.Proofs.YtbnkggbpocaaiaaGreatDoor
namespace Go.Proofs.YtbnkggbpocaaiaaGreatDoor
open Go.Proofs
def rhead (s c : Int) (d : Dk) : Int × Int × Nat :=
  if checkD d ≠ 0 then (0, 0, checkD d) else if validJ s c = false ∨ (d.stable.length : Int) < s + c then (0, 0, 2) else headJ s c d
theorem refHead_cc (H : Hp) (V : List Nat) (s c : Int) (d : Dk) (hl : DkS d) (hp : (loadS d s).1.length ≤ 100) : CC Tryz.prog 152 [.agg (dkC d), .agg [iv s, iv c]] H V (Pu (hdV (rhead s c d)) H V) := by
  refine CC.of_swp Tryz.func152 rfl (by kernel_rfl) (by rw [Tryz.ntmps152]; exact len_le _ _ rfl) fun hok hokH => ?_
  clear hok
  refine SWp.seq (Wp.s ?_)
  simp -implicitDefEqProofs [go_sem, args0]
  refine SWp.seq (SWp.seq (Wp.s ?_))
  simp -implicitDefEqProofs [go_sem]
  refine CC.mono (srCheck_cc _ _ d hl) ?_
  rintro _ _ _ ⟨rfl, rfl, rfl⟩
  by_cases h0 : checkD d = 0
  case neg =>
    simp -implicitDefEqProofs [go_sem, h0]
    refine Wp.s ?_
    simp -implicitDefEqProofs [go_sem, h0]
    exact Fin.hd (by rw [rhead, if_pos h0]) hokH (by simp) (by simp)
  simp -implicitDefEqProofs [go_sem, h0]
  refine Wp.s ?_
  simp -implicitDefEqProofs [go_sem, h0]
  have w0 : validJ s c = true → IntKind.i64.wrap (s + c) = s + c := fun h => by
    have := (validJ_iff s c).1 h
    exact IntWalk.i64_in _ ⟨by omega, by omega⟩
  refine SWp.seq (SWp.seq (Wp.s ?_))
  simp -implicitDefEqProofs [go_sem]
  refine CC.mono (refValid_cc _ _ s c) ?_
  rintro _ _ _ ⟨rfl, rfl, rfl⟩
  by_cases hv : validJ s c = true
  case neg =>
    simp -implicitDefEqProofs [go_sem, hv]
    refine Wp.s ?_
    simp -implicitDefEqProofs [go_sem]
    exact Fin.hd (by rw [rhead, if_neg (by simp [h0]), if_pos (.inl (by simpa using hv))]) hokH (by simp) (by simp)
  have hvi := (validJ_iff s c).1 hv
  by_cases hln : (d.stable.length : Int) < s + c
  · simp -implicitDefEqProofs [go_sem, hv, w0 hv, hln]
    refine Wp.s ?_
    simp -implicitDefEqProofs [go_sem]
    exact Fin.hd (by rw [rhead, if_neg (by simp [h0]), if_pos (.inr hln)]) hokH (by simp) (by simp)
  have eR : rhead s c d = headJ s c d := by rw [rhead, if_neg (by simp [h0]), if_neg (by simp [hv, hln])]
  rw [eR]
  clear eR
  simp -implicitDefEqProofs [go_sem, hv, w0 hv, hln]
  refine Wp.s ?_
  simp -implicitDefEqProofs [go_sem]
  refine SWp.seq (Wp.s ?_)
  simp -implicitDefEqProofs [go_sem]
  refine CC.mono (srLoad_cc _ _ d s hl) ?_
  rintro _ _ _ ⟨rfl, rfl, rfl⟩
  simp -implicitDefEqProofs [go_sem, ldV]
  refine SWp.seq (SWp.seq (Wp.s ?_))
  by_cases h1 : (loadS d s).2.2 = 0
  case neg =>
    simp -implicitDefEqProofs [go_sem, h1]
    refine Wp.s ?_
    simp -implicitDefEqProofs [go_sem, h1]
    exact Fin.hd (by rw [headJ, if_pos h1]) hokH (by simp) (by simp)
  have hJ : headJ s c d = headP c (loadS d s).1 := by rw [headJ, if_neg (by simp [h1])]
  rw [hJ]
  generalize (loadS d s).1 = p at hp ⊢
  simp -implicitDefEqProofs [go_sem, h1]
  refine Wp.s ?_
  simp -implicitDefEqProofs [go_sem, h1]
  refine SWp.seq (Wp.s ?_)
  simp -implicitDefEqProofs [go_sem]
  refine CC.mono (refInt_cc _ _ .sh p (by omega)) ?_
  rintro _ _ _ ⟨rfl, rfl, rfl⟩
  cases hn : number p with
  | error e =>
    have he := ne0_number _ _ hn
    simp -implicitDefEqProofs [go_sem, rdv]
    refine SWp.seq (SWp.seq (Wp.s ?_))
    simp -implicitDefEqProofs [go_sem, he]
    refine Wp.s ?_
    simp -implicitDefEqProofs [go_sem]
    exact Fin.hd (by rw [headP, hn]) hokH (by simp) (by simp)
  | ok x =>
    obtain ⟨hd, r⟩ := x
    have hr := number_len _ _ _ _ hn
    simp -implicitDefEqProofs [go_sem, rdv]
    refine SWp.seq (SWp.seq (Wp.s ?_))
    simp -implicitDefEqProofs [go_sem]
    refine Wp.s ?_
    simp -implicitDefEqProofs [go_sem]
    refine SWp.seq (Wp.s ?_)
    simp -implicitDefEqProofs [go_sem]
    refine CC.mono (refInt_cc _ _ .sh r (by omega)) ?_
    rintro _ _ _ ⟨rfl, rfl, rfl⟩
    cases hn2 : number r with
    | error e =>
      have he := ne0_number _ _ hn2
      simp -implicitDefEqProofs [go_sem, rdv]
      refine SWp.seq (SWp.seq (Wp.s ?_))
      simp -implicitDefEqProofs [go_sem, he]
      refine Wp.s ?_
      simp -implicitDefEqProofs [go_sem]
      exact Fin.hd (by rw [headP, hn]; simp only; rw [hn2]) hokH (by simp) (by simp)
    | ok x =>
      obtain ⟨f, r'⟩ := x
      have hP : headP c p = if 0 < r'.length ∨ c - 16 ≤ (hd : Int) ∨ (f : Int) < 1 ∨ 1073741824 < (f : Int) then (0, 0, 3) else ((hd : Int), (f : Int), 0) := by
        rw [headP, hn]; simp only; rw [hn2]
      have wc : IntKind.i64.wrap (c - 16) = c - 16 := IntWalk.i64_in _ ⟨by omega, by omega⟩
      simp -implicitDefEqProofs [go_sem, rdv]
      refine SWp.seq (SWp.seq (Wp.s ?_))
      by_cases c1 : 0 < r'.length
      · have c1' : 0 < (r'.length : Int) := by omega
        simp -implicitDefEqProofs [go_sem, c1, c1']
        refine Wp.s ?_
        simp -implicitDefEqProofs [go_sem]
        exact Fin.hd (by rw [hP, if_pos (.inl c1)]) hokH (by simp) (by simp)
      have c1' : ¬ 0 < (r'.length : Int) := by omega
      by_cases c2 : c - 16 ≤ (hd : Int)
      · simp -implicitDefEqProofs [go_sem, c1, c1', wc, c2]
        refine Wp.s ?_
        simp -implicitDefEqProofs [go_sem]
        exact Fin.hd (by rw [hP, if_pos (.inr (.inl c2))]) hokH (by simp) (by simp)
      by_cases c3 : (f : Int) < 1
      · simp -implicitDefEqProofs [go_sem, c1, c1', wc, c2, c3]
        refine Wp.s ?_
        simp -implicitDefEqProofs [go_sem]
        exact Fin.hd (by rw [hP, if_pos (.inr (.inr (.inl c3)))]) hokH (by simp) (by simp)
      by_cases c4 : 1073741824 < (f : Int)
      · simp -implicitDefEqProofs [go_sem, c1, c1', wc, c2, c3, c4]
        refine Wp.s ?_
        simp -implicitDefEqProofs [go_sem]
        exact Fin.hd (by rw [hP, if_pos (.inr (.inr (.inr c4)))]) hokH (by simp) (by simp)
      simp -implicitDefEqProofs [go_sem, c1, c1', wc, c2, c3, c4]
      refine Wp.s ?_
      simp -implicitDefEqProofs [go_sem]
      refine Wp.s ?_
      simp -implicitDefEqProofs [go_sem]
      exact Fin.hd (by rw [hP, if_neg (by omega)]) hokH (by simp) (by simp)
end Go.Proofs.YtbnkggbpocaaiaaGreatDoor
namespace Go.Proofs.YtbnkggbpocaaiaaGreatDoor
open Go.Proofs
theorem parseS_len (l : List Sec) : (parseS l).2.length ≤ 31 := by
  unfold parseS
  split
  · rename_i h
    rw [valid, Bool.and_eq_true, okData, Bool.and_eq_true, decide_eq_true_eq] at h
    show (pay l).length ≤ 31
    rw [pay, List.length_take]
    omega
  · exact Nat.zero_le _
theorem loadS_len (d : Dk) (a : Int) : (loadS d a).1.length ≤ 100 := by
  unfold loadS
  split
  · exact Nat.zero_le _
  · split
    · exact Nat.zero_le _
    · show (best _).2.length ≤ 100
      unfold best
      split
      · exact Nat.le_trans (parseS_len _) (by decide)
      · exact Nat.le_trans (parseS_len _) (by decide)
theorem decX_sz {l : List Sec} {r : Rcd} {n : Nat} (h : decX l = .ok (r, n)) : szR (r.pay.length : Int) = (n : Int) := by
  cases l with
  | nil => rw [decX, begE_0] at h; cases h
  | cons s l =>
    unfold decX at h
    split at h
    · cases h
    · rename_i m hm
      obtain ⟨h1, h2, h3, h4⟩ := begE_spec hm
      split at h
      · cases h
      · rename_i r' hr
        cases h
        have hdl : (dataS ((s :: l).take n)).length = 4 * n := by rw [dataS_len, List.length_take]; omega
        have hln : lnS (dataS ((s :: l).take n)) = lenR s := lnS_data s l n (by rw [h1, szN]; omega)
        have hn : 7 + lenR s ≤ 4 * n := by rw [h1, szN]; omega
        unfold recE at hr
        split at hr
        · cases hr
        · split at hr
          · cases hr
          · have hr := Except.ok.inj hr
            rw [← hr]
            show szR ((((dataS ((s :: l).take n)).drop 3).take (lnS (dataS ((s :: l).take n)))).length : Int) = _
            rw [hln, List.length_take, List.length_drop, hdl, show min (lenR s) (4 * n - 3) = lenR s by omega, szN_R s h4, h1]
theorem sumI_cons' (a : Int) (l : List Int) : sumI (a :: l) = a + sumI l := by
  have : ∀ (l : List Int) (z : Int), l.foldl (· + ·) z = z + l.foldl (· + ·) 0 := by
    intro l
    induction l with
    | nil => intro z; simp
    | cons b l ih => intro z; rw [List.foldl_cons, List.foldl_cons, ih, ih (0 + b)]; omega
  rw [sumI, List.foldl_cons, this, sumI]; omega
theorem scanX_sum : ∀ (f : Nat) (l : List Sec) (sq : Int), sumI (szs (scanX f l sq).1) = ((scanX f l sq).2 : Int) ∧ (scanX f l sq).2 ≤ l.length ∧ ∀ x ∈ szs (scanX f l sq).1, 2 ≤ x ∧ x ≤ 1026
  | 0, l, sq => by rw [scanX]; exact ⟨rfl, Nat.zero_le _, fun x h => by cases h⟩
  | f + 1, l, sq => by
    rw [scanX]
    split
    · exact ⟨rfl, Nat.zero_le _, fun x h => by cases h⟩
    · split
      · exact ⟨rfl, Nat.zero_le _, fun x h => by cases h⟩
      · rename_i r n hd
        split
        · exact ⟨rfl, Nat.zero_le _, fun x h => by cases h⟩
        · obtain ⟨a1, a2, a3⟩ := scanX_sum f (l.drop n) (sq + 1)
          have hn := decX_n hd
          have hz := decX_sz hd
          have hs := szR_in (r.pay.length : Int)
          rw [List.length_drop] at a2
          refine ⟨?_, by show n + _ ≤ _; omega, ?_⟩
          · show sumI (szR (r.pay.length : Int) :: szs (scanX f (l.drop n) (sq + 1)).1) = ((n + (scanX f (l.drop n) (sq + 1)).2 : Nat) : Int)
            rw [sumI_cons', a1, hz]; omega
          · intro x hx
            rcases List.mem_cons.1 (show x ∈ szR (r.pay.length : Int) :: szs (scanX f (l.drop n) (sq + 1)).1 from hx) with rfl | hx
            · omega
            · exact a3 x hx
theorem sumI_tk : ∀ (l : List Int) (m : Nat), (∀ x ∈ l, 2 ≤ x ∧ x ≤ 1026) → 0 ≤ sumI (l.take m) ∧ sumI (l.take m) ≤ sumI l
  | [], m, _ => by rw [List.take_nil]; exact ⟨by decide, Int.le_refl _⟩
  | a :: l, 0, h => by
    have := sumI_tk l 0 fun x hx => h x (List.mem_cons_of_mem _ hx)
    have ha := h a List.mem_cons_self
    rw [List.take_zero] at this ⊢
    rw [sumI_cons']
    have : sumI ([] : List Int) = 0 := rfl
    omega
  | a :: l, m + 1, h => by
    have := sumI_tk l m fun x hx => h x (List.mem_cons_of_mem _ hx)
    have ha := h a List.mem_cons_self
    rw [List.take_succ_cons, sumI_cons', sumI_cons']
    omega
theorem sumI_snoc' (l : List Int) (x : Int) : sumI (l ++ [x]) = sumI l + x := by rw [sumI, List.foldl_append]; rfl
theorem tailX_sum {n h : Int} (hn : 0 < n) (h0 : 0 ≤ h) (h1 : h < n) (l : List Int) : tailX n h l = (h + sumI l) % n := by
  suffices hh : ∀ m, tailX n h (l.take m) = (h + sumI (l.take m)) % n by
    have := hh l.length
    rwa [List.take_length] at this
  intro m
  induction m with
  | zero =>
    rw [List.take_zero]
    show h = (h + sumI []) % n
    rw [show sumI ([] : List Int) = 0 from rfl, Int.add_zero, Int.emod_eq_of_lt h0 h1]
  | succ m ih =>
    by_cases hm : m < l.length
    · rw [List.take_succ_eq_append_getElem hm, tailX_snoc, sumI_snoc', ih, Int.emod_add_emod, Int.add_assoc]
    · rw [List.take_of_length_le (by omega)] at ih ⊢
      exact ih
theorem recsO_le (f : Int) (l : List Sec) : (∀ x ∈ szs (recsO f l), 2 ≤ x ∧ x ≤ 1026) ∧ 0 ≤ sumI (szs (recsO f l)) ∧ sumI (szs (recsO f l)) ≤ l.length ∧ (recsO f l).length ≤ (1073741824 - f).toNat ∧ (recsO f l).length ≤ l.length := by
  obtain ⟨a1, a2, a3⟩ := scanX_sum (l.length + 1) l f
  have hle := scanX_len (l.length + 1) l f
  have e : szs (recsO f l) = (szs (scanA l f).1).take (min (scanA l f).1.length (1073741824 - f).toNat) := by
    show szs (((scanA l f).1).take _) = _
    rw [szs, szs, List.map_take]
  have b := sumI_tk (szs (scanA l f).1) (min (scanA l f).1.length (1073741824 - f).toNat) a3
  have hc : sumI (szs (scanA l f).1) = ((scanA l f).2 : Int) := a1
  have hd : (scanA l f).2 ≤ l.length := a2
  have hl : (recsO f l).length = min (min (scanA l f).1.length (1073741824 - f).toNat) (scanA l f).1.length := by
    show (((scanA l f).1).take _).length = _
    rw [List.length_take]
  have hle' : (scanA l f).1.length ≤ l.length := hle
  rw [e]
  refine ⟨fun x hx => a3 x (List.mem_of_mem_take hx), b.1, by omega, by omega, by omega⟩
theorem chkJ_jO {s c h f : Int} {l : List Sec} (hv : validJ s c = true) (h0 : 0 ≤ h) (h1 : h < c - 16) (f1 : 1 ≤ f) (f2 : f ≤ 1073741824) (hl : (l.length : Int) = c - 16) : chkJ (jO s c h f (recsO f l)) = true := by
  obtain ⟨a, b, d, e, g⟩ := recsO_le f l
  have ht := tailX_sum (n := c - 16) (h := h) (by omega) h0 h1 (szs (recsO f l))
  have ha : (szs (recsO f l)).all okSz = true := List.all_eq_true.2 fun x hx => by
    have := a x hx
    simp [okSz]; exact this
  have hlen : ((szs (recsO f l)).length : Int) = (recsO f l).length := by rw [szs, List.length_map]
  simp only [chkJ, jO, hv, ha, ht, Bool.true_and, Bool.and_true, Bool.and_eq_true, decide_eq_true_eq, hlen]
  exact ⟨⟨⟨⟨⟨⟨h0, h1⟩, f1⟩, f2⟩, by omega⟩, trivial⟩, by omega⟩
theorem markX_get (n : Nat) (hn : 0 < n) (tl nxt : Int) (ct : List Sec) : ∀ (i : Nat), i ≤ n → ∀ p, p < n → (markX n tl nxt ct i)[p]? = some (decide (((p : Int) - tl) % n < i) && decide (nxt ≤ (gn (ct.getD p sec0) : Int)))
  | 0, _, p, hp => by
    have := Int.emod_nonneg ((p : Int) - tl) (show (n : Int) ≠ 0 by omega)
    rw [markX, List.getElem?_replicate, if_pos (by simpa using hp)]
    congr 1
    rw [decide_eq_false (by omega), Bool.false_and]
  | i + 1, hi, p, hp => by
    have hq0 := Int.emod_nonneg (tl + (i : Int)) (show (n : Int) ≠ 0 by omega)
    have hq1 := Int.emod_lt_of_pos (tl + (i : Int)) (show 0 < (n : Int) by omega)
    have hp0 := Int.emod_nonneg ((p : Int) - tl) (show (n : Int) ≠ 0 by omega)
    have hp1 := Int.emod_lt_of_pos ((p : Int) - tl) (show 0 < (n : Int) by omega)
    rw [markX]
    by_cases e : ((tl + (i : Int)) % (n : Int)).toNat = p
    · have e1 : ((p : Int) - tl) % n = i := by
        have : (p : Int) = (tl + (i : Int)) % (n : Int) := by omega
        rw [this, Int.emod_sub_emod, show tl + (i : Int) - tl = i by omega, Int.emod_eq_of_lt (by omega) (by omega)]
      rw [e, List.getElem?_set, if_pos rfl, if_pos (by rw [markX_len]; simpa using hp), e1, decide_eq_true (show (i : Int) < ((i + 1 : Nat) : Int) by omega), Bool.true_and]
    · have e1 : ((p : Int) - tl) % n ≠ i := fun q => e (by
        have : (tl + (i : Int)) % (n : Int) = p := by
          rw [← q, Int.add_emod_emod, show tl + ((p : Int) - tl) = p by omega, Int.emod_eq_of_lt (by omega) (by omega)]
        rw [this]; simp)
      rw [List.getElem?_set_ne e, markX_get n hn tl nxt ct i (by omega) p hp]
      congr 2
      exact decide_eq_decide.2 (by omega)
theorem ring_free {n : Nat} {p : Nat} {at' sm : Int} (hn : 0 < n) (h0 : 0 ≤ sm) (h1 : sm ≤ n) : ((p : Int) - (at' + sm) % n) % n < n - sm ↔ ¬ ((p : Int) - at' + n) % n < sm := by
  have e1 : ((p : Int) - (at' + sm) % n) % n = (((p : Int) - at') % n - sm) % n := by
    rw [Int.sub_emod_emod, Int.emod_sub_emod]; congr 1; omega
  have e2 : ((p : Int) - at' + n) % n = ((p : Int) - at') % n := Int.add_emod_right ..
  rw [e1, e2]
  have q0 := Int.emod_nonneg ((p : Int) - at') (show (n : Int) ≠ 0 by omega)
  have q1 := Int.emod_lt_of_pos ((p : Int) - at') (show 0 < (n : Int) by omega)
  generalize ((p : Int) - at') % n = q at q0 q1
  by_cases h : q < sm
  · have : (q - sm) % (n : Int) = q - sm + n := by
      rw [← Int.add_emod_right]
      exact Int.emod_eq_of_lt (by omega) (by omega)
    rw [this]; omega
  · rw [Int.emod_eq_of_lt (by omega) (by omega)]; omega
end Go.Proofs.YtbnkggbpocaaiaaGreatDoor
namespace Go.Proofs.YtbnkggbpocaaiaaGreatDoor
open Go.Proofs
inductive Grp (s : Int) (M : List Bool) : Nat → List Opn → Int → Prop
  | cl {i : Nat} {ops : List Opn} {la : Int} (h : RmI s M i ops) (h1 : la < i) (h2 : la + 1 ≠ i) : Grp s M i ops la
  | op {i : Nat} (A : List Opn) (p K f : Nat) (hK : 0 < K) (hp : p + K = i) (h : runsX s (M.length + 1) M 0 = A ++ opW (s + 16 + p) (List.replicate (K + runL (M.drop i)) sec0) :: runsX s f M (i + runL (M.drop i) + 1)) (hf : M.length - (i + runL (M.drop i) + 1) < f) : Grp s M i (A ++ [opW (s + 16 + p) (List.replicate K sec0)]) ((i : Int) - 1)
theorem drop_cons {α : Type} (M : List α) (i : Nat) (h : i < M.length) : M.drop i = M[i] :: M.drop (i + 1) := List.drop_eq_getElem_cons h
theorem runL_t {M : List Bool} {i : Nat} (h : M[i]? = some true) : runL (M.drop i) = runL (M.drop (i + 1)) + 1 := by
  obtain ⟨hl, he⟩ := List.getElem?_eq_some_iff.1 h
  rw [drop_cons M i hl, he, runL]
theorem runL_f {M : List Bool} {i : Nat} (h : M[i]? = some false) : runL (M.drop i) = 0 := by
  obtain ⟨hl, he⟩ := List.getElem?_eq_some_iff.1 h
  rw [drop_cons M i hl, he, runL]; simp
theorem Grp.new (s : Int) (M : List Bool) : Grp s M 0 [] (-2) := .cl ⟨M.length + 1, rfl, by omega⟩ (by decide) (by decide)
theorem Grp.no {s : Int} {M : List Bool} {i : Nat} {ops : List Opn} {la : Int} (g : Grp s M i ops la) (h : M[i]? = some false) : Grp s M (i + 1) ops la := by
  have hl := (List.getElem?_eq_some_iff.1 h).1
  cases g with
  | cl h0 h1 h2 => exact .cl (h0.zero hl (runL_f h)) (by omega) (by omega)
  | op A p K f hK hp h0 hf =>
    rw [runL_f h] at h0 hf
    exact .cl ⟨f, by rw [h0]; simp, by omega⟩ (by omega) (by omega)
theorem Grp.open {s : Int} {M : List Bool} {i : Nat} {ops : List Opn} {la : Int} (g : Grp s M i ops la) (h : M[i]? = some true) (hn : (i : Int) ≠ la + 1) : Grp s M (i + 1) (ops ++ [opW (s + 16 + i) (List.replicate 1 sec0)]) i := by
  have hl := (List.getElem?_eq_some_iff.1 h).1
  cases g with
  | cl h0 h1 h2 =>
    obtain ⟨f, h3, h4⟩ := h0
    cases f with
    | zero => omega
    | succ f =>
      have ht := runL_t h
      have := Grp.op (s := s) (M := M) (i := i + 1) ops i 1 f (by decide) rfl (by
        rw [h3, runsX, if_neg (by omega), if_neg (by omega), ht, show 1 + runL (M.drop (i + 1)) = runL (M.drop (i + 1)) + 1 by omega, show i + (runL (M.drop (i + 1)) + 1) + 1 = i + 1 + runL (M.drop (i + 1)) + 1 by omega]) (by omega)
      rwa [show ((i + 1 : Nat) : Int) - 1 = i by omega] at this
  | op A p K f hK hp h0 hf => omega
theorem Grp.more {s : Int} {M : List Bool} {i : Nat} {ops : List Opn} {la : Int} (g : Grp s M i ops la) (h : M[i]? = some true) (hn : (i : Int) = la + 1) : ∃ A p K, 0 < K ∧ p + K = i ∧ ops = A ++ [opW (s + 16 + (p : Nat)) (List.replicate K sec0)] ∧ Grp s M (i + 1) (A ++ [opW (s + 16 + p) (List.replicate (K + 1) sec0)]) i := by
  cases g with
  | cl h0 h1 h2 => omega
  | op A p K f hK hp h0 hf =>
    have ht := runL_t h
    have := Grp.op (s := s) (M := M) (i := i + 1) A p (K + 1) f (by omega) (by omega) (by
      rw [h0, ht, show K + (runL (M.drop (i + 1)) + 1) = K + 1 + runL (M.drop (i + 1)) by omega, show i + (runL (M.drop (i + 1)) + 1) + 1 = i + 1 + runL (M.drop (i + 1)) + 1 by omega]) (by omega)
    rw [show ((i + 1 : Nat) : Int) - 1 = i by omega] at this
    exact ⟨A, p, K, hK, hp, rfl, this⟩
theorem Grp.stop {s : Int} {M : List Bool} {i : Nat} {ops : List Opn} {la : Int} (g : Grp s M i ops la) (hi : M.length ≤ i) : runsX s (M.length + 1) M 0 = ops := by
  cases g with
  | cl h0 h1 h2 => exact h0.stop hi
  | op A p K f hK hp h0 hf =>
    rw [List.drop_eq_nil_of_le hi] at h0 hf
    cases f with
    | zero => omega
    | succ f => rw [h0, runsX, if_pos (by simp [runL]; omega)]; simp [runL]
theorem Grp.len {s : Int} {M : List Bool} {i : Nat} {ops : List Opn} {la : Int} (g : Grp s M i ops la) : True := trivial
def mkJ (j : Jrn) (ct : List Sec) : List Bool := markX (j.count - 16) j.tail (nextJ j) ct (freeJ j).toNat
theorem remX_eq (j : Jrn) (ct : List Sec) : remX j ct = if runsX j.start ((mkJ j ct).length + 1) (mkJ j ct) 0 = [] then [] else runsX j.start ((mkJ j ct).length + 1) (mkJ j ct) 0 ++ [opS] := rfl
theorem mkJ_len (j : Jrn) (ct : List Sec) : (mkJ j ct).length = (j.count - 16).toNat := markX_len _ _ _ _ _
theorem mkJ_get {j : Jrn} (h : chkJ j = true) {ct : List Sec} {n : Nat} (hn : j.count - 16 = (n : Int)) (p : Nat) (hp : p < n) : (mkJ j ct)[p]? = some (!(decide (((p : Int) - j.head + n) % n < sumI j.sizes) || decide ((gn (ct.getD p sec0) : Int) < nextJ j))) := by
  have hs := chkJ_sum h
  have h1 := (chkJ_iff j).1 h
  obtain ⟨f, hf⟩ : ∃ f : Nat, freeJ j = (f : Int) := ⟨(freeJ j).toNat, by rw [freeJ]; omega⟩
  have hfj : j.count - 16 - sumI j.sizes = (f : Int) := by rw [← hf, freeJ]
  have e := ring_free (n := n) (p := p) (at' := j.head) (sm := sumI j.sizes) (by omega) (by omega) (by omega)
  rw [mkJ, hf, Int.toNat_natCast, hn, markX_get n (by omega) _ _ _ f (by omega) p hp, h1.2.2.2.2, hn, show (f : Int) = n - sumI j.sizes by omega]
  congr 1
  rw [Bool.eq_iff_iff]
  simp only [Bool.and_eq_true, decide_eq_true_eq, Bool.not_eq_true', Bool.or_eq_false_iff, decide_eq_false_iff_not]
  rw [e]
  omega
end Go.Proofs.YtbnkggbpocaaiaaGreatDoor
namespace Go.Proofs.YtbnkggbpocaaiaaGreatDoor
open Go.Proofs
theorem openJ_bad {s c : Int} {d : Dk} (h : (rhead s c d).2.2 ≠ 0) : openJ s c d = (zjr, [], [], (rhead s c d).2.2) := by
  unfold rhead at h ⊢
  unfold openJ
  by_cases h1 : checkD d ≠ 0
  · rw [if_pos h1, if_pos h1]
  · rw [if_neg h1] at h ⊢
    rw [if_neg h1]
    by_cases h2 : validJ s c = false ∨ (d.stable.length : Int) < s + c
    · rw [if_pos h2, if_pos h2]
    · rw [if_neg h2] at h ⊢
      rw [if_neg h2, if_pos h]
theorem openJ_ok {s c : Int} {d : Dk} (h : (rhead s c d).2.2 = 0) : validJ s c = true ∧ (0 ≤ (rhead s c d).1 ∧ (rhead s c d).1 < c - 16 ∧ 1 ≤ (rhead s c d).2.1 ∧ (rhead s c d).2.1 ≤ 1073741824) ∧ ((readD d (s + 16) (c - 16)).1.length : Int) = c - 16 ∧
    openJ s c d = (jO s c (rhead s c d).1 (rhead s c d).2.1 (recsO (rhead s c d).2.1 (turnM (rhead s c d).1 (c - 16).toNat (readD d (s + 16) (c - 16)).1 (c - 16).toNat)),
      recsO (rhead s c d).2.1 (turnM (rhead s c d).1 (c - 16).toNat (readD d (s + 16) (c - 16)).1 (c - 16).toNat),
      remX (jO s c (rhead s c d).1 (rhead s c d).2.1 (recsO (rhead s c d).2.1 (turnM (rhead s c d).1 (c - 16).toNat (readD d (s + 16) (c - 16)).1 (c - 16).toNat))) (readD d (s + 16) (c - 16)).1, 0) := by
  by_cases h1 : checkD d ≠ 0
  · rw [rhead, if_pos h1] at h; exact absurd h h1
  by_cases h2 : validJ s c = false ∨ (d.stable.length : Int) < s + c
  · rw [rhead, if_neg h1, if_pos h2] at h; cases h
  have e : rhead s c d = headJ s c d := by rw [rhead, if_neg h1, if_neg h2]
  rw [e] at h ⊢
  have hh := headJ_ok h
  have hv : validJ s c = true := by
    cases hx : validJ s c with
    | true => rfl
    | false => exact absurd (.inl hx) h2
  have hvi := (validJ_iff s c).1 hv
  have hl : s + c ≤ (d.stable.length : Int) := by
    by_cases hq : (d.stable.length : Int) < s + c
    · exact absurd (.inr hq) h2
    · omega
  have hr : (readD d (s + 16) (c - 16)).2 = 0 := by
    rw [readD, if_neg h1, if_neg (by simp [insideB]; omega)]
  have hn : ((readD d (s + 16) (c - 16)).1.length : Int) = c - 16 := by
    have := readD_n hr (show c - 16 = (((c - 16).toNat : Nat) : Int) by omega)
    omega
  refine ⟨hv, hh, hn, ?_⟩
  unfold openJ
  rw [if_neg h1, if_neg h2, if_neg (by simp [h]), if_neg (by simp [hr])]
  dsimp only
  rw [if_neg]
  rw [chkJ_jO hv hh.1 hh.2.1 hh.2.2.1 hh.2.2.2 (by rw [turnM_len]; omega)]
  decide
def Rep (j jv : Nat) (ops : List Opn) (cv : CV) (G : Hp) (W : List Nat) : Prop :=
  (ops = [] ∧ cv = .v (.slice none 0 0)) ∨ ∃ (A : List Opn) (a : Int) (K b k v : Nat), 0 < K ∧ ops = A ++ [opW a (List.replicate K sec0)] ∧ cv = .bsa b (A.length + 1) 3 ∧ j ≤ b ∧ jv ≤ k ∧ G[b]? = some (some ((A.map opC).flatten ++ [iv 0, iv a, .sl (.own k v) 8 ((List.replicate K sec0).map secC)])) ∧ W[k]? = some v
theorem take_hget {H G L : Hp} {n : Nat} (h : G.take (H.length + n) = H ++ L) (k : Nat) (hk : k < n) : G[H.length + k]? = L[k]? := by
  have := congrArg (fun l : Hp => l[H.length + k]?) h
  rw [List.getElem?_take, if_pos (by omega), hget] at this
  exact this
theorem flat_opC : ∀ A : List Opn, ((A.map opC).flatten).length = A.length * 3
  | [] => rfl
  | x :: A => by rw [List.map_cons, List.flatten_cons, List.length_append, flat_opC A, List.length_cons]; show 3 + _ = _; omega
theorem TokL.rfl' (k : Nat) : ∀ cs : List CV, TokL k cs cs
  | [] => trivial
  | c :: cs => ⟨.le (.refl c), TokL.rfl' k cs⟩
theorem TokL.app {k : Nat} {xs ys : List CV} : ∀ {cs ds : List CV}, TokL k cs ds → TokL k xs ys → TokL k (cs ++ xs) (ds ++ ys)
  | [], [], _, h => h
  | c :: cs, d :: ds, h, g => ⟨h.1, TokL.app h.2 g⟩
  | [], _ :: _, h, _ => h.elim
  | _ :: _, [], h, _ => h.elim
theorem noObj_ops (A : List Opn) : ∀ x ∈ (A.map opC).flatten, x.isObj = false := by
  intro x hx
  obtain ⟨l, hl, hx⟩ := List.mem_flatten.1 hx
  obtain ⟨o, ho, rfl⟩ := List.mem_map.1 hl
  rcases (show x = _ ∨ x = _ ∨ x = _ by simpa [opC, secsV] using hx) with rfl | rfl | rfl <;> rfl
theorem set_last (G : Hp) (b : Nat) (c : List CV) : (G.set b none ++ [some c])[G.length]? = some (some c) := by
  rw [List.getElem?_append_right (by simp)]; simp
theorem set_last2 (G : Hp) (b : Nat) (c d : List CV) : (G.set b none ++ [some c]).set G.length (some d) = G.set b none ++ [some d] := by
  rw [List.set_append_right _ _ (by simp)]; simp
theorem Fin.weak {nb nv : Nat} {R : CV → Hp → List Nat → Prop} {r : CV} {H : Hp} {V : List Nat} {b : Nat} {cs ds : List CV} (hb : H[b]? = some (some cs)) (h : LeL cs ds) (hno : ∀ x ∈ cs, x.isObj = false) (hf : Fin nb nv R r (H.set b (some ds)) V) : Fin nb nv R r H V := by
  obtain ⟨r', H', V', g, hR⟩ := hf
  exact ⟨r', H', V', Gst.trans (Gst.weak hb h hno) g, hR⟩
theorem chunks_ops : ∀ B : List Opn, chunks 3 B.length (B.map opC).flatten = B.map opC
  | [] => rfl
  | o :: B => by
    rw [List.length_cons, chunks, List.map_cons, List.flatten_cons]
    rw [show (opC o ++ (B.map opC).flatten).take 3 = opC o from rfl, show (opC o ++ (B.map opC).flatten).drop 3 = (B.map opC).flatten from rfl, chunks_ops B]
set_option maxRecDepth 8000 in
set_option maxHeartbeats 1600000 in
theorem refOpen_cc (H : Hp) (V : List Nat) (s c : Int) (d : Dk) (hl : DkS d) : CC Tryz.prog 98 [.agg (dkC d), .agg [iv s, iv c]] H V (Pu (opV (openJ s c d)) H V) := by
  refine CC.of_swp Tryz.func98 rfl (by kernel_rfl) (by rw [Tryz.ntmps98]; exact len_le _ _ rfl) fun hok hokH => ?_
  clear hok
  have bad : ∀ (e : Nat) (H' : Hp) (V' : List Nat), openJ s c d = (zjr, [], [], e) → H'.take H.length = H → V'.take V.length = V → Fin H.length V.length (Pu (opV (openJ s c d)) H V) (.tup [.agg zjC, .v (.slice none 0 0), .v (.slice none 0 0), er e]) H' V' := fun e H' V' h1 h2 h3 => by
    rw [h1]
    exact Fin.pu (.tup (.cons zj_le (.cons (.nil 3 (by decide)) (.cons (.nil 3 (by decide)) (.cons (.refl _) .nil))))) (okV_opV _ _ _) hokH h2 h3
  refine SWp.seq (Wp.s ?_)
  simp -implicitDefEqProofs [go_sem, args0]
  refine SWp.seq (Wp.s ?_)
  simp -implicitDefEqProofs [go_sem]
  refine CC.mono (refHead_cc _ _ s c d hl (loadS_len d s)) ?_
  rintro _ _ _ ⟨rfl, rfl, rfl⟩
  simp -implicitDefEqProofs [go_sem, hdV]
  refine SWp.seq (SWp.seq (Wp.s ?_))
  by_cases h0 : (rhead s c d).2.2 = 0
  case neg =>
    simp -implicitDefEqProofs [go_sem, h0]
    refine Wp.s ?_
    simp -implicitDefEqProofs [go_sem]
    exact bad _ _ _ (openJ_bad h0) (by simp) (by simp)
  obtain ⟨hv, hho, hct, e0⟩ := openJ_ok h0
  simp -implicitDefEqProofs [go_sem, h0]
  refine Wp.s ?_
  simp -implicitDefEqProofs [go_sem]
  generalize (rhead s c d).1 = hd at hho e0 ⊢
  generalize (rhead s c d).2.1 = fi at hho e0 ⊢
  have hvi := (validJ_iff s c).1 hv
  have wc : IntKind.i64.wrap (c - 16) = c - 16 := IntWalk.i64_in _ ⟨by omega, by omega⟩
  have ws : IntKind.i64.wrap (s + 16) = s + 16 := IntWalk.i64_in _ ⟨by omega, by omega⟩
  refine SWp.seq (Wp.s ?_)
  simp -implicitDefEqProofs [go_sem, wc]
  refine SWp.seq (Wp.s ?_)
  simp -implicitDefEqProofs [go_sem, ws]
  refine CC.mono (srRead_cc _ _ d ⟨s + 16, c - 16⟩ hl) ?_
  rintro _ _ _ ⟨rfl, rfl, rfl⟩
  simp -implicitDefEqProofs [go_sem]
  obtain ⟨n, hnn⟩ : ∃ n : Nat, c - 16 = (n : Int) := ⟨(c - 16).toNat, by omega⟩
  generalize (readD d (s + 16) (c - 16)).1 = ct at hct e0 ⊢
  generalize (readD d (s + 16) (c - 16)).2 = ec
  rw [show (c - 16).toNat = n by omega] at e0
  refine SWp.seq (Wp.s ?_)
  simp -implicitDefEqProofs [go_sem]
  have hctn : ct.length = n := by omega
  refine SWp.join (α := Nat) (fun v => ([(3, .ptr (H.length + 1) 0), (4, .ptr (H.length + 2) 0), (8, iv hd), (9, iv fi), (11, iv n), (12, secsV ct), (14, .sl (.own V.length v) 8 ((turnM hd n ct n).map secC))], H ++ [some (dkC d), some [iv s, iv c], some zjC], V ++ [v])) (fun _ => True) ?_ ?_
  · refine SWp.seq (Wp.s ?_)
    simp -implicitDefEqProofs [go_sem, hnn]
    refine SWp.block ?_
    refine SWp.loop (α := Nat × Nat) (fun x => ([(3, .ptr (H.length + 1) 0), (4, .ptr (H.length + 2) 0), (8, iv hd), (9, iv fi), (11, iv n), (12, secsV ct), (14, .sl (.own V.length x.2) 8 ((turnM hd n ct x.1).map secC)), (15, ci x.1)], H ++ [some (dkC d), some [iv s, iv c], some zjC], V ++ [x.2])) (fun x => x.1 ≤ n) (fun x => n - x.1) (0, 0) (Nat.zero_le _) (Sh.tokT (by simp [go_sem, hnn, turnM]) rfl rfl) ?_
    rintro ⟨i, v⟩ hi
    dsimp only at hi ⊢
    refine SWp.seq (SWp.seq (Wp.s ?_))
    by_cases h : i < n
    case neg =>
      simp -implicitDefEqProofs [go_sem, h]
      refine Wp.s ?_
      simp -implicitDefEqProofs [go_sem]
      obtain rfl : i = n := by omega
      exact ⟨v, Sh.forget (by simp [go_sem]) rfl rfl⟩
    have hq1 := Int.emod_nonneg (hd + (i : Int)) (show (n : Int) ≠ 0 by omega)
    have hq2 := Int.emod_lt_of_pos (hd + (i : Int)) (show 0 < (n : Int) by omega)
    have hmx := turnM_succ hd n ct i
    have hln := turnM_len hd n ct i
    generalize turnM hd n ct i = M at hmx hln ⊢
    have t5 := Int.tmod_eq_emod_of_nonneg (b := (n : Int)) (show 0 ≤ hd + (i : Int) by omega)
    have w1 : IntKind.i64.wrap (hd + (i : Int)) = hd + (i : Int) := IntWalk.i64_in _ ⟨by omega, by omega⟩
    obtain ⟨q, hqq⟩ : ∃ q : Nat, (hd + (i : Int)) % (n : Int) = (q : Int) := ⟨((hd + (i : Int)) % (n : Int)).toNat, by omega⟩
    rw [hqq] at hq1 hq2 hmx t5
    rw [Int.toNat_natCast] at hmx
    have hqc : q < ct.length := by omega
    have hgd : ct.getD q sec0 = ct[q] := by rw [List.getD_eq_getElem?_getD, List.getElem?_eq_getElem hqc]; rfl
    rw [hgd] at hmx
    have hn0 : ¬ (n : Int) = 0 := by omega
    simp -implicitDefEqProofs [go_sem, h]
    refine Wp.s ?_
    simp -implicitDefEqProofs [go_sem]
    refine SWp.seq (SWp.block (Wp.s ?_))
    simp -implicitDefEqProofs [go_sem, w1, t5, hqc, hn0]
    refine ⟨by omega, by omega, Wp.s ?_⟩
    simp -implicitDefEqProofs [go_sem, wrap_succ (show i ≤ 1000000000 by omega)]
    refine ⟨i + 1, by omega, by omega, v + 1, ?_⟩
    rw [hmx]
    exact Sh.forget (by simp [go_sem]) rfl (by simp)
  rintro v -
  dsimp only
  have htl := turnM_len hd n ct n
  generalize turnM hd n ct n = l at htl e0 ⊢
  refine SWp.seq (Wp.s ?_)
  simp -implicitDefEqProofs [go_sem]
  refine CC.le (.cons (.sh _ _ _) (.cons (.refl _) .nil)) ?_
  refine CC.mono (refScan_cc _ _ l fi (by omega) (by omega) (by omega)) ?_
  rintro _ _ _ ⟨rfl, rfl, rfl⟩
  simp -implicitDefEqProofs [go_sem, scV]
  have hR : recsO fi l = (scanA l fi).1.take (min (scanA l fi).1.length (1073741824 - fi).toNat) := rfl
  have hRl := recsO_le fi l
  have hsl : (scanA l fi).1.length ≤ l.length := scanX_len _ _ _
  have hck := chkJ_jO hv hho.1 hho.2.1 hho.2.2.1 hho.2.2.2 (l := l) (by omega)
  generalize (scanA l fi).1 = rs0 at hR hsl ⊢
  generalize (scanA l fi).2 = na
  obtain ⟨m, hm⟩ : ∃ m, m = min rs0.length (1073741824 - fi).toNat := ⟨_, rfl⟩
  have hml : m ≤ rs0.length := by omega
  rw [← hm] at hR
  rw [hR] at e0 hRl hck
  refine SWp.seq (Wp.s ?_)
  simp -implicitDefEqProofs [go_sem]
  refine SWp.join (α := Nat) (fun u => ([(3, .ptr (H.length + 1) 0), (4, .ptr (H.length + 2) 0), (8, iv hd), (9, iv fi), (11, iv n), (12, secsV ct), (16, .sl .sh 3 (rs0.map rcC)), (18, .ptr (H.length + 3) 0)], H ++ [some (dkC d), some [iv s, iv c], some zjC, some [iv s, iv c, iv hd, iv 0, iv fi, .sl (.own (V.length + 1) u) 1 ((szs (rs0.take m)).map ic)]], V ++ [v, u])) (fun _ => True) ?_ ?_
  · refine SWp.seq (Wp.s ?_)
    simp -implicitDefEqProofs [go_sem]
    refine SWp.block ?_
    refine SWp.loop (α := Nat × Nat) (fun x => ([(3, .ptr (H.length + 1) 0), (4, .ptr (H.length + 2) 0), (8, iv hd), (9, iv fi), (11, iv n), (12, secsV ct), (16, .sl .sh 3 (rs0.map rcC)), (18, .ptr (H.length + 3) 0), (19, ci x.1)], H ++ [some (dkC d), some [iv s, iv c], some zjC, some [iv s, iv c, iv hd, iv 0, iv fi, .sl (.own (V.length + 1) x.2) 1 ((szs (rs0.take x.1)).map ic)]], V ++ [v, x.2])) (fun x => x.1 ≤ m) (fun x => m - x.1) (0, 0) (Nat.zero_le _) (Sh.tokL (b := H.length + 3) (ds := [iv s, iv c, iv hd, iv 0, iv fi, .sl (.own (V.length + 1) 0) 1 []]) (by rw [hget]; rfl) (by simp [go_sem]) (by simp [CV.isObj]) (by simp [go_sem]) (by simp [szs]) (by simp)) ?_
    rintro ⟨i, u⟩ hi
    dsimp only at hi ⊢
    have w1 : IntKind.i64.wrap (fi + (i : Int)) = fi + (i : Int) := IntWalk.i64_in _ ⟨by omega, by omega⟩
    refine SWp.seq (SWp.seq (Wp.s ?_))
    by_cases h : i < m
    case neg =>
      obtain rfl : i = m := by omega
      by_cases h5 : i < rs0.length
      · have h6 : ¬ fi + (i : Int) < 1073741824 := by omega
        simp -implicitDefEqProofs [go_sem, h5, w1, h6]
        refine Wp.s ?_
        simp -implicitDefEqProofs [go_sem]
        exact ⟨u, Sh.forget (by simp [go_sem]) rfl rfl⟩
      · simp -implicitDefEqProofs [go_sem, h5]
        refine Wp.s ?_
        simp -implicitDefEqProofs [go_sem]
        exact ⟨u, Sh.forget (by simp [go_sem]) rfl rfl⟩
    have h5 : i < rs0.length := by omega
    have h6 : fi + (i : Int) < 1073741824 := by omega
    have hsn := szs_snoc rs0 i h5
    have hsx := szR_in (rs0[i].pay.length : Int)
    have hlz : (szs (rs0.take i)).length = i := by rw [szs, List.length_map, List.length_take]; omega
    simp -implicitDefEqProofs [go_sem, h5, w1, h6]
    refine Wp.s ?_
    simp -implicitDefEqProofs [go_sem]
    refine SWp.seq (SWp.block ?_)
    refine SWp.drawnT [] [12] (.s 0 .pl <| .s 1 .pl <| .s 2 .pl <| .s 3 .pl <| .s 4 .pl <| .s 5 .pl <| .s 6 .pl <| .s 7 .pl <| .s 8 .pl <| .s 9 .pl <| .s 10 .pl <| .s 11 .pl <| .s 12 .st <| .n) (by kernel_rfl) (by kernel_rfl) ?_
    simp -implicitDefEqProofs [go_sem, h5]
    refine CC.mono (refSize_cc _ _ _) ?_
    rintro _ _ _ ⟨rfl, rfl, rfl⟩
    simp -implicitDefEqProofs [go_sem]
    generalize szR (rs0[i].pay.length : Int) = sz at hsn hsx ⊢
    refine ⟨by omega, Wp.s ?_⟩
    simp -implicitDefEqProofs [go_sem, wrap_succ (show i ≤ 1000000000 by omega)]
    refine ⟨i + 1, by omega, by omega, u + 1, ?_⟩
    rw [hsn]
    exact Sh.forget (by simp [go_sem]) (by simp [ic]) (by simp)
  rintro u -
  dsimp only
  have hrs : (rs0.take m).length = m := by rw [List.length_take]; omega
  obtain ⟨rs, hrsd⟩ : ∃ rs, rs = rs0.take m := ⟨_, rfl⟩
  have hlz : (szs rs).length = m := by rw [szs, List.length_map, hrsd, hrs]
  have emap : List.take m (rs0.map rcC) = rs.map rcC := by rw [hrsd, List.map_take]
  rw [← hrsd] at e0 hRl hck ⊢
  have hmm : m ≤ (rs0.map rcC).length := by simpa using hml
  refine SWp.seq (Wp.s ?_)
  simp -implicitDefEqProofs [go_sem, hlz]
  refine ⟨hml, ?_⟩
  rw [emap]
  obtain ⟨J, hJd⟩ : ∃ J, J = jO s c hd fi rs := ⟨_, rfl⟩
  rw [← hJd] at e0 hck
  have hJz : J.sizes = szs rs := by rw [hJd]; rfl
  have hsu := chkJ_sum hck
  have hci := (chkJ_iff J).1 hck
  have htx := tailX_sum (n := c - 16) (h := hd) (by omega) hho.1 hho.2.1 (szs rs)
  have hlm : m ≤ 4096 := by omega
  rw [hJz, hlz] at hsu
  refine SWp.seq (Wp.s ?_)
  simp -implicitDefEqProofs [go_sem]
  refine CC.le (.cons (.sh _ _ _) .nil) ?_
  refine CC.mono (sum_cc _ _ (szs rs) (by rw [← hJz]; exact hci.2.2.1) (by omega)) ?_
  rintro _ _ _ ⟨rfl, rfl, rfl⟩
  have hcJ : J.count = c := by rw [hJd]; rfl
  rw [hcJ, hnn] at hsu
  rw [hnn] at htx
  have hn0 : ¬ (n : Int) = 0 := by omega
  have w2 : IntKind.i64.wrap (hd + sumI (szs rs)) = hd + sumI (szs rs) := IntWalk.i64_in _ ⟨by omega, by omega⟩
  have t2 := Int.tmod_eq_emod_of_nonneg (b := (n : Int)) (show 0 ≤ hd + sumI (szs rs) by omega)
  simp -implicitDefEqProofs [go_sem, w2, t2, hn0]
  refine ⟨by omega, ?_⟩
  refine SWp.seq (Wp.s ?_)
  simp -implicitDefEqProofs [go_sem]
  refine SWp.seq (Wp.s ?_)
  simp -implicitDefEqProofs [go_sem]
  have hJc : [iv s, iv c, iv hd, iv ((hd + sumI (szs rs)) % (n : Int)), iv fi, .sl .sh 1 ((szs rs).map ic)] = jrC J := by rw [hJd, jO, hnn, htx]; rfl
  refine SWp.join (α := Int × CV × Hp × List Nat) (fun x => ([(4, .ptr (H.length + 2) 0), (16, .sl .sh 3 (rs.map rcC)), (18, .ptr (H.length + 3) 0), (20, x.2.1)], x.2.2.1, x.2.2.2))
    (fun x => ∃ ops, Grp s (mkJ J ct) n ops x.1 ∧ ops.length ≤ n ∧ Rep (H.length + 4) V.length ops x.2.1 x.2.2.1 x.2.2.2 ∧ x.2.2.1.take (H.length + 4) = H ++ [some (dkC d), some [iv s, iv c], some zjC, some (jrC J)] ∧ V.length ≤ x.2.2.2.length ∧ x.2.2.2.take V.length = V) ?_ ?_
  · refine SWp.seq (Wp.s ?_)
    simp -implicitDefEqProofs [go_sem]
    refine SWp.block ?_
    refine SWp.loop (α := Nat × Int × CV × Hp × List Nat) (fun x => ([(3, .ptr (H.length + 1) 0), (4, .ptr (H.length + 2) 0), (8, iv hd), (9, iv fi), (11, iv n), (12, secsV ct), (16, .sl .sh 3 (rs.map rcC)), (18, .ptr (H.length + 3) 0), (20, x.2.2.1), (21, iv x.2.1), (22, ci x.1)], x.2.2.2.1, x.2.2.2.2))
      (fun x => x.1 ≤ n ∧ (-2 ≤ x.2.1 ∧ x.2.1 ≤ n) ∧ ∃ ops, Grp s (mkJ J ct) x.1 ops x.2.1 ∧ ops.length ≤ x.1 ∧ Rep (H.length + 4) V.length ops x.2.2.1 x.2.2.2.1 x.2.2.2.2 ∧ x.2.2.2.1.take (H.length + 4) = H ++ [some (dkC d), some [iv s, iv c], some zjC, some (jrC J)] ∧ V.length ≤ x.2.2.2.2.length ∧ x.2.2.2.2.take V.length = V)
      (fun x => n - x.1) (0, -2, .v (.slice none 0 0), H ++ [some (dkC d), some [iv s, iv c], some zjC, some (jrC J)], V ++ [v, u]) ⟨Nat.zero_le _, ⟨show (-2 : Int) ≤ -2 by omega, show (-2 : Int) ≤ n by omega⟩, [], Grp.new _ _, Nat.zero_le _, .inl ⟨rfl, rfl⟩, by simp, by simp, by simp⟩ ?_ ?_
    · refine Sh.weak (b := H.length + 3) (ds := jrC J) (by rw [hget]; rfl) ?_ (by simp [CV.isObj]) (Sh.forget (by simp [go_sem]) (by simp) rfl)
      rw [← hJc]
      exact .cons (.refl _) (.cons (.refl _) (.cons (.refl _) (.cons (.refl _) (.cons (.refl _) (.cons (.sh _ _ _) .nil)))))
    rintro ⟨i, la, cv, G, W⟩ ⟨hi, ⟨hla1, hla2⟩, ops, hg, hol, hrep, hG, hW1, hW2⟩
    dsimp only at hi hla1 hla2 hg hol hrep hG hW1 hW2 ⊢
    refine SWp.seq (SWp.seq (Wp.s ?_))
    by_cases h : i < n
    case neg =>
      simp -implicitDefEqProofs [go_sem, h]
      refine Wp.s ?_
      simp -implicitDefEqProofs [go_sem]
      obtain rfl : i = n := by omega
      exact ⟨la, cv, G, W, ⟨ops, hg, hol, hrep, hG, hW1, hW2⟩, Sh.forget (by simp [go_sem]) rfl rfl⟩
    have hG1 : G[H.length + 1]? = some (some [iv s, iv c]) := take_hget hG 1 (by decide)
    have hG3 : G[H.length + 3]? = some (some (jrC J)) := take_hget hG 3 (by decide)
    have w3 : IntKind.i64.wrap ((i : Int) - hd) = (i : Int) - hd := IntWalk.i64_in _ ⟨by omega, by omega⟩
    have w4 : IntKind.i64.wrap ((i : Int) - hd + n) = (i : Int) - hd + n := IntWalk.i64_in _ ⟨by omega, by omega⟩
    have t4 := Int.tmod_eq_emod_of_nonneg (b := (n : Int)) (show 0 ≤ (i : Int) - hd + n by omega)
    simp -implicitDefEqProofs [go_sem, h]
    refine Wp.s ?_
    simp -implicitDefEqProofs [go_sem]
    refine SWp.seq (SWp.block (SWp.seq (SWp.seq ?_)))
    refine SWp.drawnT [] [] (.s 0 .pl <| .s 1 .pl <| .s 2 .pl <| .s 3 .pl <| .s 4 .pl <| .s 5 .pl <| .s 6 .pl <| .s 7 .pl <| .s 8 .pl <| .s 9 .pl <| .s 10 .pl <| .s 11 .pl <| .s 12 .pl <| .s 13 .pl <| .s 14 .pl <| .s 15 .pl <| .s 18 .pl <| .s 19 .pl <| .s 20 .pl <| .s 21 .pl <| .s 22 .pl <| .s 16 .pl <| .s 17 .pl <| .s 23 .pl <| .s 24 .pl <| .n) (by kernel_rfl) (by kernel_rfl) ?_
    simp -implicitDefEqProofs [go_sem, w3, w4, t4, hn0, hbx_of hG3]
    refine ⟨by omega, ?_⟩
    refine CC.mono (sum_cc _ _ J.sizes hci.2.2.1 (by rw [hJz, hlz]; omega)) ?_
    rintro _ _ _ ⟨rfl, rfl, rfl⟩
    have hnx : nextJ J = fi + m := by rw [nextJ, hJz, hlz, hJd]; rfl
    have hmk := mkJ_get hck (ct := ct) (by rw [hcJ]; exact hnn) i h
    have hict : i < ct.length := by omega
    have hgd : ct.getD i sec0 = ct[i] := by rw [List.getD_eq_getElem?_getD, List.getElem?_eq_getElem hict]; rfl
    have hJh : J.head = hd := by rw [hJd]; rfl
    rw [hgd, hnx, hJh, Int.add_emod_right] at hmk
    have hmn : (mkJ J ct).length = n := by rw [mkJ_len, hcJ, hnn]; rfl
    by_cases hc1 : ((i : Int) - hd) % n < sumI J.sizes
    · rw [decide_eq_true hc1] at hmk
      simp -implicitDefEqProofs [go_sem, hc1]
      refine Wp.s ?_
      simp -implicitDefEqProofs [go_sem]
      refine Wp.s ?_
      simp -implicitDefEqProofs [go_sem]
      refine ⟨i + 1, la, cv, G, W, ⟨by omega, ⟨hla1, hla2⟩, ops, hg.no hmk, by omega, hrep, hG, hW1, hW2⟩, by omega, Sh.forget ?_ rfl rfl⟩
      simp [go_sem, wrap_succ (show i ≤ 1000000000 by omega)]
    rw [decide_eq_false hc1] at hmk
    have hgl := gn_lt ct[i]
    have w5 : IntKind.i64.wrap (fi + (m : Int)) = fi + (m : Int) := IntWalk.i64_in _ ⟨by omega, by omega⟩
    have w6 : IntKind.i64.wrap (gn ct[i] : Int) = (gn ct[i] : Int) := IntWalk.i64_in _ ⟨by omega, by omega⟩
    have hJl : J.sizes.length = m := by rw [hJz, hlz]
    simp -implicitDefEqProofs [go_sem, hc1, hict, hbx_of hG3, hJl]
    refine CC.mono (sGeneration_cc _ _ ct[i]) ?_
    rintro _ _ _ ⟨rfl, rfl, rfl⟩
    by_cases hc2 : (gn ct[i] : Int) < fi + m
    · rw [decide_eq_true hc2] at hmk
      simp -implicitDefEqProofs [go_sem, w5, w6, hc2]
      refine Wp.s ?_
      simp -implicitDefEqProofs [go_sem]
      refine Wp.s ?_
      simp -implicitDefEqProofs [go_sem]
      refine ⟨i + 1, la, cv, G, W, ⟨by omega, ⟨hla1, hla2⟩, ops, hg.no hmk, by omega, hrep, hG, hW1, hW2⟩, by omega, Sh.forget ?_ rfl rfl⟩
      simp [go_sem, wrap_succ (show i ≤ 1000000000 by omega)]
    rw [decide_eq_false hc2] at hmk
    simp -implicitDefEqProofs [go_sem, w5, w6, hc2]
    refine Wp.s ?_
    simp -implicitDefEqProofs [go_sem]
    refine SWp.seq (SWp.seq (Wp.s ?_))
    have w7 : IntKind.i64.wrap (la + 1) = la + 1 := IntWalk.i64_in _ ⟨by omega, by omega⟩
    by_cases hc3 : (i : Int) = la + 1
    · obtain ⟨A, p, K, hK, hpK, hops, hg2⟩ := hg.more hmk hc3
      obtain rfl : la = (i : Int) - 1 := by omega
      have w7 : IntKind.i64.wrap (i : Int) = (i : Int) := IntWalk.i64_in _ ⟨by omega, by omega⟩
      rcases hrep with ⟨ho, _⟩ | ⟨A', a', K', b, k, v', hK', ho, hcv, hb, hk, hGb, hWk⟩
      · rw [ho] at hops; exact absurd hops (by simp)
      have hin := hops.symm.trans ho
      obtain ⟨e1, e2⟩ := List.append_inj' hin rfl
      have e3 : K = K' := by
        have := congrArg (fun l : List Opn => l.map fun x => x.data.length) e2
        simpa [opW] using this
      have e4 : s + 16 + (p : Int) = a' := by
        have := congrArg (fun l : List Opn => l.map fun x => x.pos) e2
        simpa [opW] using this
      subst e1 e3 e4 hcv
      have hXl := flat_opC A
      have hol2 : A.length + 1 ≤ i := by rw [ho] at hol; simpa using hol
      obtain ⟨X, hX⟩ : ∃ X, X = (A.map opC).flatten := ⟨_, rfl⟩
      rw [← hX] at hGb hXl
      have w8 : IntKind.i64.wrap (A.length : Int) = (A.length : Int) := IntWalk.i64_in _ ⟨by omega, by omega⟩
      rw [List.map_replicate] at hGb
      have hgx : ∀ (D : CV) (h : A.length * 3 + 2 < (X ++ [iv 0, iv (s + 16 + (p : Int)), D]).length), (X ++ [iv 0, iv (s + 16 + (p : Int)), D])[A.length * 3 + 2] = D := fun D h => by
        rw [List.getElem_append_right (by omega)]
        simp [hXl]
      have htk : ∀ (D : CV), (X ++ [iv 0, iv (s + 16 + (p : Int)), D]).take (A.length * 3 + 2) = X ++ [iv 0, iv (s + 16 + (p : Int))] := fun D => by
        rw [List.take_append, List.take_of_length_le (by omega), hXl, Nat.add_sub_cancel_left]; rfl
      have hdr : ∀ (D : CV), (X ++ [iv 0, iv (s + 16 + (p : Int)), D]).drop (A.length * 3 + 2 + 1) = [] := fun D => List.drop_eq_nil_of_le (by simp [hXl])
      simp -implicitDefEqProofs [go_sem, w7]
      refine Wp.s ?_
      simp -implicitDefEqProofs [go_sem, w8, hbx_of hGb, hgx, hWk, htk, hdr, hXl]
      refine ⟨by omega, by omega, by omega, ?_⟩
      refine Wp.s ?_
      simp -implicitDefEqProofs [go_sem]
      refine Wp.s ?_
      simp -implicitDefEqProofs [go_sem]
      have hbG : b < G.length := (List.getElem?_eq_some_iff.1 hGb).1
      have hkW : k < W.length := (List.getElem?_eq_some_iff.1 hWk).1
      refine ⟨i + 1, i, .bsa b (A.length + 1) 3, _, W.set k (v' + 1), ⟨by omega, ⟨by omega, by omega⟩, _, hg2, by simpa using by omega, .inr ⟨A, _, K + 1, b, k, v' + 1, by omega, rfl, rfl, hb, hk, by rw [List.getElem?_set_self hbG], List.getElem?_set_self hkW⟩, by rw [List.take_set_of_le hb]; exact hG, by simpa using hW1, by rw [List.take_set_of_le hk]; exact hW2⟩, by omega, Sh.forget ?_ ?_ rfl⟩
      · simp [go_sem, wrap_succ (show i ≤ 1000000000 by omega)]
      · rw [hX, List.map_replicate, List.replicate_succ']
        rfl
    have hGl : H.length + 4 ≤ G.length := by
      have := congrArg List.length hG
      simp at this; omega
    have hi2 : IntKind.i64.wrap (s + 16 + (i : Int)) = s + 16 + (i : Int) := IntWalk.i64_in _ ⟨by omega, by omega⟩
    have hg2 := hg.open hmk hc3
    rcases hrep with ⟨ho, hcv⟩ | ⟨A, a', K, b, k, v', hK, ho, hcv, hb, hk, hGb, hWk⟩
    · subst ho hcv
      simp -implicitDefEqProofs [go_sem, w7, hc3]
      refine SWp.condF (by simp [go_sem]) ?_
      refine SWp.opx (pre := [_, _, _, _, _, _, _, _, _, _]) (post := [_]) rfl (by intro c e; cases e) ?_
      simp -implicitDefEqProofs [go_sem, hbx_of hG1, ws, hi2]
      refine ⟨_, _, _, appboxN (sz := 3) (tk := .ti) (ys := [[iv 0, iv (s + 16 + (i : Int)), .sl .ti 8 [secC sec0]]]) slTy38 slTy38 (by decide) rfl rfl (by simp) (by simp), ?_⟩
      simp -implicitDefEqProofs [go_sem]
      refine Wp.s ?_
      simp -implicitDefEqProofs [go_sem]
      refine Wp.s ?_
      simp -implicitDefEqProofs [go_sem]
      refine ⟨i + 1, i, .bsa G.length 1 3, G ++ [some [iv 0, iv (s + 16 + (i : Int)), .sl (.own W.length 0) 8 [secC sec0]]], W ++ [0], ⟨by omega, ⟨by omega, by omega⟩, _, hg2, by simp, .inr ⟨[], _, 1, G.length, W.length, 0, by omega, rfl, rfl, by omega, by omega, by simp, at_len _ _⟩, ?_, by simp; omega, by rw [List.take_append_of_le_length hW1]; exact hW2⟩, by omega, Sh.tokL (b := G.length) (ds := [iv 0, iv (s + 16 + (i : Int)), .sl (.own W.length 0) 8 [secC sec0]]) (at_len _ _) ⟨.le (.refl _), .le (.refl _), .ti, trivial⟩ ?_ ?_ (by simp) rfl⟩
      · rw [List.take_append_of_le_length hGl]; exact hG
      · simp [CV.isObj]
      · simp [go_sem, wrap_succ (show i ≤ 1000000000 by omega)]
    · subst hcv
      have hol2 : A.length + 1 ≤ i := by rw [ho] at hol; simpa using hol
      have hXl := flat_opC A
      obtain ⟨X, hX⟩ : ∃ X, X = (A.map opC).flatten := ⟨_, rfl⟩
      rw [← hX] at hGb hXl
      have hbG : b < G.length := (List.getElem?_eq_some_iff.1 hGb).1
      simp -implicitDefEqProofs [go_sem, w7, hc3]
      refine Wp.s ?_
      simp -implicitDefEqProofs [go_sem, hbx_of hG1, hbx_of hGb, ws, hi2, hXl]
      refine ⟨by omega, by omega, ?_⟩
      refine Wp.s ?_
      simp -implicitDefEqProofs [go_sem]
      refine Wp.s ?_
      simp -implicitDefEqProofs [go_sem]
      refine ⟨i + 1, i, .bsa G.length (A.length + 1 + 1) 3, G.set b none ++ [some (X ++ [iv 0, iv a', .sl .sh 8 (List.replicate K (secC sec0)), iv 0, iv (s + 16 + (i : Int)), .sl (.own W.length 0) 8 [secC sec0]])], W ++ [0], ⟨by omega, ⟨by omega, by omega⟩, _, hg2, by simpa using hol, .inr ⟨A ++ [opW a' (List.replicate K sec0)], _, 1, G.length, W.length, 0, by omega, by rw [ho], by rw [List.length_append]; rfl, by omega, by omega, ?_, at_len _ _⟩, ?_, by simp; omega, by rw [List.take_append_of_le_length hW1]; exact hW2⟩, by omega, Sh.tokL (b := G.length) (ds := X ++ [iv 0, iv a', .sl .sh 8 (List.replicate K (secC sec0)), iv 0, iv (s + 16 + (i : Int)), .sl (.own W.length 0) 8 [secC sec0]]) (set_last _ _ _) (.app (.rfl' _ _) ⟨.le (.refl _), .le (.refl _), .le (.sh _ _ _), .le (.refl _), .le (.refl _), .ti, trivial⟩) ?_ ?_ (set_last2 _ _ _ _) rfl⟩
      · rw [set_last, List.map_append, List.flatten_append, hX, List.append_assoc, show (List.map opC [opW a' (List.replicate K sec0)]).flatten = [iv 0, iv a', .sl .sh 8 ((List.replicate K sec0).map secC)] from rfl, List.map_replicate]
        rfl
      · rw [List.take_append_of_le_length (by simp; omega), List.take_set_of_le hb]; exact hG
      · intro x hx
        rcases List.mem_append.1 hx with hx | hx
        · exact noObj_ops A x (hX ▸ hx)
        · simp only [List.mem_cons, List.not_mem_nil, or_false] at hx
          rcases hx with rfl | rfl | rfl | rfl | rfl | rfl <;> rfl
      · simp [go_sem, wrap_succ (show i ≤ 1000000000 by omega)]
  rintro ⟨la, cv, G, W⟩ ⟨ops, hg, hol, hrep, hG, hW1, hW2⟩
  dsimp only at hg hol hrep hG hW1 hW2 ⊢
  have hG2 : G[H.length + 2]? = some (some zjC) := take_hget hG 2 (by decide)
  have hG3 : G[H.length + 3]? = some (some (jrC J)) := take_hget hG 3 (by decide)
  have hGl : H.length + 4 ≤ G.length := by
    have := congrArg List.length hG
    simp at this; omega
  have hGH : G.take H.length = H := by
    have := congrArg (List.take H.length) hG
    rwa [List.take_take, Nat.min_eq_left (by omega), List.take_left] at this
  have hR := remX_eq J ct
  rw [show J.start = s by rw [hJd]; rfl, hg.stop (by rw [mkJ_len, hcJ, hnn]; simp)] at hR
  refine SWp.seq (SWp.seq (Wp.s ?_))
  rcases hrep with ⟨ho, hcv⟩ | ⟨A, a', K, b, k, v', hK, ho, hcv, hb, hk, hGb, hWk⟩
  · subst ho hcv
    rw [if_pos rfl] at hR
    rw [hR] at e0
    simp -implicitDefEqProofs [go_sem]
    refine Wp.s ?_
    simp -implicitDefEqProofs [go_sem]
    refine Wp.s ?_
    simp -implicitDefEqProofs [go_sem, hbx_of hG2, hbx_of hG3]
    rw [hbx_of (List.getElem?_set_self (by omega))]
    refine ⟨by simp, ?_⟩
    rw [e0, jrC_take]
    exact Fin.pu (.tup (.cons (.refl _) (.cons (.refl _) (.cons (.nil 3 (by decide)) (.cons (.refl _) .nil))))) (okV_opV _ _ _) hokH (by rw [List.take_set_of_le (by omega)]; exact hGH) hW2
  · subst hcv
    have hXl := flat_opC A
    obtain ⟨X, hX⟩ : ∃ X, X = (A.map opC).flatten := ⟨_, rfl⟩
    rw [← hX] at hGb hXl
    have hbG : b < G.length := (List.getElem?_eq_some_iff.1 hGb).1
    have hol2 : A.length + 1 ≤ n := by rw [ho] at hol; simpa using hol
    rw [if_neg (by rw [ho]; simp)] at hR
    rw [hR] at e0
    have hS2 : ∀ (z : List CV) (K : List CV → Prop), hbx (G.set b none ++ [some z]) (H.length + 2) K = K zjC := fun z K => hbx_of (by rw [List.getElem?_append_left (by simp; omega), List.getElem?_set_ne (by omega)]; exact hG2) K
    have hS3 : ∀ (z : List CV) (K : List CV → Prop), hbx (G.set b none ++ [some z]) (H.length + 3) K = K (jrC J) := fun z K => hbx_of (by rw [List.getElem?_append_left (by simp; omega), List.getElem?_set_ne (by omega)]; exact hG3) K
    simp -implicitDefEqProofs [go_sem]
    refine Wp.s ?_
    simp -implicitDefEqProofs [go_sem, hbx_of hGb, hXl]
    refine ⟨by omega, by omega, ?_⟩
    refine Wp.s ?_
    simp -implicitDefEqProofs [go_sem, hS2, hS3]
    rw [hbx_of (List.getElem?_set_self (by simp; omega))]
    refine ⟨by simp, ?_⟩
    rw [e0, jrC_take]
    have hbb : b ≠ G.length := by omega
    have hlast : ∀ (z : List CV), ((G.set b none ++ [some z]).set (H.length + 2) (some (jrC J)))[G.length]? = some (some z) := fun z => by
      rw [List.getElem?_set_ne (by omega)]; exact set_last G b z
    have hops : (ops ++ [opS]).length = A.length + 1 + 1 := by rw [ho]; simp
    have hflat : ((ops ++ [opS]).map opC).flatten = X ++ [iv 0, iv a', .sl .sh 8 (List.replicate K (secC sec0)), iv 1, iv 0, .sl .sh 8 []] := by
      rw [ho, hX, List.map_append, List.map_append, List.flatten_append, List.flatten_append, show (List.map opC [opW a' (List.replicate K sec0)]).flatten = [iv 0, iv a', .sl .sh 8 ((List.replicate K sec0).map secC)] from rfl, List.map_replicate, List.append_assoc]
      rfl
    refine Fin.weak (b := G.length) (ds := ((ops ++ [opS]).map opC).flatten) (hlast _) (by rw [hflat]; exact LeL.app (LeL.rfl' _) (.cons (.refl _) (.cons (.refl _) (.cons (.sh _ _ _) (.cons (.refl _) (.cons (.refl _) (.cons (.nil 8 (by decide)) .nil)))))))
      (fun x hx => by
        rcases List.mem_append.1 hx with hx | hx
        · exact noObj_ops A x (hX ▸ hx)
        · simp only [List.mem_cons, List.not_mem_nil, or_false] at hx
          rcases hx with rfl | rfl | rfl | rfl | rfl | rfl <;> rfl) ?_
    have hGs : (((G.set b none ++ [some (X ++ [iv 0, iv a', .sl (.own k v') 8 (List.replicate K (secC sec0)), iv 1, iv 0, .v (.slice none 0 0)])]).set (H.length + 2) (some (jrC J))).length) = G.length + 1 := by simp
    refine Fin.frozG (b := G.length) (cs := ((ops ++ [opS]).map opC).flatten) (r1 := .tup [.agg (jrC J), .sl .sh 3 (rs.map rcC), .bsl G.length 0 (ops ++ [opS]).length 3, er 0]) (r2 := opV (J, rs, ops ++ [opS], 0)) ⟨rfl, rfl, rfl⟩ ?_ (List.getElem?_set_self (by rw [hGs]; omega)) ?_ (by omega) (okV_opV _ _ _) hokH ?_ hW2
    · rw [hops]
      exact .tup (.cons (.refl _) (.cons (.refl _) (.cons (.bsa _ _ _) (.cons (.refl _) .nil))))
    · have := Fz.bsl (b := G.length) (cs := ((ops ++ [opS]).map opC).flatten) 0 (ops ++ [opS]).length 3 (by rw [flat_opC]; omega)
      rw [List.drop_zero, chunks_ops] at this
      exact .tup (.cons (.refl _) (.cons (.refl _) (.cons this (.cons (.refl _) .nil))))
    · rw [List.take_set_of_le (by omega), List.take_set_of_le (by omega), List.take_append_of_le_length (by simp; omega), List.take_set_of_le (by omega)]
      exact hGH
end Go.Proofs.YtbnkggbpocaaiaaGreatDoor
