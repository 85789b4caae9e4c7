import Derived.Test.YtmgoflhjblombaaDoorA6
import Derived.Test.YtmgoflhjblombaaDoorA4
import Derived.Test.YtmgoflhjblombaaDoorA5
import Derived.Test.YtmgoflhjblombaaDoorA3
import Derived.ProofKit
import Derived.OpenShut
import Derived.Below
set_option linter.unusedSimpArgs false
set_option linter.unusedVariables false
set_option linter.unusedSectionVars false
namespace Go.Proofs.YtmgoflhjblombaaDoor
open Go.Proofs
theorem taR (v : Value) (w : World) : (Instr.typeAssert (.iface 148 v) 20 148 true).run Tryd.prog w = .ok (.tuple #[v, .bool true]) w := by
  simp [Instr.typeAssert, go_sem]
theorem retDecR : RetD Tryd.prog 84 3 := ⟨⟨_, Tryd.func84, rfl, by kernel_rfl⟩, fun us w hs => by
  obtain ⟨a, b, c, rfl⟩ : ∃ a b c, us = #[a, b, c] := by
    rcases us with ⟨l⟩
    match l, hs with
    | [a, b, c], _ => exact ⟨a, b, c, rfl⟩
  refine callsD_of_wpS Tryd.func84 rfl fun c₀ cs hu => ?_
  apply wpS_seq
  apply wpS_region
  simp [wpOpsS, go_sem, recoverD, hu, Tryd.ntmps84, Exit.thenS]
  apply wpS_seq
  apply wpS_region
  simp [wpOpsS, go_sem, recoverD, hu, Tryd.ntmps84, Exit.thenS]
  refine wpS_cond (t := false) (by simp [Act.eval, Array.replicate]) ?_
  simp only [Bool.false_eq_true, if_false]
  refine wpS_of_wp (wp_skip ?_)
  cases c₀
  simp_all [bodyPostS, results, Tryd.results84]⟩
def rcZ : List CV := [iv 0, iv 0, .v (.slice none 0 0)]
theorem catchDecR (H : Hp) (V : List Nat) (a b c k : Nat) (cs : List CV) (x y : CV) (ha : H[a]? = some (some cs)) (hb : H[b]? = some (some [x])) (hc : H[c]? = some (some [y])) (hab : a ≠ b) (hac : a ≠ c) (hbc : b ≠ c) (hcs : cs.length = 3) :
    CD Tryd.prog 84 [.ptr a 0, .ptr b 0, .ptr c 0] (panR k) H V (fun H' V' => ∃ M, H' = (((H.set a (some rcZ)).set b (some [iv 0])).set c (some [er k])) ++ M ∧ V' = V) := by
  refine CD.of_swp Tryd.func84 rfl (by kernel_rfl) Tryd.results84 (by rw [Tryd.ntmps84]; exact len_le _ _ rfl) (by rw [Tryd.ntmps84]; decide) (by rw [Tryd.ntmps84]; decide) (by rw [Tryd.ntmps84]; decide) (by rw [Tryd.ntmps84]; decide) ?_ (SWp.seq (Wp.s ?_))
  · intro w A h
    have h' : A.tmps[7]?.getD undef = .iface 148 (.agg #[.int .i64 k]) := by simpa [Act.eval] using h
    simp [go_sem, h']
  have hb1 : (H.set a (some rcZ))[b]? = some (some [x]) := by rw [List.getElem?_set_ne hab]; exact hb
  have hc1 : ((H.set a (some rcZ)).set b (some [iv 0]))[c]? = some (some [y]) := by rw [List.getElem?_set_ne hbc, List.getElem?_set_ne hac]; exact hc
  unfold rcZ at hb1 hc1 ⊢
  simp -implicitDefEqProofs [go_sem, args0, hbx_some ha, hcs, hbx_some hb1, hbx_some hc1, List.drop_eq_nil_of_le (show cs.length ≤ 3 by omega)]
  obtain ⟨H3, hH3⟩ : ∃ H3, H3 = (H.set a (some [iv 0, iv 0, .v (.slice none 0 0)])).set b (some [iv 0]) := ⟨_, rfl⟩
  have hcl : c < H3.length := by rw [hH3, List.length_set, List.length_set]; exact lt_of_box hc
  have hln : H3.length = H.length := by rw [hH3, List.length_set, List.length_set]
  rw [← hH3]
  obtain ⟨H4, hH4⟩ : ∃ H4, H4 = H3.set c (some [iv 3]) := ⟨_, rfl⟩
  have hc4 : H4[c]? = some (some [iv 3]) := by rw [hH4, List.getElem?_set_self hcl]
  have hs4 : ∀ y : List CV, H4.set c (some y) = H3.set c (some y) := fun y => by rw [hH4, List.set_set]
  have hl4 : H4.length = H.length := by rw [hH4, List.length_set, hln]
  rw [← hH4, ← hl4]
  refine SWp.seq (SWp.tassert (pre := [_]) (post := [_, _, _, _, _, _]) ?_)
  simp -implicitDefEqProofs [go_sem]
  refine ⟨.agg [ci k], 148, _, ⟨rfl, rfl⟩, fun m w V => ?_, fun A w hA => ?_, ?_⟩
  · rw [RelV]; exact ⟨[_], rfl, by rw [RelL]; exact ⟨_, _, rfl, by rw [RelV], by rw [RelL]⟩⟩
  · rw [hA, taR]; rfl
  simp -implicitDefEqProofs [go_sem]
  refine SWp.seq (Wp.s ?_)
  simp -implicitDefEqProofs [go_sem]
  have hcc : (H4 ++ [some [ci k]])[c]? = some (some [iv 3]) := by rw [List.getElem?_append_left (lt_of_box hc4)]; exact hc4
  refine Wp.s ?_
  simp -implicitDefEqProofs [go_sem, hbx_of hcc]
  refine Fin.self ⟨⟨[some [ci k]], ?_⟩, rfl⟩
  rw [List.set_append_left _ _ (lt_of_box hc4), hs4]
theorem okV_dcV (i j : Nat) (x : Except Nat (Rcd × Nat)) : okV i j (dcV x) := by
  cases x <;> simp only [dcV] <;> rw [okV, okL, okL, okL, okL] <;> exact ⟨by rw [okV, okL_rcC]; trivial, by rw [okV]; trivial, okV_er _ _ _, trivial⟩
theorem rcZ_le : Le (.agg rcZ) (.agg (rcC zrc)) := .agg (.cons (.refl _) (.cons (.refl _) (.cons (.nil 1 (by decide)) .nil)))
theorem begE_spec {s : Sec} {l : List Sec} {n : Nat} (h : begE (s :: l) = .ok n) : n = szN s ∧ n ≤ (s :: l).length ∧ gn s ≠ 0 ∧ lenR s ≤ 4096 := by
  by_cases h1 : gn s = 0
  · rw [begE_7 h1] at h; cases h
  by_cases h2 : 4096 < lenR s
  · rw [begE_5 h1 h2] at h; cases h
  by_cases h3 : (s :: l).length < szN s
  · rw [begE_10 h1 h2 h3] at h; cases h
  cases h4 : ((s :: l).take (szN s)).all (fun x => gn x == gn s) with
  | false => rw [begE_torn h1 h2 h3 h4] at h; cases h
  | true =>
    rw [begE_ok h1 h2 h3 h4] at h
    cases h
    exact ⟨rfl, by omega, h1, by omega⟩
theorem lnS_data (s : Sec) (l : List Sec) (n : Nat) (hn : 1 ≤ n) : lnS (dataS ((s :: l).take n)) = lenR s := by
  obtain ⟨m, rfl⟩ : ∃ m, n = m + 1 := ⟨n - 1, by omega⟩
  rw [List.take_succ_cons, dataS, List.flatMap_cons, lnS, lenR]
  have h8 := s.len
  generalize s.val = v at h8
  match v, h8 with
  | [a, b, c, d, e, f, g, h], _ => simp [leV]
set_option maxRecDepth 8000 in
set_option maxHeartbeats 4000000 in
theorem RDecode_cc (H : Hp) (V : List Nat) (l : List Sec) (hl : l.length ≤ 100000) : CC Tryd.prog 73 [secsV l] H V (Pu (dcV (decX l)) H V) := by
  refine CC.of_deferX (pre := [_]) Tryd.func73 rfl (by kernel_rfl) (by rw [Tryd.ntmps73]; exact len_le _ _ rfl) retDecR fun hok hokH => Wp.s ?_
  clear hok
  simp -implicitDefEqProofs [go_sem, args0]
  refine SWp.seq (Wp.s ?_)
  simp -implicitDefEqProofs [go_sem]
  refine SWp.seq (SWp.callx (pre := [_, _]) (post := []) ?_)
  simp -implicitDefEqProofs [go_sem]
  have hb3 : (H ++ [some [iv 0, iv 0, .v (.slice none 0 0)], some [iv 0], some [iv 0], some rdZ])[H.length + 3]? = some (some rdZ) := by rw [hget]; rfl
  have stop : ∀ (k : Nat) (L : Hp) (W : List Nat), decX l = .error k → CD Tryd.prog 84 [.ptr H.length 0, .ptr (H.length + 1) 0, .ptr (H.length + 2) 0] (panR k)
      (H ++ some [iv 0, iv 0, .v (.slice none 0 0)] :: some [iv 0] :: some [iv 0] :: L) (V ++ W)
      fun H' V' => hbx H' H.length fun cs => 3 ≤ cs.length ∧ hbx H' (H.length + 1) fun cs_1 => ∃ h : 0 < cs_1.length, hbx H' (H.length + 2) fun cs_2 => ∃ h_1 : 0 < cs_2.length,
        Fin H.length V.length (Pu (dcV (decX l)) H V) (.tup [.agg (cs.take 3), cs_1[0], cs_2[0]]) H' V' := fun k L W hk => by
    refine (catchDecR _ _ _ _ _ k _ _ _ (by rw [at_len]; rfl) (by rw [at_len_add]; rfl) (by rw [at_len_add]; rfl) (by omega) (by omega) (by omega) rfl).mono ?_
    rintro _ _ ⟨M, rfl, rfl⟩
    simp -implicitDefEqProofs [go_sem, rcZ]
    rw [hk]
    exact Fin.pu (.tup (.cons rcZ_le (.cons (.refl _) (.cons (.refl _) .nil)))) (okV_dcV _ _ (.error k)) hokH (by simp) (by simp)
  refine CX.mono (begin_cx _ V (H.length + 3) l hb3 (by omega)) ?_ ?_
  case refine_2 =>
    rintro _ _ _ ⟨e, cs, L, W, hbeg, rfl, rfl, rfl⟩
    simp -implicitDefEqProofs [go_sem]
    exact stop e (some cs :: L) W (by rw [decX, hbeg])
  rintro _ _ _ ⟨s, l', n, hll, hbeg, rfl, rfl, rfl⟩
  simp -implicitDefEqProofs [go_sem]
  subst hll
  obtain ⟨hn, hnl, hg0, hle⟩ := begE_spec hbeg
  have hn1 : 1 ≤ n := by rw [hn, szN]; omega
  have hD : decX (s :: l') = (match recE (dataS ((s :: l').take n)) (gn s) with | .error e => .error e | .ok r => .ok (r, n)) := by rw [decX, hbeg]; rfl
  have hst : (dataS ((s :: l').take n)).length = 4 * n := by rw [dataS_len, List.length_take, Nat.min_eq_left hnl]
  have hls : 7 + lnS (dataS ((s :: l').take n)) ≤ (dataS ((s :: l').take n)).length := by rw [hst, lnS_data _ _ _ hn1, hn, szN]; omega
  generalize dataS ((s :: l').take n) = st at hD hst hls ⊢
  generalize decX (s :: l') = dx at hD stop ⊢
  have hb4 : ∀ c : List UInt8, (H ++ [some [iv 0, iv 0, .v (.slice none 0 0)], some [iv 0], some [iv 0], some (rdB c (ci (gn s)) (ci n))])[H.length + 3]? = some (some (rdB c (ci (gn s)) (ci n))) := fun c => by rw [hget]; rfl
  refine SWp.seq (SWp.ghost (T' := [(5, .ptr (H.length + 3) 0), (2, .ptr H.length 0), (3, .ptr (H.length + 1) 0), (4, .ptr (H.length + 2) 0)]) (Gst.forget (TLe.get (by simp [go_sem]))) ?_)
  refine SWp.drawnY (.f 0 false (.f 1 true (.f 2 false (.f 3 false (.f 4 false (.f 5 false (.s 6 false (.s 7 false (.s 8 false (.n)))) 6 false (.s 5 false (.s 7 false (.s 8 false (.n))))) 6 false (.s 4 false (.s 5 false (.s 7 false (.s 8 false (.n)))))) 6 false (.s 3 false (.s 4 false (.s 5 false (.s 7 false (.s 8 false (.n))))))) 6 false (.s 2 false (.s 3 false (.s 4 false (.s 5 false (.s 7 false (.s 8 false (.n)))))))) 2 false (.f 1 true (.f 3 false (.f 4 false (.f 5 false (.s 6 false (.s 7 false (.s 8 false (.n)))) 6 false (.s 5 false (.s 7 false (.s 8 false (.n))))) 6 false (.s 4 false (.s 5 false (.s 7 false (.s 8 false (.n)))))) 6 false (.s 3 false (.s 4 false (.s 5 false (.s 7 false (.s 8 false (.n))))))) 3 false (.f 1 true (.f 4 false (.f 5 false (.s 6 false (.s 7 false (.s 8 false (.n)))) 6 false (.s 5 false (.s 7 false (.s 8 false (.n))))) 6 false (.s 4 false (.s 5 false (.s 7 false (.s 8 false (.n)))))) 4 false (.f 1 true (.f 5 false (.s 6 false (.s 7 false (.s 8 false (.n)))) 6 false (.s 5 false (.s 7 false (.s 8 false (.n))))) 5 false (.s 1 true (.s 6 false (.s 7 false (.s 8 false (.n))))))))) 2 false (.f 0 false (.f 1 true (.f 3 false (.f 4 false (.f 5 false (.s 6 false (.s 7 false (.s 8 false (.n)))) 6 false (.s 5 false (.s 7 false (.s 8 false (.n))))) 6 false (.s 4 false (.s 5 false (.s 7 false (.s 8 false (.n)))))) 6 false (.s 3 false (.s 4 false (.s 5 false (.s 7 false (.s 8 false (.n))))))) 3 false (.f 1 true (.f 4 false (.f 5 false (.s 6 false (.s 7 false (.s 8 false (.n)))) 6 false (.s 5 false (.s 7 false (.s 8 false (.n))))) 6 false (.s 4 false (.s 5 false (.s 7 false (.s 8 false (.n)))))) 4 false (.f 1 true (.f 5 false (.s 6 false (.s 7 false (.s 8 false (.n)))) 6 false (.s 5 false (.s 7 false (.s 8 false (.n))))) 5 false (.s 1 true (.s 6 false (.s 7 false (.s 8 false (.n)))))))) 3 false (.f 0 false (.f 1 true (.f 4 false (.f 5 false (.s 6 false (.s 7 false (.s 8 false (.n)))) 6 false (.s 5 false (.s 7 false (.s 8 false (.n))))) 6 false (.s 4 false (.s 5 false (.s 7 false (.s 8 false (.n)))))) 4 false (.f 1 true (.f 5 false (.s 6 false (.s 7 false (.s 8 false (.n)))) 6 false (.s 5 false (.s 7 false (.s 8 false (.n))))) 5 false (.s 1 true (.s 6 false (.s 7 false (.s 8 false (.n))))))) 4 false (.f 0 false (.f 1 true (.f 5 false (.s 6 false (.s 7 false (.s 8 false (.n)))) 6 false (.s 5 false (.s 7 false (.s 8 false (.n))))) 5 false (.s 1 true (.s 6 false (.s 7 false (.s 8 false (.n)))))) 5 false (.s 0 false (.s 1 true (.s 6 false (.s 7 false (.s 8 false (.n)))))))))) (by kernel_rfl) (by kernel_rfl) ?_
  simp -implicitDefEqProofs [go_sem, rdB]
  repeat' (with_reducible refine And.intro ?_ ?_)
  all_goals
    refine stepY_x rfl rfl (by simp [go_sem]) ?_
    simp -implicitDefEqProofs [go_sem]
    refine CX.mono (record_cx _ V (H.length + 3) st (gn s) n (hb4 st) hls (by simp at hl; simp at hnl; omega)) ?_ ?_
    case refine_2 =>
      rintro _ _ _ ⟨e, cs, L, W, hrec, rfl, rfl, rfl⟩
      simp -implicitDefEqProofs [go_sem]
      exact stop e (some cs :: L) W (by rw [hD, hrec])
    rintro _ _ _ ⟨rec, rest, hrec, rfl, rfl, rfl⟩
    rw [hrec] at hD
    subst hD
    simp -implicitDefEqProofs [go_sem, rdB]
    repeat' (with_reducible refine And.intro ?_ ?_)
    all_goals
      refine Wp.s ?_
      simp -implicitDefEqProofs [go_sem]
      exact Fin.pu (.refl _) (okV_dcV _ _ (.ok (rec, n))) hokH (by simp) (by simp)
end Go.Proofs.YtmgoflhjblombaaDoor
namespace Go.Proofs.YtmgoflhjblombaaDoor
open Go.Proofs
def scanX : Nat → List Sec → Int → List Rcd × Nat
  | 0, _, _ => ([], 0)
  | f + 1, l, sq =>
    if sq < 1 then ([], 0) else
    match decX l with
    | .error _ => ([], 0)
    | .ok (r, n) => if r.sq ≠ sq then ([], 0) else (r :: (scanX f (l.drop n) (sq + 1)).1, n + (scanX f (l.drop n) (sq + 1)).2)
def scanA (l : List Sec) (sq : Int) : List Rcd × Nat := scanX (l.length + 1) l sq
theorem decX_n {l : List Sec} {r : Rcd} {n : Nat} (h : decX l = .ok (r, n)) : 2 ≤ n ∧ n ≤ l.length := by
  cases l with
  | nil => rw [decX, begE_0] at h; cases h
  | cons s l =>
    unfold decX at h
    split at h
    · cases h
    · rename_i m hm
      split at h
      · cases h
      · cases h
        obtain ⟨h1, h2, _⟩ := begE_spec hm
        exact ⟨by rw [h1, szN]; omega, h2⟩
@[go_sem] theorem okE_rcs' (i j : Nat) (l : List Rcd) : okE i j (l.map rcC) = True := okE_rcs i j l
theorem decX_err {l : List Sec} {e : Nat} (h : decX l = .error e) : e ≠ 0 := by
  have hb : ∀ {l : List Sec} {e : Nat}, begE l = .error e → e ≠ 0 := by
    intro l e h
    cases l with
    | nil => rw [begE_0] at h; cases h; decide
    | cons s l =>
      unfold begE at h
      dsimp only at h
      split at h
      · cases h; decide
      · split at h
        · cases h; decide
        · split at h
          · cases h; decide
          · split at h
            · cases h; decide
            · cases h
  unfold decX at h
  split at h
  · rename_i e' he; cases h; exact hb he
  · split at h
    · rename_i e' he
      cases h
      unfold recE at he
      split at he
      · cases he; decide
      · split at he
        · cases he; decide
        · cases he
    · cases h
/-- What has been read, and what is left to read. -/
def ScI (l : List Sec) (sq : Int) (out : List Rcd) (a : Nat) (f : Nat) : Prop := scanA l sq = (out ++ (scanX f (l.drop a) (sq + out.length)).1, a + (scanX f (l.drop a) (sq + out.length)).2) ∧ a ≤ l.length ∧ l.length - a < f ∧ out.length ≤ a
theorem ScI.stop {l : List Sec} {sq : Int} {out : List Rcd} {a f : Nat} (h : ScI l sq out a f) (hs : scanX f (l.drop a) (sq + out.length) = ([], 0)) : scanA l sq = (out, a) := by
  have := h.1
  rw [hs, List.append_nil] at this
  exact this
theorem ScI.less {l : List Sec} {sq : Int} {out : List Rcd} {a f : Nat} (h : ScI l sq out a f) (hs : sq + out.length < 1) : scanA l sq = (out, a) := h.stop (by
  cases f with
  | zero => rfl
  | succ f => rw [scanX, if_pos hs])
theorem ScI.err {l : List Sec} {sq : Int} {out : List Rcd} {a f : Nat} {e : Nat} (h : ScI l sq out a f) (he : decX (l.drop a) = .error e) : scanA l sq = (out, a) := h.stop (by
  cases f with
  | zero => rfl
  | succ f =>
    rw [scanX, he]
    split <;> rfl)
theorem ScI.other {l : List Sec} {sq : Int} {out : List Rcd} {a f : Nat} {r : Rcd} {n : Nat} (h : ScI l sq out a f) (he : decX (l.drop a) = .ok (r, n)) (hr : r.sq ≠ sq + out.length) : scanA l sq = (out, a) := h.stop (by
  cases f with
  | zero => rfl
  | succ f =>
    rw [scanX, he]
    dsimp only
    rw [if_pos hr]
    split <;> rfl)
theorem ScI.next {l : List Sec} {sq : Int} {out : List Rcd} {a f : Nat} {r : Rcd} {n : Nat} (h : ScI l sq out a f) (hs : ¬ sq + out.length < 1) (he : decX (l.drop a) = .ok (r, n)) (hr : r.sq = sq + out.length) : ∃ f', ScI l sq (out ++ [r]) (a + n) f' := by
  obtain ⟨h1, h2, h3, h4⟩ := h
  have hn := decX_n he
  rw [List.length_drop] at hn
  cases f with
  | zero => omega
  | succ f =>
    refine ⟨f, ?_, by omega, by omega, by rw [List.length_append, List.length_singleton]; omega⟩
    rw [h1, scanX, if_neg hs, he]
    dsimp only
    rw [if_neg (by simpa using hr), List.drop_drop, List.length_append, List.length_singleton]
    have e : sq + ((out.length + 1 : Nat) : Int) = sq + out.length + 1 := by omega
    rw [e, List.append_assoc]
    exact Prod.ext rfl (by show a + (n + _) = a + n + _; omega)
theorem Sh.trim0 {n : Nat} {T T' : Tm} {H0 H : Hp} {V0 V V' : List Nat} (h : TLe T T') (hT : TOk H0.length V'.length T') (hokH : ∀ (b : Nat) cs, H0[b]? = some (some cs) → okL H0.length V0.length cs) (hV0 : V0.length ≤ V'.length) (eH : H.take H0.length = H0) (eV : V.take V'.length = V') : Sh n H0.length V0.length T H V (T', H0, V') := by
  have := Sh.trim (n := n) (T := T) (H := H) (L := []) h (by simpa using hT) hokH trivial hV0 (by simpa using eH) eV
  simpa using this
def scV (x : List Rcd × Nat) : CV := .tup [.sl .sh 3 (x.1.map rcC), ci x.2]
set_option maxRecDepth 8000 in
theorem Scan_cc (H : Hp) (V : List Nat) (l : List Sec) (sq : Int) (hl : l.length ≤ 100000) (hsq : sq ≤ 10000000000) (hsq2 : -10000000000 ≤ sq) : CC Tryd.prog 49 [secsV l, iv sq] H V (Pu (scV (scanA l sq)) H V) := by
  refine CC.of_swp Tryd.func49 rfl (by kernel_rfl) (by rw [Tryd.ntmps49]; exact len_le _ _ rfl) fun hok hokH => ?_
  clear hok
  refine SWp.seq (Wp.s ?_)
  simp -implicitDefEqProofs [go_sem, args0]
  refine SWp.seq (Wp.s ?_)
  simp -implicitDefEqProofs [go_sem]
  refine SWp.seq (Wp.s ?_)
  simp -implicitDefEqProofs [go_sem]
  refine SWp.join (α := List Rcd × Nat × Nat) (fun x => ([(6, .sl (.own V.length x.2.2) 3 (x.1.map rcC)), (7, ci x.2.1)], H, V ++ [x.2.2])) (fun x => scanA l sq = (x.1, x.2.1)) ?_ ?_
  · refine SWp.block ?_
    refine SWp.loop (α := List Rcd × Nat × Nat) (fun x => ([(0, secsV l), (1, iv (sq + x.1.length)), (6, .sl (.own V.length x.2.2) 3 (x.1.map rcC)), (7, ci x.2.1)], H, V ++ [x.2.2])) (fun x => ∃ f, ScI l sq x.1 x.2.1 f) (fun x => l.length - x.2.1) ([], 0, 0) ⟨l.length + 1, by simp [scanA], Nat.zero_le _, by simp, by simp⟩ (Sh.tokT (by simp [go_sem]) rfl rfl) ?_
    rintro ⟨out, a, v⟩ ⟨f, hi⟩
    dsimp only at hi ⊢
    have hal := hi.2.1
    have hol := hi.2.2.2
    refine SWp.seq (SWp.seq (Wp.s ?_))
    by_cases h1 : 1 ≤ sq + out.length
    case neg =>
      simp -implicitDefEqProofs [go_sem, h1]
      refine Wp.s ?_
      simp -implicitDefEqProofs [go_sem]
      exact ⟨out, a, hi.less (by omega), v, Sh.forget (by simp [go_sem]) rfl rfl⟩
    simp -implicitDefEqProofs [go_sem, h1]
    refine Wp.s ?_
    simp -implicitDefEqProofs [go_sem]
    refine SWp.block (SWp.seq (Wp.s ?_))
    simp -implicitDefEqProofs [go_sem, hal]
    rw [show List.drop a (List.map secC l) = List.map secC (l.drop a) from (List.map_drop ..).symm]
    refine CC.mono (RDecode_cc _ _ (l.drop a) (by rw [List.length_drop]; omega)) ?_
    rintro _ _ _ ⟨rfl, rfl, rfl⟩
    cases hd : decX (l.drop a) with
    | error e =>
      have he := decX_err hd
      simp -implicitDefEqProofs [go_sem, dcV]
      refine SWp.seq (SWp.seq (Wp.s ?_))
      simp -implicitDefEqProofs [go_sem, he]
      refine Wp.s ?_
      simp -implicitDefEqProofs [go_sem]
      refine ⟨out, a, hi.err hd, v, Sh.trim0 (by simp [go_sem]) (by simp [go_sem]) hokH (by simp) (by simp) (by simp)⟩
    | ok x =>
      obtain ⟨r, n⟩ := x
      simp -implicitDefEqProofs [go_sem, dcV]
      refine SWp.seq (SWp.seq (Wp.s ?_))
      by_cases hr : r.sq = sq + out.length
      case neg =>
        simp -implicitDefEqProofs [go_sem, hr]
        refine Wp.s ?_
        simp -implicitDefEqProofs [go_sem]
        refine ⟨out, a, hi.other hd hr, v, Sh.trim0 (by simp [go_sem]) (by simp [go_sem]) hokH (by simp) (by simp) (by simp)⟩
      obtain ⟨f', hi'⟩ := hi.next (by omega) hd hr
      have hn2 := hi'.2.1
      have w1 : IntKind.i64.wrap (sq + (out.length : Int) + 1) = sq + (out.length : Int) + 1 := IntWalk.i64_in _ ⟨by omega, by omega⟩
      have w2 : IntKind.i64.wrap ((a : Int) + (n : Int)) = (a : Int) + (n : Int) := IntWalk.i64_in _ ⟨by omega, by omega⟩
      simp -implicitDefEqProofs [go_sem, hr]
      refine Wp.s ?_
      simp -implicitDefEqProofs [go_sem]
      refine Wp.s ?_
      simp -implicitDefEqProofs [go_sem, w1, w2]
      have hn0 := decX_n hd
      refine ⟨by omega, out ++ [r], a + n, ⟨f', hi'⟩, by omega, v + 1, Sh.trim0 ?_ (by simp [go_sem, -List.map_append]) hokH (by simp) (by simp) (by simp)⟩
      simp [go_sem, show sq + ((out.length : Int) + 1) = sq + (out.length : Int) + 1 by omega]
  rintro ⟨out, a, v⟩ hx
  dsimp only at hx ⊢
  refine Wp.s ?_
  simp -implicitDefEqProofs [go_sem]
  rw [hx]
  exact Fin.pu (.tup (.cons (.sh _ _ _) (.cons (.refl _) .nil))) (by rw [scV, okV, okL, okL, okL, okV_sh]; exact ⟨by simp [go_sem], by rw [okV]; trivial, trivial⟩) hokH (by simp) (by simp)
end Go.Proofs.YtmgoflhjblombaaDoor
namespace Go.Proofs.YtmgoflhjblombaaDoor
open Go.Proofs
theorem from_cc (H : Hp) (V : List Nat) (s c p n : Int) : CC Tryd.prog 48 [.agg [iv s, iv c], iv p, iv n] H V (fun r H' V' => r = .fn 72 [.ptr (H.length + 2) 0, .ptr (H.length + 1) 0, .ptr H.length 0] ∧ H' = H ++ [some [iv s, iv c], some [iv p], some [iv n]] ∧ V = V') := by
  refine CC.of_swp Tryd.func48 rfl (by kernel_rfl) (by rw [Tryd.ntmps48]; exact len_le _ _ rfl) fun hok hokH => ?_
  refine SWp.seq (Wp.s ?_)
  simp -implicitDefEqProofs [go_sem, args0]
  refine Wp.s ?_
  simp -implicitDefEqProofs [go_sem]
  refine Fin.cut (H.length + 3) V.length ⟨rfl, rfl, rfl⟩ (by omega) (Nat.le_refl _) (List.take_of_length_le (by simp)) (List.take_of_length_le (Nat.le_refl _)) (.refl _) (by simp [go_sem]) ?_
  intro b cs hb
  rw [List.getElem?_append] at hb
  split at hb
  · exact okL_mono (by omega) (Nat.le_refl _) (hokH b cs hb)
  · exact okH_get (i := H.length + 3) (j := V.length) (L := [some [iv s, iv c], some [iv p], some [iv n]]) (by simp [go_sem]) _ _ hb
theorem from1_cc (H : Hp) (V : List Nat) (L b1 b2 b3 : Nat) (s c p : Int) (n : Nat) (hv : validJ s c = true) (hp : 0 ≤ p) (hp2 : p ≤ 1000000) (hn : n ≤ 1000000) (I : Nat → Hp → List Nat → Prop) (h0 : I 0 H V)
    (hI : ∀ i H V, I i H V → H[b1]? = some (some [iv (n : Int)]) ∧ H[b2]? = some (some [iv p]) ∧ H[b3]? = some (some [iv s, iv c]))
    (hy : ∀ i, i < n → ∀ H V, I i H V → YC Tryd.prog L [iv ((p + i) % (c - 16))] H V (fun r H' V' => r = .v (.bool true) ∧ I (i + 1) H' V')) :
    CC Tryd.prog 72 [.yl L, .ptr b1 0, .ptr b2 0, .ptr b3 0] H V (fun _ H' V' => I n H' V') := by
  have hvi := (validJ_iff s c).1 hv
  refine CC.of_swp Tryd.func72 rfl (by kernel_rfl) (by rw [Tryd.ntmps72]; exact len_le _ _ rfl) fun hok hokH => ?_
  clear hok
  obtain ⟨g1, _, _⟩ := hI _ _ _ h0
  refine SWp.seq (Wp.s ?_)
  simp -implicitDefEqProofs [go_sem, args0, hbx_of g1]
  refine SWp.block ?_
  refine SWp.loop (α := Nat × Hp × List Nat) (fun x => ([(0, .yl L), (2, .ptr b2 0), (3, .ptr b3 0), (6, iv (n : Int)), (7, ci x.1)], x.2.1, x.2.2)) (fun x => x.1 ≤ n ∧ I x.1 x.2.1 x.2.2) (fun x => n - x.1) (0, H, V) ⟨by omega, h0⟩ (Sh.forget (by simp [go_sem]) rfl rfl) ?_
  rintro ⟨i, H1, V1⟩ ⟨hi, hi1⟩
  dsimp only at hi hi1 ⊢
  obtain ⟨g1, g2, g3⟩ := hI _ _ _ hi1
  refine SWp.seq (Wp.s ?_)
  simp -implicitDefEqProofs [go_sem]
  refine SWp.seq (Wp.s ?_)
  simp -implicitDefEqProofs [go_sem]
  refine ⟨fun h => ?_, fun h => ?_⟩
  case refine_2 =>
    obtain rfl : i = n := by omega
    exact Fin.self hi1
  refine SWp.seq (SWp.block (SWp.seq (Wp.s ?_)))
  simp -implicitDefEqProofs [go_sem]
  have w1 : IntKind.i64.wrap (p + (i : Int)) = p + (i : Int) := IntWalk.i64_in _ ⟨by omega, by omega⟩
  have t1 := Int.tmod_eq_emod_of_nonneg (b := c - 16) (show 0 ≤ p + (i : Int) by omega)
  have hz : ¬ c - 16 = 0 := by omega
  refine SWp.seq (SWp.drawnT [b2, b3] [7] (.s 0 .pl <| .s 1 .ld <| .s 2 .pl <| .s 3 .pl <| .s 4 .ld <| .s 5 .pl <| .s 6 .pl <| .s 7 .st <| .s 8 .pl <| .n) (by kernel_rfl) (by kernel_rfl) ?_)
  simp -implicitDefEqProofs [go_sem, hbx_of g2, hbx_of g3, w1]
  refine CC.mono (length_cc _ _ _ _ hv) ?_
  rintro _ _ _ ⟨rfl, rfl, rfl⟩
  simp -implicitDefEqProofs [go_sem, t1, hz]
  refine YC.mono (hy i h _ _ hi1) ?_
  rintro _ H2 V2 ⟨rfl, hi2⟩
  obtain ⟨k1, k2, k3⟩ := hI _ _ _ hi2
  simp -implicitDefEqProofs [go_sem]
  refine ⟨Kp.keep fun b hb => ?_, ?_⟩
  · rcases List.mem_cons.1 hb with rfl | hb
    · rw [g2, k2]
    · obtain rfl : b = b3 := by simpa using hb
      rw [g3, k3]
  refine Wp.s ?_
  simp -implicitDefEqProofs [go_sem]
  refine Wp.s ?_
  simp -implicitDefEqProofs [go_sem]
  refine ⟨i + 1, H2, V2, ⟨by omega, hi2⟩, by omega, Sh.forget ?_ rfl rfl⟩
  simp [go_sem, wrap_succ (show i ≤ 1000000000 by omega)]
def rgN (k : UInt8) : Int := 20 + (k.toNat : Int) % 40
theorem region_cc (H : Hp) (V : List Nat) (k : UInt8) : CC Tryd.prog 22 [.v (.int .u8 (k.toNat : Int))] H V (Pu (.agg [iv 3, iv (rgN k)]) H V) := by
  refine CC.of_swp Tryd.func22 rfl (by kernel_rfl) (by rw [Tryd.ntmps22]; exact len_le _ _ rfl) fun hok hokH => ?_
  clear hok
  have := k.toNat_lt
  refine SWp.seq (Wp.s ?_)
  simp -implicitDefEqProofs [go_sem, args0]
  have w2 : IntKind.i64.wrap ((k.toNat : Int) % 40) = (k.toNat : Int) % 40 := IntWalk.i64_in _ ⟨by omega, by omega⟩
  have w3 : IntKind.i64.wrap (20 + (k.toNat : Int) % 40) = 20 + (k.toNat : Int) % 40 := IntWalk.i64_in _ ⟨by omega, by omega⟩
  have t1 : ((k.toNat : Int)).tmod 40 = (k.toNat : Int) % 40 := Int.tmod_eq_emod_of_nonneg (by omega)
  have w4 : IntKind.u8.wrap ((k.toNat : Int) % 40) = (k.toNat : Int) % 40 := by rw [IntKind.wrap_u8]; omega
  refine SWp.seq (Wp.s ?_)
  simp -implicitDefEqProofs [go_sem, t1, w4, w2, w3]
  refine Wp.s ?_
  simp -implicitDefEqProofs [go_sem, t1, w4, w2, w3]
  exact Fin.pu (.refl _) (by rw [okV, okL, okL, okL]; exact ⟨by rw [okV]; trivial, by rw [okV]; trivial, trivial⟩) hokH (by simp) (by simp)
theorem rgN_valid (k : UInt8) : validJ 3 (rgN k) = true := by
  have := k.toNat_lt
  rw [validJ_iff, rgN]; omega
theorem few_cc (H : Hp) (V : List Nat) (j : Jrn) (d : Dk) : CC Tryd.prog 10 [.agg (jrC j), .agg (dkC d)] H V (Pu (cb (decide (j.sizes.length ≤ 40) && decide (d.stable.length ≤ 120) && decide (d.cache.length ≤ 60))) H V) := by
  refine CC.of_swp Tryd.func10 rfl (by kernel_rfl) (by rw [Tryd.ntmps10]; exact len_le _ _ rfl) fun hok hokH => ?_
  clear hok
  refine SWp.seq (Wp.s ?_)
  simp -implicitDefEqProofs [go_sem, args0]
  by_cases c1 : j.sizes.length ≤ 40
  case neg =>
    have c1' : ¬ (j.sizes.length : Int) ≤ 40 := by omega
    refine Wp.s ?_
    simp -implicitDefEqProofs [go_sem, c1']
    exact Fin.bool (by simp [c1]) hokH (by simp) (by simp)
  have c1' : (j.sizes.length : Int) ≤ 40 := by omega
  by_cases c2 : d.stable.length ≤ 120
  case neg =>
    have c2' : ¬ (d.stable.length : Int) ≤ 120 := by omega
    refine Wp.s ?_
    simp -implicitDefEqProofs [go_sem, c1', c2']
    exact Fin.bool (by simp [c2]) hokH (by simp) (by simp)
  have c2' : (d.stable.length : Int) ≤ 120 := by omega
  refine Wp.s ?_
  simp -implicitDefEqProofs [go_sem, c1', c2']
  exact Fin.bool (by simp [c1, c2]; omega) hokH (by simp) (by simp)
end Go.Proofs.YtmgoflhjblombaaDoor
namespace Go.Proofs.YtmgoflhjblombaaDoor
open Go.Proofs
def mkC (M : List Bool) : List CV := M.map fun b => CV.v (.bool b)
@[go_sem, simp] theorem mkC_len (M : List Bool) : (mkC M).length = M.length := List.length_map ..
@[go_sem] theorem mkC_get (M : List Bool) (i : Nat) (h : i < (mkC M).length) : (mkC M)[i] = CV.v (.bool (M[i]'(by simpa using h))) := by simp [mkC]
theorem mkC_set (M : List Bool) (i : Nat) (b : Bool) (h : i < M.length) : (mkC M).take i ++ CV.v (.bool b) :: (mkC M).drop (i + 1) = mkC (M.set i b) := by
  rw [List.set_eq_take_append_cons_drop, if_pos h]
  simp [mkC]
@[go_sem] theorem okL_mkC (i j : Nat) : ∀ M : List Bool, okL i j (mkC M) = True
  | [] => by rw [mkC, List.map_nil, okL]
  | b :: l => by rw [mkC, List.map_cons, okL, okV]; exact (true_and _).trans (okL_mkC i j l)
/-- What is left of an interrupted Append: the places whose numbers are not yet given. -/
def markX (n tl nxt : Int) (ct : List Sec) : Nat → List Bool
  | 0 => List.replicate n.toNat false
  | i + 1 => (markX n tl nxt ct i).set ((tl + i) % n).toNat (decide (nxt ≤ (gn (ct.getD ((tl + i) % n).toNat sec0) : Int)))
theorem markX_len (n tl nxt : Int) (ct : List Sec) : ∀ i, (markX n tl nxt ct i).length = n.toNat
  | 0 => by rw [markX, List.length_replicate]
  | i + 1 => by rw [markX, List.length_set, markX_len n tl nxt ct i]
def runL : List Bool → Nat
  | true :: l => runL l + 1
  | _ => 0
def runsX (s : Int) : Nat → List Bool → Nat → List Opn
  | 0, _, _ => []
  | f + 1, M, p => if M.length ≤ p then [] else if runL (M.drop p) = 0 then runsX s f M (p + 1) else opW (s + 16 + p) (List.replicate (runL (M.drop p)) sec0) :: runsX s f M (p + runL (M.drop p) + 1)
def remX (j : Jrn) (ct : List Sec) : List Opn :=
  let M := markX (j.count - 16) j.tail (nextJ j) ct (freeJ j).toNat
  let r := runsX j.start (M.length + 1) M 0
  if r = [] then [] else r ++ [opS]
theorem runL_le : ∀ l : List Bool, runL l ≤ l.length
  | [] => Nat.le_refl _
  | true :: l => by rw [runL, List.length_cons]; have := runL_le l; omega
  | false :: l => Nat.zero_le _
theorem runL_lt : ∀ (l : List Bool) (k : Nat), k < runL l → l[k]? = some true
  | [], k, h => absurd h (Nat.not_lt_zero _)
  | true :: l, 0, _ => rfl
  | true :: l, k + 1, h => by rw [List.getElem?_cons_succ]; exact runL_lt l k (by rw [runL] at h; omega)
  | false :: l, k, h => absurd h (Nat.not_lt_zero _)
theorem runL_at : ∀ l : List Bool, l[runL l]? ≠ some true
  | [] => by simp
  | true :: l => by rw [runL, List.getElem?_cons_succ]; exact runL_at l
  | false :: l => by simp [runL]
/-- What has been found, and what is left to look at. -/
def RmI (s : Int) (M : List Bool) (p : Nat) (ops : List Opn) : Prop := ∃ f, runsX s (M.length + 1) M 0 = ops ++ runsX s f M p ∧ M.length - p < f
theorem RmI.stop {s : Int} {M : List Bool} {p : Nat} {ops : List Opn} (h : RmI s M p ops) (hp : M.length ≤ p) : runsX s (M.length + 1) M 0 = ops := by
  obtain ⟨f, h1, h2⟩ := h
  cases f with
  | zero => omega
  | succ f => rw [h1, runsX, if_pos hp, List.append_nil]
theorem RmI.zero {s : Int} {M : List Bool} {p : Nat} {ops : List Opn} (h : RmI s M p ops) (hp : p < M.length) (hr : runL (M.drop p) = 0) : RmI s M (p + 1) ops := by
  obtain ⟨f, h1, h2⟩ := h
  cases f with
  | zero => omega
  | succ f => exact ⟨f, by rw [h1, runsX, if_neg (by omega), if_pos hr], by omega⟩
theorem RmI.run {s : Int} {M : List Bool} {p : Nat} {ops : List Opn} (h : RmI s M p ops) (hp : p < M.length) (hr : runL (M.drop p) ≠ 0) : RmI s M (p + runL (M.drop p) + 1) (ops ++ [opW (s + 16 + p) (List.replicate (runL (M.drop p)) sec0)]) := by
  obtain ⟨f, h1, h2⟩ := h
  cases f with
  | zero => omega
  | succ f => exact ⟨f, by rw [h1, runsX, if_neg (by omega), if_neg hr, List.append_assoc]; rfl, by omega⟩
theorem FyE.app {bx : Nat} {cs : List CV} {a b : List (List CV)} {c d : List (List CV)} : FyE bx cs a b → FyE bx cs c d → FyE bx cs (a ++ c) (b ++ d)
  | .nil, h => h
  | .cons h t, g => .cons h (FyE.app t g)
theorem Fk.run (b K : Nat) (tk : Tk) (ops : List Opn) (at' : Int) : Fk b (secsF (List.replicate K sec0)) (.sl tk 3 (ops.map opC ++ [[iv 0, iv at', .bsl b 0 K 8]])) (.sl tk 3 ((ops ++ [opW at' (List.replicate K sec0)]).map opC)) := by
  rw [List.map_append]
  exact .slk _ _ (FyE.app (FyE.rfl' _ _ _) (.cons (.cons (.refl _) (.cons (.refl _) (.cons (Fy.zeros _ _) .nil))) .nil))
abbrev HM (H : Hp) (j : Jrn) (u : Int) (ct : List Sec) (M : List Bool) (n : Nat) (x1 x2 x3 lp : Option (List CV)) : Hp := H ++ (some (stJ j u) :: some [secsV ct] :: some (mkC M) :: some [.bsl (H.length + 2) 0 n 1] :: x1 :: x2 :: x3 :: lp :: [])
set_option maxRecDepth 8000 in
theorem remove_cc (H : Hp) (V : List Nat) (j : Jrn) (ct : List Sec) (h : chkJ j = true) (hc : ct.length = (j.count - 16).toNat) : CC Tryd.prog 51 [.agg (stJ j (sumI j.sizes)), secsV ct] H V (Pu (opsV (remX j ct)) H V) := by
  refine CC.of_swp0 Tryd.func51 rfl (by kernel_rfl) (by rw [Tryd.ntmps51]; exact len_le _ _ rfl) fun hok hokH => ?_
  have hn := chkJ_next h
  have hsu := chkJ_sum h
  have hva := chkJ_val h
  have hv := (validJ_iff _ _).1 hva
  have ht := chkJ_tail h
  obtain ⟨n, hnn⟩ : ∃ n : Nat, j.count - 16 = (n : Int) := ⟨(j.count - 16).toNat, by omega⟩
  obtain ⟨f, hff⟩ : ∃ f : Nat, j.count - 16 - sumI j.sizes = (f : Int) := ⟨(j.count - 16 - sumI j.sizes).toNat, by omega⟩
  refine SWp0.seq (SWp.s0 (Wp.s ?_))
  simp -implicitDefEqProofs [go_sem, args0]
  refine SWp0.seq (SWp.s0 (Wp.s ?_))
  simp -implicitDefEqProofs [go_sem]
  refine CC.mono (length_cc _ _ _ _ hva) ?_
  rintro _ _ _ ⟨rfl, rfl, rfl⟩
  simp -implicitDefEqProofs [go_sem, hnn]
  refine ⟨by omega, ?_⟩
  refine SWp0.join (α := Unit) (fun _ => ([(2, .ptr H.length 0), (5, .ptr (H.length + 3) 0)], H ++ [some (stJ j (sumI j.sizes)), some [secsV ct], some (mkC (markX n j.tail (nextJ j) ct f)), some [.bsl (H.length + 2) 0 n 1]], V)) (fun _ => True) ?_ ?_
  · refine SWp0.seq (SWp.s0 (SWp.drawnT [] [] (.s 0 .pl <| .s 1 .pl <| .s 2 .pl <| .s 3 .pl <| .s 4 .pl <| .s 5 .pl <| .s 6 .pl <| .s 7 .pl <| .n) (by kernel_rfl) (by kernel_rfl) ?_))
    simp -implicitDefEqProofs [go_sem]
    refine CC.mono (free_cc _ _ _ _ hva hsu.1 (by omega)) ?_
    rintro _ _ _ ⟨rfl, rfl, rfl⟩
    simp -implicitDefEqProofs [go_sem, hff]
    refine CC.mono (from_cc _ _ _ _ _ _) ?_
    rintro _ _ _ ⟨rfl, rfl, rfl⟩
    simp -implicitDefEqProofs [go_sem]
    refine SWp0.block (SWp0.range [(2, .ptr H.length 0), (3, .ptr (H.length + 1) 0), (5, .ptr (H.length + 3) 0)] rfl (by simp [go_sem]) ?_)
    simp -implicitDefEqProofs [go_sem]
    generalize hbd : Code.block 1 _ = bd
    generalize has : Code.region 3 _ _ = asg
    refine CC.mono (from1_cc _ V _ _ _ _ j.start j.count j.tail f hva ht.1 (by omega) (by omega) (fun i G V' => V = V' ∧ G = HM H j (sumI j.sizes) ct (markX n j.tail (nextJ j) ct i) n (some [iv j.start, iv j.count]) (some [iv j.tail]) (some [iv f]) (some [lpc 79 #[22] asg bd [(2, .ptr H.length 0), (3, .ptr (H.length + 1) 0), (5, .ptr (H.length + 3) 0)] .ready none]))
      ⟨rfl, by simp [markX, mkC]⟩ ?_ ?_) ?_
    · rintro i _ V' ⟨rfl, rfl⟩
      exact ⟨hget _ _ 6, hget _ _ 5, hget _ _ 4⟩
    · rintro i hi _ V' ⟨rfl, rfl⟩
      refine YC.of_round (n := 79) (ps := #[22]) (bd := bd) (T := [(2, .ptr H.length 0), (3, .ptr (H.length + 1) 0), (5, .ptr (H.length + 3) 0)]) (hget _ _ 7) rfl (by decide) ?_
      subst hbd has
      rw [hnn]
      have hq1 := Int.emod_nonneg (j.tail + (i : Int)) (show (n : Int) ≠ 0 by omega)
      have hq2 := Int.emod_lt_of_pos (j.tail + (i : Int)) (show 0 < (n : Int) by omega)
      have hM := markX_len n j.tail (nextJ j) ct i
      have hmx : markX n j.tail (nextJ j) ct (i + 1) = (markX n j.tail (nextJ j) ct i).set ((j.tail + i) % (n : Int)).toNat (decide (nextJ j ≤ (gn (ct.getD ((j.tail + i) % (n : Int)).toNat sec0) : Int))) := rfl
      rw [hmx]
      generalize markX n j.tail (nextJ j) ct i = M at hM ⊢
      obtain ⟨q, hqq⟩ : ∃ q : Nat, (j.tail + (i : Int)) % (n : Int) = (q : Int) := ⟨((j.tail + (i : Int)) % (n : Int)).toNat, by omega⟩
      rw [hqq] at hq1 hq2 ⊢
      rw [Int.toNat_natCast]
      have hqc : q < ct.length := by omega
      have hqn : q < n := by omega
      have hgd : ct.getD q sec0 = ct[q] := by rw [List.getD_eq_getElem?_getD, List.getElem?_eq_getElem hqc]; rfl
      rw [hgd]
      refine Wp.s ?_
      simp -implicitDefEqProofs [go_sem, tps]
      refine SWp.block ?_
      generalize hlp : lpc 79 #[22] _ _ _ LoopState.busy none = lp
      generalize hqqq : RQ 79 #[22] _ _ _ _ _ = QQ
      refine SWp.drawnT [] [11] (.s 0 .pl <| .s 1 .pl <| .s 2 .pl <| .s 3 .pl <| .s 4 .pl <| .s 5 .pl <| .s 7 .pl <| .s 6 .pl <| .s 8 .pl <| .s 9 .pl <| .s 10 .pl <| .s 11 .st <| .n) (by kernel_rfl) (by kernel_rfl) ?_
      simp -implicitDefEqProofs [go_sem, hqc, hqn]
      refine CC.mono (jnumber_cc _ _ ct[q]) ?_
      rintro _ _ _ ⟨rfl, rfl, rfl⟩
      simp -implicitDefEqProofs [go_sem]
      refine CC.mono (next_cc _ _ j _ hn.1 hn.2) ?_
      rintro _ _ _ ⟨rfl, rfl, rfl⟩
      have hMn : M.length = n := by simpa using hM
      simp -implicitDefEqProofs [go_sem, hqn, hMn]
      rw [mkC_set _ _ _ (by omega), ← hqqq, ← hlp]
      exact ⟨by omega, hget _ _ 7, rfl, rfl, by simp⟩
    · rintro _ _ V' ⟨rfl, rfl⟩
      refine .inl ⟨hget _ _ 7, ?_⟩
      refine Sh.trim (L := [some (stJ j (sumI j.sizes)), some [secsV ct], some (mkC (markX n j.tail (nextJ j) ct f)), some [.bsl (H.length + 2) 0 n 1]]) (by simp [go_sem]) (by simp [go_sem]) hokH (by simp [go_sem]) (Nat.le_refl _) (by simp) (by simp)
  rintro _ -
  dsimp only
  have hM := markX_len n j.tail (nextJ j) ct f
  have hR : remX j ct = if runsX j.start ((markX n j.tail (nextJ j) ct f).length + 1) (markX n j.tail (nextJ j) ct f) 0 = [] then [] else runsX j.start ((markX n j.tail (nextJ j) ct f).length + 1) (markX n j.tail (nextJ j) ct f) 0 ++ [opS] := by
    rw [remX, freeJ, hff, hnn, Int.toNat_natCast]
  generalize markX n j.tail (nextJ j) ct f = M at hM hR ⊢
  have hMn : M.length = n := by simpa using hM
  obtain ⟨B, hB⟩ : ∃ B : Hp, B = [some (stJ j (sumI j.sizes)), some [secsV ct], some (mkC M), some [.bsl (H.length + 2) 0 n 1]] := ⟨_, rfl⟩
  have hBok : okH (H.length + B.length) V.length B := by rw [hB]; simp [go_sem]
  have hBok' : ∀ k, V.length ≤ k → okH (H.length + 4) k [some (stJ j (sumI j.sizes)), some [secsV ct], some (mkC M), some [.bsl (H.length + 2) 0 n 1]] := fun k _ => by simp [go_sem]
  refine SWp0.seq (SWp.s0 (Wp.s ?_))
  simp -implicitDefEqProofs [go_sem]
  refine SWp.s0 ?_
  refine SWp.join (α := List Opn × Nat) (fun x => ([(7, .sl (.own V.length x.2) 3 (x.1.map opC))], H, V ++ [x.2])) (fun x => runsX j.start (M.length + 1) M 0 = x.1 ∧ x.1.length ≤ 1000000) ?_ ?_
  · refine SWp.seq (Wp.s ?_)
    simp -implicitDefEqProofs [go_sem]
    refine SWp.block ?_
    refine SWp.loop (α := Nat × List Opn × Nat) (fun x => ([(2, .ptr H.length 0), (5, .ptr (H.length + 3) 0), (7, .sl (.own V.length x.2.2) 3 (x.2.1.map opC)), (8, ci x.1)], H ++ B, V ++ [x.2.2])) (fun x => RmI j.start M x.1 x.2.1 ∧ x.2.1.length ≤ x.1 ∧ x.1 ≤ n + 1) (fun x => n + 1 - x.1) (0, [], 0) ⟨⟨M.length + 1, rfl, by omega⟩, by simp, by omega⟩ (Sh.tokT (by simp [go_sem]) (by rw [hB]) rfl) ?_
    rintro ⟨p, ops, v⟩ ⟨hI, hol, hpn⟩
    dsimp only at hI hol hpn ⊢
    refine SWp.seq (SWp.seq (Wp.s ?_))
    subst hB
    by_cases hp : p < n
    case neg =>
      simp -implicitDefEqProofs [go_sem, hp]
      refine Wp.s ?_
      simp -implicitDefEqProofs [go_sem]
      refine ⟨ops, ⟨hI.stop (by omega), by omega⟩, v, Sh.trim0 (by simp [go_sem]) (by simp [go_sem]) hokH (by simp) (by simp) (by simp)⟩
    simp -implicitDefEqProofs [go_sem, hp]
    refine Wp.s ?_
    simp -implicitDefEqProofs [go_sem]
    refine SWp.seq (SWp.block (SWp.seq (Wp.s ?_)))
    simp -implicitDefEqProofs [go_sem]
    obtain ⟨K, hK⟩ : ∃ K, K = runL (M.drop p) := ⟨_, rfl⟩
    have hKl : p + K ≤ n := by have := runL_le (M.drop p); rw [List.length_drop, ← hK] at this; omega
    refine SWp.join (α := Unit) (fun _ => ([(2, .ptr H.length 0), (5, .ptr (H.length + 3) 0), (7, .sl (.own V.length v) 3 (ops.map opC)), (8, ci p), (9, ci K)], H ++ [some (stJ j (sumI j.sizes)), some [secsV ct], some (mkC M), some [.bsl (H.length + 2) 0 n 1]], V ++ [v])) (fun _ => True) ?_ ?_
    · refine SWp.block ?_
      refine SWp.loop (α := Nat) (fun k => ([(2, .ptr H.length 0), (5, .ptr (H.length + 3) 0), (7, .sl (.own V.length v) 3 (ops.map opC)), (8, ci p), (9, ci k)], H ++ [some (stJ j (sumI j.sizes)), some [secsV ct], some (mkC M), some [.bsl (H.length + 2) 0 n 1]], V ++ [v])) (fun k => k ≤ K) (fun k => K - k) 0 (Nat.zero_le _) (Sh.forget (by simp [go_sem]) rfl rfl) ?_
      intro k hk
      dsimp only
      have w1 : IntKind.i64.wrap ((p : Int) + (k : Int)) = (p : Int) + (k : Int) := IntWalk.i64_in _ ⟨by omega, by omega⟩
      refine SWp.seq (SWp.seq (Wp.s ?_))
      by_cases hpk : p + k < n
      case neg =>
        have hpk' : ¬ (p : Int) + (k : Int) < (n : Int) := by omega
        simp -implicitDefEqProofs [go_sem, w1, hpk']
        refine Wp.s ?_
        simp -implicitDefEqProofs [go_sem]
        obtain rfl : k = K := by omega
        exact Sh.forget (by simp [go_sem]) rfl rfl
      have hpk' : (p : Int) + (k : Int) < (n : Int) := by omega
      have hpm : p + k < M.length := by omega
      have hgt : M[p + k]? = (M.drop p)[k]? := by rw [List.getElem?_drop]
      have et : ((p : Int) + (k : Int)).toNat = p + k := by omega
      by_cases hkK : k < K
      · have hm : M[p + k] = true := by
          have := runL_lt (M.drop p) k (by omega)
          rw [← hgt, List.getElem?_eq_getElem hpm] at this
          exact Option.some.inj this
        simp -implicitDefEqProofs [go_sem, w1, hpk', hpk, hMn, et]
        refine ⟨by omega, ?_⟩
        rw [hm]
        refine Wp.s ?_
        simp -implicitDefEqProofs [go_sem]
        refine SWp.block (Wp.s ?_)
        simp -implicitDefEqProofs [go_sem]
        refine ⟨k + 1, by omega, by omega, Sh.forget ?_ rfl rfl⟩
        simp [go_sem, wrap_succ (show k ≤ 1000000000 by omega)]
      · obtain rfl : k = K := by omega
        have hm : M[p + k] = false := by
          have := runL_at (M.drop p)
          rw [← hK, ← hgt, List.getElem?_eq_getElem hpm] at this
          simpa using this
        simp -implicitDefEqProofs [go_sem, w1, hpk', hpk, hMn, et]
        refine ⟨by omega, ?_⟩
        rw [hm]
        refine Wp.s ?_
        simp -implicitDefEqProofs [go_sem]
        exact Sh.forget (by simp [go_sem]) rfl rfl
    rintro _ -
    dsimp only
    refine SWp.seq (Wp.s ?_)
    simp -implicitDefEqProofs [go_sem]
    by_cases hK0 : K = 0
    · simp -implicitDefEqProofs [go_sem, hK0]
      refine Wp.s ?_
      simp -implicitDefEqProofs [go_sem]
      refine Wp.s ?_
      simp -implicitDefEqProofs [go_sem]
      refine ⟨p + 1, ops, ⟨hI.zero (by omega) (by omega), by omega, by omega⟩, by omega, v, Sh.forget ?_ rfl rfl⟩
      simp [go_sem, wrap_succ (show p ≤ 1000000000 by omega)]
    have hK0' : 0 < K := by omega
    simp -implicitDefEqProofs [go_sem, hK0']
    refine SWp.condT (by simp [go_sem]) ?_
    have w1 : IntKind.i64.wrap ((p : Int) + (K : Int)) = (p : Int) + (K : Int) := IntWalk.i64_in _ ⟨by omega, by omega⟩
    refine SWp.seq (SWp.drawnT [] [] (.s 0 .pl <| .s 1 .pl <| .s 2 .pl <| .s 3 .pl <| .s 5 .pl <| .c 4 <| .s 6 .pl <| .s 7 .pl <| .s 8 .pl <| .s 9 .pl <| .s 10 .pl <| .n) (by kernel_rfl) (by kernel_rfl) ?_)
    simp -implicitDefEqProofs [go_sem]
    refine ⟨_, fun H V => sector_cc H V j.start j.count p hva (by omega) (by omega), ?_⟩
    simp -implicitDefEqProofs [go_sem, -List.reduceReplicate]
    refine ⟨by omega, by omega, ?_⟩
    have hz := zeros_secs K
    simp only [List.map_cons, List.map_nil] at hz
    rw [hz]
    have w2 : IntKind.i64.wrap ((p : Int) + (K : Int) + 1) = (p : Int) + (K : Int) + 1 := IntWalk.i64_in _ ⟨by omega, by omega⟩
    refine Wp.s ?_
    simp -implicitDefEqProofs [go_sem, w1]
    refine Wp.s ?_
    simp -implicitDefEqProofs [go_sem, w2]
    have hI' := hI.run (by omega) (show runL (M.drop p) ≠ 0 by omega)
    rw [← hK] at hI'
    refine ⟨p + K + 1, _, ⟨hI', by simp; omega, by omega⟩, by omega, v + 1, ?_⟩
    refine Gst.trans (T' := [(2, .ptr H.length 0), (5, .ptr (H.length + 3) 0), (7, .sl (.own V.length (v + 1)) 3 ((ops ++ [opW (j.start + 16 + p) (List.replicate K sec0)]).map opC)), (8, ci (p + K + 1 : Nat))]) (Gst.freezeK (b := H.length + 4) (cs := secsF (List.replicate K sec0)) (by rw [hget]; rfl) (TFk.get ⟨by simp [go_sem], by simp [go_sem], Fk.run _ _ _ _ _, by simp [go_sem], trivial⟩)) ?_
    exact Sh.trim (L := [some (stJ j (sumI j.sizes)), some [secsV ct], some (mkC M), some [.bsl (H.length + 2) 0 n 1]]) (by simp [go_sem]) (by simp [go_sem, -List.map_append]) hokH (hBok' _ (by simp)) (by simp) (by simp) (by simp)
  rintro ⟨ops, v⟩ ⟨hx, hl⟩
  dsimp only at hx hl ⊢
  rw [hx] at hR
  rw [hR]
  refine SWp.seq (SWp.seq (Wp.s ?_))
  by_cases ho : ops = []
  · subst ho
    simp -implicitDefEqProofs [go_sem]
    refine Wp.s ?_
    simp -implicitDefEqProofs [go_sem]
    refine Wp.s ?_
    simp -implicitDefEqProofs [go_sem]
    exact Fin.pu (.sh _ _ _) (by rw [okV_sh, okE_ops]; trivial) hokH (by simp) (by simp)
  have ho' : 0 < ops.length := List.length_pos_iff.2 ho
  have ho2 : ¬ (ops.length : Int) = 0 := by omega
  simp -implicitDefEqProofs [go_sem, ho']
  refine Wp.s ?_
  simp -implicitDefEqProofs [go_sem]
  refine ⟨by omega, Wp.s ?_⟩
  simp -implicitDefEqProofs [go_sem]
  rw [if_neg ho]
  exact Fin.pu (.sle _ _ (ops_le1 ops)) (by rw [okV_sh, okE_ops]; trivial) hokH (by simp) (by simp)
end Go.Proofs.YtmgoflhjblombaaDoor
namespace Go.Proofs.YtmgoflhjblombaaDoor
open Go.Proofs
/-- The ring from a place on. -/
def turnM (h : Int) (n : Nat) (ct : List Sec) (i : Nat) : List Sec := (List.range i).map fun (k : Nat) => ct.getD ((h + (k : Int)) % (n : Int)).toNat sec0
theorem turnM_succ (h : Int) (n : Nat) (ct : List Sec) (i : Nat) : turnM h n ct (i + 1) = turnM h n ct i ++ [ct.getD ((h + (i : Int)) % (n : Int)).toNat sec0] := by rw [turnM, List.range_succ, List.map_append]; rfl
@[go_sem, simp] theorem turnM_len (h : Int) (n : Nat) (ct : List Sec) (i : Nat) : (turnM h n ct i).length = i := by rw [turnM, List.length_map, List.length_range]
/-- The sizes of records, and where the last of them ends. -/
def szs (l : List Rcd) : List Int := l.map fun r => szR (r.pay.length : Int)
def tailX (n h : Int) (l : List Int) : Int := l.foldl (fun t x => (t + x) % n) h
def recsO (first : Int) (l : List Sec) : List Rcd := let r := (scanA l first).1; r.take (min r.length (1073741824 - first).toNat)
def jO (s c h f : Int) (rs : List Rcd) : Jrn := ⟨s, c, h, tailX (c - 16) h (szs rs), f, szs rs⟩
def openJ (s c : Int) (d : Dk) : Jrn × List Rcd × List Opn × Nat :=
  if checkD d ≠ 0 then (zjr, [], [], checkD d) else
  if validJ s c = false ∨ (d.stable.length : Int) < s + c then (zjr, [], [], 2) else
  if (headJ s c d).2.2 ≠ 0 then (zjr, [], [], (headJ s c d).2.2) else
  if (readD d (s + 16) (c - 16)).2 ≠ 0 then (zjr, [], [], (readD d (s + 16) (c - 16)).2) else
  let ct := (readD d (s + 16) (c - 16)).1
  let rs := recsO (headJ s c d).2.1 (turnM (headJ s c d).1 (c - 16).toNat ct (c - 16).toNat)
  if chkJ (jO s c (headJ s c d).1 (headJ s c d).2.1 rs) = false then (zjr, [], [], 3)
  else (jO s c (headJ s c d).1 (headJ s c d).2.1 rs, rs, remX (jO s c (headJ s c d).1 (headJ s c d).2.1 rs) ct, 0)
def opV (x : Jrn × List Rcd × List Opn × Nat) : CV := .tup [.agg (jrC x.1), .sl .sh 3 (x.2.1.map rcC), opsV x.2.2.1, er x.2.2.2]
theorem okV_opV (i j : Nat) (x : Jrn × List Rcd × List Opn × Nat) : okV i j (opV x) := by
  rw [opV, okV, okL, okL, okL, okL, okL]
  simp [go_sem, okL, okV, okL_jrC, okE_ops, okE_rcs]
theorem headP_ok {c : Int} {p : List UInt8} (h : (headP c p).2.2 = 0) : 0 ≤ (headP c p).1 ∧ (headP c p).1 < c - 16 ∧ 1 ≤ (headP c p).2.1 ∧ (headP c p).2.1 ≤ 1073741824 := by
  cases hn : number p with
  | error e => rw [headP, hn] at h; cases h
  | ok x =>
    obtain ⟨a, r⟩ := x
    cases hn2 : number r with
    | error e => rw [headP, hn] at h; simp only at h; rw [hn2] at h; cases h
    | ok x =>
      obtain ⟨f, r'⟩ := x
      have hP : headP c p = if 0 < r'.length ∨ c - 16 ≤ (a : Int) ∨ (f : Int) < 1 ∨ 1073741824 < (f : Int) then (0, 0, 3) else ((a : Int), (f : Int), 0) := by
        rw [headP, hn]; simp only; rw [hn2]
      rw [hP] at h ⊢
      by_cases hb : 0 < r'.length ∨ c - 16 ≤ (a : Int) ∨ (f : Int) < 1 ∨ 1073741824 < (f : Int)
      · rw [if_pos hb] at h; cases h
      · rw [if_neg hb]
        exact ⟨by show (0 : Int) ≤ a; omega, by show (a : Int) < _; omega, by show 1 ≤ (f : Int); omega, by show (f : Int) ≤ _; omega⟩
theorem headJ_ok {s c : Int} {d : Dk} (h : (headJ s c d).2.2 = 0) : 0 ≤ (headJ s c d).1 ∧ (headJ s c d).1 < c - 16 ∧ 1 ≤ (headJ s c d).2.1 ∧ (headJ s c d).2.1 ≤ 1073741824 := by
  by_cases h1 : (loadS d s).2.2 ≠ 0
  · rw [headJ, if_pos h1] at h; exact absurd h h1
  · rw [headJ, if_neg h1] at h ⊢
    exact headP_ok h
theorem readD_n {d : Dk} {a m : Int} {n : Nat} (h : (readD d a m).2 = 0) (hm : m = (n : Int)) : (readD d a m).1.length = n := by
  subst hm
  by_cases h1 : checkD d = 0
  · by_cases h2 : insideB d a n = true
    · have e : readD d a n = (((newestD d).drop a.toNat).take (n : Int).toNat, 0) := by rw [readD, if_neg (by simp [h1]), if_neg (by simp [h2])]
      rw [e]
      simp only [insideB, Bool.and_eq_true, decide_eq_true_eq] at h2
      rw [List.length_take, List.length_drop, newestD_len]
      omega
    · rw [readD, if_neg (by simp [h1]), if_pos (by simpa using h2)] at h; cases h
  · rw [readD, if_pos h1] at h; exact absurd h h1
theorem scanX_len : ∀ (f : Nat) (l : List Sec) (sq : Int), (scanX f l sq).1.length ≤ l.length
  | 0, l, sq => by rw [scanX]; exact Nat.zero_le _
  | f + 1, l, sq => by
    rw [scanX]
    split
    · exact Nat.zero_le _
    · split
      · exact Nat.zero_le _
      · rename_i r n h
        split
        · exact Nat.zero_le _
        · have h1 := scanX_len f (l.drop n) (sq + 1)
          have h2 := decX_n h
          rw [List.length_drop] at h1
          rw [List.length_cons]; omega
theorem szs_snoc (l : List Rcd) (i : Nat) (h : i < l.length) : szs (l.take (i + 1)) = szs (l.take i) ++ [szR (l[i].pay.length : Int)] := by
  rw [szs, List.take_succ_eq_append_getElem h, List.map_append]; rfl
theorem tailX_snoc (n h : Int) (l : List Int) (x : Int) : tailX n h (l ++ [x]) = (tailX n h l + x) % n := by rw [tailX, List.foldl_append]; rfl
theorem tailX_in {n h : Int} (hn : 0 < n) (h0 : 0 ≤ h) (h1 : h < n) : ∀ l : List Int, 0 ≤ tailX n h l ∧ tailX n h l < n := fun l => by
  rcases List.eq_nil_or_concat l with rfl | ⟨l', x, rfl⟩
  · exact ⟨h0, h1⟩
  · rw [List.concat_eq_append, tailX_snoc]
    exact ⟨Int.emod_nonneg _ (by omega), Int.emod_lt_of_pos _ hn⟩
theorem szR_in (n : Int) : 0 ≤ szR n ∧ szR n ≤ 1026 := by
  unfold szR
  split <;> omega
/-- Sizes that are appended to. -/
def ApZ (V : List Nat) (l : List Int) (cv : CV) (W : List Nat) : Prop := (l = [] ∧ cv = .v (.slice none 0 0) ∧ W = V) ∨ ∃ v, cv = .sl (.own V.length v) 1 (l.map ic) ∧ W = V ++ [v]
theorem ApZ.le {V : List Nat} {l : List Int} {cv : CV} {W : List Nat} (h : ApZ V l cv W) : Le cv (.sl .sh 1 (l.map ic)) := by
  rcases h with ⟨rfl, rfl, rfl⟩ | ⟨v, rfl, rfl⟩
  · exact .nil 1 (by decide)
  · exact .sh _ _ _
theorem ApZ.ok {V : List Nat} {l : List Int} {cv : CV} {W : List Nat} {i : Nat} (h : ApZ V l cv W) : okV i W.length cv := by
  rcases h with ⟨rfl, rfl, rfl⟩ | ⟨v, rfl, rfl⟩
  · rw [okV]; trivial
  · rw [okV_own, okE_ints]; simp
theorem ApZ.len {V : List Nat} {l : List Int} {cv : CV} {W : List Nat} (h : ApZ V l cv W) : V.length ≤ W.length ∧ W.take V.length = V := by
  rcases h with ⟨rfl, rfl, rfl⟩ | ⟨v, rfl, rfl⟩ <;> simp
abbrev HO (H : Hp) (d : Dk) (s c : Int) (ct : List Sec) (cv : CV) (x1 x2 x3 lp : Option (List CV)) : Hp := H ++ [some (dkC d), some [iv s, iv c], some zjC, some [iv s, iv c], some [secsV ct], some [cv], x1, x2, x3, lp]
set_option maxRecDepth 8000 in
theorem Open_cc (H : Hp) (V : List Nat) (s c : Int) (d : Dk) (hl : DkS d) (hp : (loadS d s).1.length ≤ 100) : CC Tryd.prog 21 [.agg (dkC d), .agg [iv s, iv c]] H V (Pu (opV (openJ s c d)) H V) := by
  refine CC.of_swp0 Tryd.func21 rfl (by kernel_rfl) (by rw [Tryd.ntmps21]; exact len_le _ _ rfl) fun hok hokH => ?_
  have bad : ∀ (e : Nat) {H' : Hp} {V' : List Nat}, openJ s c d = (zjr, [], [], e) → H'.take H.length = H → V'.take V.length = V → Fin H.length V.length (Pu (opV (openJ s c d)) H V) (.tup [.agg zjC, .v (.slice none 0 0), .v (.slice none 0 0), er e]) H' V' := fun e H' V' h1 h2 h3 => by
    rw [h1]
    exact Fin.pu (.tup (.cons zj_le (.cons (.nil 3 (by decide)) (.cons (.nil 3 (by decide)) (.cons (.refl _) .nil))))) (okV_opV _ _ _) hokH h2 h3
  refine SWp0.seq (SWp.s0 (Wp.s ?_))
  simp -implicitDefEqProofs [go_sem, args0]
  refine SWp0.seq (SWp.s0 (SWp.seq (Wp.s ?_)))
  simp -implicitDefEqProofs [go_sem]
  refine CC.mono (sCheck_cc _ _ d hl) ?_
  rintro _ _ _ ⟨rfl, rfl, rfl⟩
  simp -implicitDefEqProofs [go_sem]
  refine SWp.seq (Wp.s ?_)
  by_cases h0 : checkD d = 0
  case neg =>
    simp -implicitDefEqProofs [go_sem, h0]
    refine Wp.s ?_
    simp -implicitDefEqProofs [go_sem]
    exact bad _ (by rw [openJ, if_pos h0]) (by simp) (by simp)
  simp -implicitDefEqProofs [go_sem, h0]
  refine Wp.s ?_
  simp -implicitDefEqProofs [go_sem]
  have e0 : openJ s c d = _ := (by rw [openJ, if_neg (by simp [h0])])
  refine SWp0.seq (SWp.s0 (Wp.s ?_))
  simp -implicitDefEqProofs [go_sem]
  refine SWp0.seq (SWp.s0 (SWp.seq (Wp.s ?_)))
  simp -implicitDefEqProofs [go_sem]
  refine CC.mono (valid_cc _ _ _ _) ?_
  rintro _ _ _ ⟨rfl, rfl, rfl⟩
  have w0 : validJ s c = true → IntKind.i64.wrap (s + c) = s + c := fun h => by
    have := (validJ_iff s c).1 h
    exact IntWalk.i64_in _ ⟨by omega, by omega⟩
  by_cases hv : validJ s c = true
  case neg =>
    simp -implicitDefEqProofs [go_sem, hv]
    refine Wp.s ?_
    simp -implicitDefEqProofs [go_sem]
    exact bad 2 (by rw [e0, if_pos (.inl (by simpa using hv))]) (by simp) (by simp)
  have hvi := (validJ_iff s c).1 hv
  by_cases hln : (d.stable.length : Int) < s + c
  · simp -implicitDefEqProofs [go_sem, hv, w0 hv, hln]
    refine Wp.s ?_
    simp -implicitDefEqProofs [go_sem]
    exact bad 2 (by rw [e0, if_pos (.inr hln)]) (by simp) (by simp)
  rw [if_neg (by simp [hv, hln])] at e0
  simp -implicitDefEqProofs [go_sem, hv, w0 hv, hln]
  refine Wp.s ?_
  simp -implicitDefEqProofs [go_sem]
  refine SWp0.seq (SWp.s0 (Wp.s ?_))
  simp -implicitDefEqProofs [go_sem]
  refine CC.mono (load_cc _ _ s c d hv hl hp) ?_
  rintro _ _ _ ⟨rfl, rfl, rfl⟩
  simp -implicitDefEqProofs [go_sem, hdV]
  refine SWp0.seq (SWp.s0 (SWp.seq (Wp.s ?_)))
  by_cases h1 : (headJ s c d).2.2 = 0
  case neg =>
    simp -implicitDefEqProofs [go_sem, h1]
    refine Wp.s ?_
    simp -implicitDefEqProofs [go_sem]
    exact bad _ (by rw [e0, if_pos h1]) (by simp) (by simp)
  have hho := headJ_ok h1
  rw [if_neg (by simp [h1])] at e0
  simp -implicitDefEqProofs [go_sem, h1]
  refine Wp.s ?_
  simp -implicitDefEqProofs [go_sem]
  generalize (headJ s c d).1 = hd at hho e0 ⊢
  generalize (headJ s c d).2.1 = fi at hho e0 ⊢
  refine SWp0.seq (SWp.s0 (SWp.drawnT [] [11] (.s 0 .pl <| .s 1 .pl <| .s 3 .pl <| .c 2 <| .c 4 <| .s 5 .pl <| .c 6 <| .s 7 .pl <| .s 8 .pl <| .s 9 .pl <| .s 10 .pl <| .s 11 .st <| .s 12 .pl <| .n) (by kernel_rfl) (by kernel_rfl) ?_))
  simp -implicitDefEqProofs [go_sem]
  refine ⟨_, fun H V => sector_cc H V s c 0 hv (by decide) (by decide), ?_⟩
  simp -implicitDefEqProofs [go_sem]
  refine ⟨_, fun H V => length_cc H V s c hv, ?_⟩
  simp -implicitDefEqProofs [go_sem]
  refine ⟨_, fun H V => sRead_cc H V d ⟨s + 16, c - 16⟩ hl, ?_⟩
  simp -implicitDefEqProofs [go_sem]
  refine SWp0.seq (SWp.s0 (SWp.seq (Wp.s ?_)))
  by_cases h2 : (readD d (s + 16) (c - 16)).2 = 0
  case neg =>
    simp -implicitDefEqProofs [go_sem, h2]
    refine Wp.s ?_
    simp -implicitDefEqProofs [go_sem]
    exact bad _ (by rw [e0, if_pos h2]) (by simp) (by simp)
  rw [if_neg (by simp [h2])] at e0
  simp -implicitDefEqProofs [go_sem, h2]
  refine Wp.s ?_
  simp -implicitDefEqProofs [go_sem]
  obtain ⟨n, hnn⟩ : ∃ n : Nat, c - 16 = (n : Int) := ⟨(c - 16).toNat, by omega⟩
  have hct : (readD d (s + 16) (c - 16)).1.length = n := readD_n h2 hnn
  generalize (readD d (s + 16) (c - 16)).1 = ct at hct e0 ⊢
  rw [show (c - 16).toNat = n by omega] at e0
  dsimp only at e0
  refine SWp0.seq (SWp.s0 (Wp.s ?_))
  simp -implicitDefEqProofs [go_sem]
  refine SWp0.ghost (Sh.trim (T' := [(2, .ptr H.length 0), (3, .ptr (H.length + 1) 0), (4, .ptr (H.length + 2) 0), (9, .ptr (H.length + 3) 0), (10, iv hd), (11, iv fi), (13, .ptr (H.length + 4) 0), (14, .ptr (H.length + 5) 0)]) (L := [some (dkC d), some [iv s, iv c], some zjC, some [iv s, iv c], some [secsV ct], some [.v (.slice none 0 0)]]) (V' := V) (by simp [go_sem]) (by simp [go_sem]) hokH (by simp [go_sem]) (Nat.le_refl _) (by simp) (by simp)) ?_
  refine SWp0.join (α := CV × List Nat) (fun x => ([(2, .ptr H.length 0), (3, .ptr (H.length + 1) 0), (4, .ptr (H.length + 2) 0), (9, .ptr (H.length + 3) 0), (10, iv hd), (11, iv fi), (13, .ptr (H.length + 4) 0), (14, .ptr (H.length + 5) 0)], H ++ [some (dkC d), some [iv s, iv c], some zjC, some [iv s, iv c], some [secsV ct], some [x.1]], x.2))
    (fun x => ApS V.length (turnM hd n ct n) x.1 x.2 ∧ V.length ≤ x.2.length ∧ x.2.take V.length = V) ?_ ?_
  · refine SWp0.seq (SWp.s0 (SWp.drawnT [] [] (.s 0 .pl <| .s 1 .pl <| .s 2 .pl <| .s 3 .pl <| .s 4 .pl <| .n) (by kernel_rfl) (by kernel_rfl) ?_))
    simp -implicitDefEqProofs [go_sem]
    refine CC.mono (length_cc _ _ _ _ hv) ?_
    rintro _ _ _ ⟨rfl, rfl, rfl⟩
    simp -implicitDefEqProofs [go_sem, hnn]
    refine CC.mono (from_cc _ _ _ _ _ _) ?_
    rintro _ _ _ ⟨rfl, rfl, rfl⟩
    simp -implicitDefEqProofs [go_sem]
    refine SWp0.block (SWp0.range [(13, .ptr (H.length + 4) 0), (14, .ptr (H.length + 5) 0), (2, .ptr H.length 0), (3, .ptr (H.length + 1) 0), (4, .ptr (H.length + 2) 0), (9, .ptr (H.length + 3) 0), (10, iv hd), (11, iv fi)] rfl (by simp [go_sem]) ?_)
    simp -implicitDefEqProofs [go_sem]
    generalize hbd : Code.block 1 _ = bd
    generalize has : Code.region 15 _ _ = asg
    obtain ⟨TT, hTT⟩ : ∃ TT : Tm, TT = [(13, .ptr (H.length + 4) 0), (14, .ptr (H.length + 5) 0), (2, .ptr H.length 0), (3, .ptr (H.length + 1) 0), (4, .ptr (H.length + 2) 0), (9, .ptr (H.length + 3) 0), (10, iv hd), (11, iv fi)] := ⟨_, rfl⟩
    rw [← hTT]
    refine CC.mono (from1_cc _ V _ _ _ _ s c hd n hv hho.1 (by omega) (by omega) (fun i G V' => ∃ cv, ApS V.length (turnM hd n ct i) cv V' ∧ V.length ≤ V'.length ∧ V'.take V.length = V ∧ G = HO H d s c ct cv (some [iv s, iv c]) (some [iv hd]) (some [iv n]) (some [lpc 142 #[77] asg bd TT .ready none]))
      ⟨.v (.slice none 0 0), .inl ⟨rfl, rfl⟩, Nat.le_refl _, by simp, rfl⟩ ?_ ?_) ?_
    · rintro i _ V' ⟨cv, _, _, _, rfl⟩
      exact ⟨hget _ _ 8, hget _ _ 7, hget _ _ 6⟩
    · rintro i hi _ V' ⟨cv, ha, hv1, hv2, rfl⟩
      refine YC.of_round (n := 142) (ps := #[77]) (bd := bd) (T := TT) (hget _ _ 9) rfl (by decide) ?_
      subst hbd has
      rw [hnn]
      have hq1 := Int.emod_nonneg (hd + (i : Int)) (show (n : Int) ≠ 0 by omega)
      have hq2 := Int.emod_lt_of_pos (hd + (i : Int)) (show 0 < (n : Int) by omega)
      have hmx := turnM_succ hd n ct i
      rw [hmx]
      have hln := turnM_len hd n ct i
      generalize turnM hd n ct i = M at ha hln ⊢
      obtain ⟨q, hqq⟩ : ∃ q : Nat, (hd + (i : Int)) % (n : Int) = (q : Int) := ⟨((hd + (i : Int)) % (n : Int)).toNat, by omega⟩
      rw [hqq] at hq1 hq2 ⊢
      rw [Int.toNat_natCast]
      have hqc : q < ct.length := by omega
      have hgd : ct.getD q sec0 = ct[q] := by rw [List.getD_eq_getElem?_getD, List.getElem?_eq_getElem hqc]; rfl
      rw [hgd]
      subst hTT
      refine Wp.s ?_
      simp -implicitDefEqProofs [go_sem, tps]
      refine SWp.block ?_
      generalize hlp : lpc 142 #[77] _ _ _ LoopState.busy none = lp
      generalize hqqq : RQ 142 #[77] _ _ _ _ _ = QQ
      refine SWp.drawnT [] [7] (.s 0 .pl <| .s 1 .pl <| .s 2 .pl <| .s 3 .pl <| .s 4 .pl <| .s 5 .pl <| .s 6 .pl <| .s 7 .st <| .n) (by kernel_rfl) (by kernel_rfl) ?_
      rcases ha with ⟨rfl, he⟩ | ⟨k, v, rfl, hv, hk⟩
      · simp -implicitDefEqProofs [go_sem, hqc]
        rw [← hqqq, ← hlp]
        refine ⟨hget _ _ 9, rfl, .sl (.own V'.length 0) 8 [secC ct[q]], .inr ⟨V'.length, 0, ?_, by simp, hv1⟩, by simp; omega, ?_, ?_⟩
        · rw [he]; rfl
        · rw [List.take_append_of_le_length hv1]; exact hv2
        · simp
      · simp -implicitDefEqProofs [go_sem, hqc, hv]
        rw [← hqqq, ← hlp]
        have hkv := (List.getElem?_eq_some_iff.1 hv).1
        refine ⟨by omega, hget _ _ 9, rfl, .sl (.own k (v + 1)) 8 (List.map secC M ++ [secC ct[q]]), .inr ⟨k, v + 1, ?_, by rw [List.getElem?_set_self hkv], hk⟩, by simpa using hv1, ?_, ?_⟩
        · rw [List.map_append]; rfl
        · rw [List.take_set_of_le hk]; exact hv2
        · simp
    · rintro _ _ V' ⟨cv, ha, hv1, hv2, rfl⟩
      refine .inl ⟨hget _ _ 9, ?_⟩
      subst hTT
      refine ⟨cv, V', ⟨ha, hv1, hv2⟩, ?_⟩
      exact Sh.trim (L := [some (dkC d), some [iv s, iv c], some zjC, some [iv s, iv c], some [secsV ct], some [cv]]) (by simp [go_sem]) (by simp [go_sem]) hokH (by simp [go_sem, ha.ok]) hv1 (by simp) (List.take_of_length_le (Nat.le_refl _))
  rintro ⟨cv, V'⟩ ⟨h3, h4, h5⟩
  dsimp only
  refine SWp.s0 ?_
  refine SWp.seq (Wp.s ?_)
  simp -implicitDefEqProofs [go_sem]
  refine CC.le (.cons h3.le (.cons (.refl _) .nil)) ?_
  have htl := turnM_len hd n ct n
  generalize turnM hd n ct n = l at htl h3 e0 ⊢
  refine CC.mono (Scan_cc _ _ l fi (by omega) (by omega) (by omega)) ?_
  rintro _ _ _ ⟨rfl, rfl, rfl⟩
  simp -implicitDefEqProofs [go_sem, scV]
  have hR : recsO fi l = (scanA l fi).1.take (min (scanA l fi).1.length (1073741824 - fi).toNat) := rfl
  have hsl : (scanA l fi).1.length ≤ l.length := scanX_len _ _ _
  generalize (scanA l fi).1 = rs0 at hR hsl ⊢
  generalize (scanA l fi).2 = na
  have w3 : IntKind.i64.wrap (1073741824 - fi) = 1073741824 - fi := IntWalk.i64_in _ ⟨by omega, by omega⟩
  obtain ⟨m, hm⟩ : ∃ m, m = min rs0.length (1073741824 - fi).toNat := ⟨_, rfl⟩
  have hmi : min (rs0.length : Int) (1073741824 - fi) = (m : Int) := by omega
  have hml : m ≤ rs0.length := by omega
  refine SWp.seq (Wp.s ?_)
  simp -implicitDefEqProofs [go_sem, w3, hmi, hml]
  refine SWp.seq (Wp.s ?_)
  simp -implicitDefEqProofs [go_sem]
  have eT : List.take m (List.map rcC rs0) = (rs0.take m).map rcC := (List.map_take ..).symm
  rw [eT]
  rw [← hm] at hR
  have hrl : (rs0.take m).length ≤ 100000 := by rw [List.length_take]; omega
  generalize rs0.take m = rs at hR hrl ⊢
  rw [hR] at e0
  have hA5 : ∀ W : List Nat, V'.length ≤ W.length → okV (H.length + 7) W.length cv := fun W hW => okV_mono (Nat.le_refl _) hW h3.ok
  refine SWp.join (α := CV × List Nat) (fun x => ([(4, .ptr (H.length + 2) 0), (13, .ptr (H.length + 4) 0), (16, .sl .sh 3 (rs.map rcC)), (18, .ptr (H.length + 6) 0)], H ++ [some (dkC d), some [iv s, iv c], some zjC, some [iv s, iv c], some [secsV ct], some [cv], some [iv s, iv c, iv hd, iv (tailX n hd (szs rs)), iv fi, x.1]], x.2)) (fun x => ApZ V' (szs rs) x.1 x.2) ?_ ?_
  · refine SWp.seq (Wp.s ?_)
    simp -implicitDefEqProofs [go_sem]
    refine SWp.block ?_
    refine SWp.loop (α := Nat × CV × List Nat) (fun x => ([(4, .ptr (H.length + 2) 0), (9, .ptr (H.length + 3) 0), (13, .ptr (H.length + 4) 0), (16, .sl .sh 3 (rs.map rcC)), (18, .ptr (H.length + 6) 0), (103, .sl .sh 3 (rs.map rcC)), (104, ci rs.length), (105, ci x.1)], H ++ [some (dkC d), some [iv s, iv c], some zjC, some [iv s, iv c], some [secsV ct], some [cv], some [iv s, iv c, iv hd, iv (tailX n hd (szs (rs.take x.1))), iv fi, x.2.1]], x.2.2)) (fun x => x.1 ≤ rs.length ∧ ApZ V' (szs (rs.take x.1)) x.2.1 x.2.2) (fun x => rs.length - x.1) (0, .v (.slice none 0 0), V') ⟨Nat.zero_le _, .inl ⟨rfl, rfl, rfl⟩⟩ (Sh.forget (by simp [go_sem]) (by simp [tailX, szs]) rfl) ?_
    rintro ⟨i, cz, W⟩ ⟨hi, hz⟩
    dsimp only at hi hz ⊢
    refine SWp.seq (Wp.s ?_)
    simp -implicitDefEqProofs [go_sem]
    refine SWp.seq (Wp.s ?_)
    simp -implicitDefEqProofs [go_sem]
    refine ⟨fun h => ?_, fun h => ?_⟩
    case refine_2 =>
      rw [List.take_of_length_le h] at hz ⊢
      exact ⟨cz, W, hz, Sh.forget (by simp [go_sem]) rfl rfl⟩
    have htx := tailX_in (n := n) (h := hd) (by omega) (by omega) (by omega) (szs (rs.take i))
    have hsn := szs_snoc rs i h
    have hsx := szR_in (rs[i].pay.length : Int)
    have htn := tailX_snoc n hd (szs (rs.take i)) (szR (rs[i].pay.length : Int))
    generalize tailX n hd (szs (rs.take i)) = tl at htx htn ⊢
    refine SWp.seq (SWp.block (SWp.seq (Wp.s ?_)))
    simp -implicitDefEqProofs [go_sem, h]
    refine SWp.seq (Wp.s ?_)
    simp -implicitDefEqProofs [go_sem]
    refine CC.mono (RSize_cc _ _ _) ?_
    rintro _ _ _ ⟨rfl, rfl, rfl⟩
    simp -implicitDefEqProofs [go_sem]
    generalize szR (rs[i].pay.length : Int) = sz at hsn hsx htn ⊢
    have w5 : IntKind.i64.wrap (tl + sz) = tl + sz := IntWalk.i64_in _ ⟨by omega, by omega⟩
    have t5 := Int.tmod_eq_emod_of_nonneg (b := (n : Int)) (show 0 ≤ tl + sz by omega)
    have hz0 : ¬ (n : Int) = 0 := by omega
    have hst : tailX (n : Int) hd (szs (rs.take (i + 1))) = (tl + sz) % (n : Int) := by rw [hsn, htn]
    rcases hz with ⟨he, rfl, rfl⟩ | ⟨v, rfl, rfl⟩
    · refine SWp.seq (Wp.s ?_)
      simp -implicitDefEqProofs [go_sem]
      refine SWp.drawnT [] [8] (.s 0 .pl <| .s 1 .pl <| .s 2 .pl <| .s 3 .pl <| .s 4 .pl <| .s 5 .pl <| .s 6 .pl <| .s 7 .pl <| .s 8 .st <| .n) (by kernel_rfl) (by kernel_rfl) ?_
      simp -implicitDefEqProofs [go_sem, w5]
      refine CC.mono (length_cc _ _ _ _ hv) ?_
      rintro _ _ _ ⟨rfl, rfl, rfl⟩
      simp -implicitDefEqProofs [go_sem, hnn, t5, hz0]
      refine ⟨by omega, Wp.s ?_⟩
      simp -implicitDefEqProofs [go_sem, wrap_succ (show i ≤ 1000000000 by omega)]
      refine ⟨i + 1, .sl (.own W.length 0) 1 [ic sz], W ++ [0], ⟨by omega, .inr ⟨0, by rw [hsn, he]; rfl, rfl⟩⟩, by omega, ?_⟩
      rw [hst]
      exact Sh.trim (L := [some (dkC d), some [iv s, iv c], some zjC, some [iv s, iv c], some [secsV ct], some [cv], some [iv s, iv c, iv hd, iv ((tl + sz) % (n : Int)), iv fi, .sl (.own W.length 0) 1 [ic sz]]]) (by simp [go_sem]) (by simp [go_sem]) hokH (by simp [go_sem, hA5 (W ++ [0]) (by simp), okL, okV, ic]; exact okV_mono (Nat.le_refl _) (by simp) h3.ok) (by simp; simp at h4; omega) (by simp [ic]) (by simp)
    · refine SWp.seq (Wp.s ?_)
      simp -implicitDefEqProofs [go_sem]
      refine ⟨by simp [szs]; omega, ?_⟩
      refine SWp.drawnT [] [8] (.s 0 .pl <| .s 1 .pl <| .s 2 .pl <| .s 3 .pl <| .s 4 .pl <| .s 5 .pl <| .s 6 .pl <| .s 7 .pl <| .s 8 .st <| .n) (by kernel_rfl) (by kernel_rfl) ?_
      simp -implicitDefEqProofs [go_sem, w5]
      refine CC.mono (length_cc _ _ _ _ hv) ?_
      rintro _ _ _ ⟨rfl, rfl, rfl⟩
      simp -implicitDefEqProofs [go_sem, hnn, t5, hz0]
      refine ⟨by omega, Wp.s ?_⟩
      simp -implicitDefEqProofs [go_sem, wrap_succ (show i ≤ 1000000000 by omega)]
      refine ⟨i + 1, .sl (.own V'.length (v + 1)) 1 (List.map ic (szs (rs.take i)) ++ [ic sz]), V' ++ [v + 1], ⟨by omega, .inr ⟨v + 1, by rw [hsn, List.map_append]; rfl, rfl⟩⟩, by omega, ?_⟩
      rw [hst]
      exact Sh.trim (L := [some (dkC d), some [iv s, iv c], some zjC, some [iv s, iv c], some [secsV ct], some [cv], some [iv s, iv c, iv hd, iv ((tl + sz) % (n : Int)), iv fi, .sl (.own V'.length (v + 1)) 1 (List.map ic (szs (rs.take i)) ++ [ic sz])]]) (by simp [go_sem]) (by simp [go_sem]) hokH (by
        rw [show List.map ic (szs (rs.take i)) ++ [ic sz] = (szs (rs.take i) ++ [sz]).map ic by rw [List.map_append]; rfl]
        simp [go_sem, okE_ints, -List.map_append]; exact okV_mono (Nat.le_refl _) (by simp) h3.ok) (by simp; simp at h4; omega) (by simp [ic]) (by simp)
  rintro ⟨cz, W⟩ hz
  dsimp only at hz ⊢
  refine SWp.seq (Wp.s ?_)
  simp -implicitDefEqProofs [go_sem]
  obtain ⟨J, hJd⟩ : ∃ J, J = jO s c hd fi rs := ⟨_, rfl⟩
  have hJ : [iv s, iv c, iv hd, iv (tailX n hd (szs rs)), iv fi, .sl .sh 1 ((szs rs).map ic)] = jrC J := by rw [hJd, jO, hnn]; rfl
  have hJs : J.sizes.length ≤ 1000000000 := by rw [hJd, jO]; simp [szs]; omega
  have hJ1 : J.start = s := by rw [hJd]; rfl
  have hJ2 : J.count = c := by rw [hJd]; rfl
  rw [← hJd] at e0
  have hzl := hz.len
  refine CC.le (ys := [.agg (jrC J)]) (.cons (by rw [← hJ]; exact .agg (.cons (.refl _) (.cons (.refl _) (.cons (.refl _) (.cons (.refl _) (.cons (.refl _) (.cons hz.le .nil))))))) .nil) ?_
  refine CC.mono (examine_cc _ _ J hJs) ?_
  rintro _ _ _ ⟨u, rfl, rfl, rfl, hu⟩
  simp -implicitDefEqProofs [go_sem]
  refine SWp.seq (SWp.seq (Wp.s ?_))
  have hV : W.take V.length = V := by
    have h6 : V'.take V.length = V := h5
    rw [← h6, ← hzl.2, List.take_take, Nat.min_eq_left (by simpa using h4)]
    simp
  by_cases hck : chkJ J = true
  case neg =>
    rw [if_pos (by simpa using hck)] at e0
    simp -implicitDefEqProofs [go_sem, hck]
    refine Wp.s ?_
    simp -implicitDefEqProofs [go_sem]
    exact bad 3 e0 (by simp) hV
  rw [if_neg (by simp [hck])] at e0
  obtain rfl := hu hck
  simp -implicitDefEqProofs [go_sem, hck]
  refine Wp.s ?_
  simp -implicitDefEqProofs [go_sem]
  refine SWp.seq (SWp.drawnT [H.length + 7, H.length + 4] [6] (.s 0 .pl <| .s 2 .pl <| .s 3 .ld <| .s 4 .ld <| .s 1 .pl <| .s 5 .pl <| .s 6 .st <| .s 7 .pl <| .s 8 .pl <| .s 9 .pl <| .n) (by kernel_rfl) (by kernel_rfl) ?_)
  simp -implicitDefEqProofs [go_sem]
  refine CC.mono (own_cc _ _ J _ hJs) ?_
  rintro _ _ _ ⟨v, rfl, rfl, rfl⟩
  simp -implicitDefEqProofs [go_sem]
  refine CC.mono (remove_cc _ _ J ct hck (by rw [hct, hJ2]; omega)) ?_
  rintro _ _ _ ⟨rfl, rfl, rfl⟩
  simp -implicitDefEqProofs [go_sem]
  refine ⟨Kp.keep fun b hb => ?_, Wp.s ?_⟩
  · rcases List.mem_cons.1 hb with rfl | hb
    · rw [hget, hget]; rfl
    · obtain rfl : b = H.length + 4 := by simpa using hb
      rw [hget, hget]; rfl
  simp -implicitDefEqProofs [go_sem]
  rw [e0]
  refine Fin.pu (.tup (.cons (.agg (.cons (.refl _) (.cons (.refl _) (.cons (.refl _) (.cons (.refl _) (.cons (.refl _) (.cons (.sh _ _ _) .nil))))))) (.cons (.refl _) (.cons (.refl _) (.cons (.refl _) .nil))))) (okV_opV _ _ _) hokH (by simp) ?_
  rw [List.take_append_of_le_length (by have := hzl.1; simp at h4; omega)]
  exact hV
end Go.Proofs.YtmgoflhjblombaaDoor
namespace Go.Proofs.YtmgoflhjblombaaDoor
open Go.Proofs
def aj0 : Jrn := (formatJ 3 24).1
def ao0 : List Opn := (formatJ 3 24).2.1
def ad0 : Dk := (newR 31).1
def ad1 : Dk := (runR ad0 ao0).1
def awA (j : Jrn) (i : Nat) : Jrn × List Opn × Nat := appJ j 1 [byt i]
def awJ : Nat → Jrn
  | 0 => aj0
  | i + 1 => (awA (awJ i) i).1
def awO (i : Nat) : List Opn := (awA (awJ i) i).2.1
def awD : Nat → Dk
  | 0 => ad1
  | i + 1 => (runR (awD i) (awO i)).1
theorem aw_new : newR 31 = (ad0, 0) := Prod.ext rfl (by kernel_rfl)
theorem aw_fmt : formatJ 3 24 = (aj0, ao0, 0) := Prod.ext rfl (Prod.ext rfl (by kernel_rfl))
theorem aw_runZ : (runR ad0 ao0).2.2 = 0 := by kernel_rfl
theorem aw_app0 : (awA (awJ 0) 0).2.2 = 0 := by kernel_rfl
theorem aw_app1 : (awA (awJ 1) 1).2.2 = 0 := by kernel_rfl
theorem aw_app : ∀ i, i < 2 → (awA (awJ i) i).2.2 = 0 := fun i hi => by
  have h : i = 0 ∨ i = 1 := by omega
  rcases h with rfl | rfl
  · exact aw_app0
  · exact aw_app1
theorem aw_run0 : (runR (awD 0) (awO 0)).2.2 = 0 := by kernel_rfl
theorem aw_run1 : (runR (awD 1) (awO 1)).2.2 = 0 := by kernel_rfl
theorem aw_run : ∀ i, i < 2 → (runR (awD i) (awO i)).2.2 = 0 := fun i hi => by
  have h : i = 0 ∨ i = 1 := by omega
  rcases h with rfl | rfl
  · exact aw_run0
  · exact aw_run1
theorem aw_free0 : frJ (awJ (0 + 1)) = 6 - 2 * ((0 : Nat) : Int) := by kernel_rfl
theorem aw_free1 : frJ (awJ (1 + 1)) = 6 - 2 * ((1 : Nat) : Int) := by kernel_rfl
theorem aw_free : ∀ i, i < 2 → frJ (awJ (i + 1)) = 6 - 2 * (i : Int) := fun i hi => by
  have h : i = 0 ∨ i = 1 := by omega
  rcases h with rfl | rfl
  · exact aw_free0
  · exact aw_free1
theorem aw_next9 : (appJ (awJ 2) 1 (List.replicate 9 0)).2.2 = 0 := by kernel_rfl
theorem aw_free9 : frJ (appJ (awJ 2) 1 (List.replicate 9 0)).1 = 0 := by kernel_rfl
theorem aw_full : appJ (awJ 2) 1 (List.replicate 10 0) = (zjr, [], 11) := by kernel_rfl
def awR (i : Nat) : Rcd := ⟨1, 1 + (i : Int), [byt i]⟩
theorem aw_open : openJ 3 24 (awD 2) = (awJ 2, [awR 0, awR 1], [], 0) := by kernel_rfl
theorem aw_nx : nxJ (awJ 2) = 3 := by kernel_rfl
theorem aw_ld : (loadS (awD 2) 3).1.length ≤ 100 := Nat.le_of_ble_eq_true (by kernel_rfl)
theorem aw_len : ∀ i, i ≤ 2 → Nat.ble (awD i).stable.length 1000 = true ∧ Nat.ble (awD i).cache.length 1000 = true ∧ Nat.ble (awJ i).sizes.length 1000 = true := fun i hi => by
  have h : i = 0 ∨ i = 1 ∨ i = 2 := by omega
  rcases h with rfl | rfl | rfl <;> exact ⟨by kernel_rfl, by kernel_rfl, by kernel_rfl⟩
theorem aw_tot : ∀ i, i < 2 → Nat.ble (tot (awO i)) 1000 = true ∧ Nat.ble (awO i).length 1000 = true := fun i hi => by
  have h : i = 0 ∨ i = 1 := by omega
  rcases h with rfl | rfl <;> exact ⟨by kernel_rfl, by kernel_rfl⟩
theorem aw_tot0 : Nat.ble (tot ao0) 1000 = true ∧ Nat.ble ao0.length 1000 = true := ⟨by kernel_rfl, by kernel_rfl⟩
theorem aw_d0 : Nat.ble ad0.stable.length 1000 = true ∧ Nat.ble ad0.cache.length 1000 = true := ⟨by kernel_rfl, by kernel_rfl⟩
theorem aw_len9 : Nat.ble (appJ (awJ 2) 1 (List.replicate 9 0)).1.sizes.length 1000 = true := by kernel_rfl
end Go.Proofs.YtmgoflhjblombaaDoor
namespace Go.Proofs.YtmgoflhjblombaaDoor
open Go.Proofs
@[go_sem, simp] theorem dkC_drop2 (d : Dk) : (dkC d).drop 2 = [] := rfl
@[go_sem, simp] theorem dkC_take2 (d : Dk) : (dkC d).take 2 = dkC d := rfl
theorem four_u8 : ((4 : UInt8).toNat : Int) = 4 := rfl
set_option maxRecDepth 8000 in
theorem begin4_cc (H : Hp) (V : List Nat)  : CC Tryd.prog 19 [.v (.int .u8 4)] H V (Pu (.tup [.agg (dkC ad1), .agg (jrC aj0), cb true]) H V) := by
  refine CC.of_swp Tryd.func19 rfl (by kernel_rfl) (by rw [Tryd.ntmps19]; exact len_le _ _ rfl) fun hok hokH => ?_
  clear hok
  have q0 := aw_d0
  have q1 := aw_tot0
  have l1 := Nat.le_of_ble_eq_true q0.1
  have l2 := Nat.le_of_ble_eq_true q0.2
  have l3 := Nat.le_of_ble_eq_true q1.1
  have l4 := Nat.le_of_ble_eq_true q1.2
  refine SWp.seq (Wp.s ?_)
  simp -implicitDefEqProofs [go_sem, args0]
  refine SWp.seq (Wp.s ?_)
  simp -implicitDefEqProofs [go_sem]
  refine CC.mono (show CC Tryd.prog 22 [.v (.int .u8 4)] _ _ (Pu (.agg [iv 3, iv 24]) _ _) from region_cc _ _ 4) ?_
  rintro _ _ _ ⟨rfl, rfl, rfl⟩
  simp -implicitDefEqProofs [go_sem, show IntKind.i64.wrap 31 = 31 from rfl]
  refine CC.mono (sNew_cc _ _ 31) ?_
  rintro _ _ _ ⟨rfl, rfl, rfl⟩
  rw [aw_new]
  simp -implicitDefEqProofs [go_sem]
  refine SWp.seq (Wp.s ?_)
  simp -implicitDefEqProofs [go_sem]
  refine CC.mono (show CC Tryd.prog 22 [.v (.int .u8 4)] _ _ (Pu (.agg [iv 3, iv 24]) _ _) from region_cc _ _ 4) ?_
  rintro _ _ _ ⟨rfl, rfl, rfl⟩
  simp -implicitDefEqProofs [go_sem]
  refine CC.mono (Format_cc _ _ 3 24) ?_
  rintro _ _ _ ⟨rfl, rfl, rfl⟩
  rw [aw_fmt]
  simp -implicitDefEqProofs [go_sem, jtV]
  refine SWp.seq (Wp.s ?_)
  simp -implicitDefEqProofs [go_sem]
  refine CC.mono (sRun_cc _ _ ad0 ao0 (by omega) (by omega) (by omega)) ?_
  rintro _ _ _ ⟨rfl, rfl, rfl⟩
  simp -implicitDefEqProofs [go_sem, runV]
  refine SWp.seq (SWp.drawnT [H.length + 3] [12, 13] (.s 0 .pl <| .s 1 .ld <| .s 2 .pl <| .s 3 .pl <| .s 4 .pl <| .s 5 .pl <| .s 6 .pl <| .s 7 .pl <| .s 8 .pl <| .s 9 .pl <| .s 10 .pl <| .s 11 .pl <| .s 12 .st <| .s 13 .st <| .s 14 .pl <| .n) (by kernel_rfl) (by kernel_rfl) ?_)
  simp -implicitDefEqProofs [go_sem, aw_runZ]
  have hk : ∀ (x y a b c : Option (List CV)), Kp [H.length + 3] (H ++ [x, a, b, c]) (H ++ [y, a, b, c]) := fun x y a b c => Kp.keep fun b' hb => by
    obtain rfl : b' = H.length + 3 := by simpa using hb
    rw [hget, hget]; rfl
  have hk2 : ∀ (x y a b c : Option (List CV)), Kp [H.length + 3] (H ++ [a, x, b, c]) (H ++ [a, y, b, c]) := fun x y a b c => Kp.keep fun b' hb => by
    obtain rfl : b' = H.length + 3 := by simpa using hb
    rw [hget, hget]; rfl
  refine ⟨hk _ _ _ _ _, hk2 _ _ _ _ _, Wp.s ?_⟩
  simp -implicitDefEqProofs [go_sem]
  refine Fin.pu (.refl _) ?_ hokH (by simp) (by simp)
  simp [go_sem, okL, okV, okL_jrC]
theorem call_bytes {f : FuncId} {H : Hp} {V : List Nat} {R : CV → Hp → List Nat → Prop} {x y : CV} (b n : Nat) (hb : H[b]? = some (some (fb (List.replicate n 0)))) (hc : CC Tryd.prog f [x, y, .sl .sh 1 (bs (List.replicate n 0))] (H.set b none) V R) : CC Tryd.prog f [x, y, .bsl b 0 n 1] H V R := by
  have hch := fb_chunks (List.replicate n 0)
  rw [List.length_replicate] at hch
  refine CC.let_go _ b _ hb (.cons (.refl _) (.cons (.refl _) (.cons ?_ .nil))) hc
  rw [← hch]
  exact .bsl _ _ _ (by simp)
/-! ### The example of the chapter -/
def aw9 : Jrn := (appJ (awJ 2) 1 (List.replicate 9 0)).1
set_option maxRecDepth 8000 in
theorem awake_cc (H : Hp) (V : List Nat)  : CC Tryd.prog 5 [] H V (Pu (cb true) H V) := by
  refine CC.of_swp Tryd.func5 rfl (by kernel_rfl) (by rw [Tryd.ntmps5]; exact len_le _ _ rfl) fun hok hokH => ?_
  clear hok
  refine SWp.seq (Wp.s ?_)
  simp -implicitDefEqProofs [go_sem, args0]
  refine SWp.seq (Wp.s ?_)
  simp -implicitDefEqProofs [go_sem]
  refine CC.mono (begin4_cc _ _) ?_
  rintro _ _ _ ⟨rfl, rfl, rfl⟩
  simp -implicitDefEqProofs [go_sem]
  refine SWp.join (α := Unit) (fun x => ([(1, .ptr H.length 0), (2, .ptr (H.length + 1) 0), (3, cb true)], H ++ [some (dkC (awD 2)), some (jrC (awJ 2))], V)) (fun _ => True) ?_ ?_
  · refine SWp.seq (Wp.s ?_)
    simp -implicitDefEqProofs [go_sem]
    refine SWp.block ?_
    refine SWp.loop (α := Nat) (fun i => ([(1, .ptr H.length 0), (2, .ptr (H.length + 1) 0), (3, cb true), (4, ci i)], H ++ [some (dkC (awD i)), some (jrC (awJ i))], V)) (fun i => i ≤ 2) (fun i => 2 - i) 0 (by omega) (Sh.forget (by simp [go_sem]) rfl rfl) ?_
    intro i hi
    dsimp only
    obtain ⟨q1, q2, q3⟩ := aw_len i hi
    have l1 := Nat.le_of_ble_eq_true q1
    have l2 := Nat.le_of_ble_eq_true q2
    have l3 := Nat.le_of_ble_eq_true q3
    refine SWp.seq (SWp.seq (Wp.s ?_))
    by_cases h : i < 2
    case neg =>
      obtain rfl : i = 2 := by omega
      simp -implicitDefEqProofs [go_sem]
      refine Wp.s ?_
      simp -implicitDefEqProofs [go_sem]
      exact Sh.forget (by simp [go_sem]) rfl rfl
    have h' : (i : Int) < 2 := by omega
    simp -implicitDefEqProofs [go_sem, h']
    refine Wp.s ?_
    simp -implicitDefEqProofs [go_sem]
    refine SWp.seq (SWp.block (SWp.seq (Wp.s ?_)))
    simp -implicitDefEqProofs [go_sem, u8s_1]
    refine CC.le (ys := [.agg (jrC (awJ i)), iv 1, .sl .sh 1 (bs [byt i])]) (.cons (.refl _) (.cons (.refl _) (.cons (.sh _ _ _) .nil))) ?_
    refine CC.mono (Append_cc _ _ (awJ i) 1 [byt i] (by omega) (show 1 ≤ 900000000 by decide)) ?_
    rintro _ _ _ ⟨rfl, rfl, rfl⟩
    have ea : appJ (awJ i) 1 [byt i] = (awJ (i + 1), awO i, 0) := Prod.ext rfl (Prod.ext rfl (aw_app i h))
    rw [ea]
    simp -implicitDefEqProofs [go_sem, jtV]
    obtain ⟨p1, p2⟩ := aw_tot i h
    have l4 := Nat.le_of_ble_eq_true p1
    have l5 := Nat.le_of_ble_eq_true p2
    refine SWp.seq (Wp.s ?_)
    simp -implicitDefEqProofs [go_sem]
    refine CC.mono (sRun_cc _ _ (awD i) (awO i) (by omega) (by omega) (by omega)) ?_
    rintro _ _ _ ⟨rfl, rfl, rfl⟩
    have er1 : runR (awD i) (awO i) = (awD (i + 1), (runR (awD i) (awO i)).2.1, 0) := Prod.ext rfl (Prod.ext rfl (aw_run i h))
    rw [er1]
    simp -implicitDefEqProofs [go_sem, runV]
    obtain ⟨q1', q2', q3'⟩ := aw_len (i + 1) (by omega)
    have l3' := Nat.le_of_ble_eq_true q3'
    have hf := aw_free i h
    have w1 : IntKind.i64.wrap (2 * (i : Int)) = 2 * (i : Int) := IntWalk.i64_in _ ⟨by omega, by omega⟩
    have w2 : IntKind.i64.wrap (6 - 2 * (i : Int)) = 6 - 2 * (i : Int) := IntWalk.i64_in _ ⟨by omega, by omega⟩
    refine SWp.drawnT [H.length + 2] [11] (.s 0 .pl <| .s 1 .pl <| .s 2 .pl <| .s 3 .pl <| .s 4 .ld <| .s 6 .pl <| .s 7 .pl <| .s 8 .pl <| .s 5 .pl <| .s 9 .pl <| .s 10 .pl <| .s 11 .st <| .s 12 .pl <| .n) (by kernel_rfl) (by kernel_rfl) ?_
    simp -implicitDefEqProofs [go_sem, w1, w2]
    refine CC.mono (JFree_cc _ _ (awJ (i + 1)) (by omega)) ?_
    rintro _ _ _ ⟨rfl, rfl, rfl⟩
    simp -implicitDefEqProofs [go_sem, hf]
    refine ⟨Kp.keep fun b hb => ?_, ?_⟩
    · obtain rfl : b = H.length + 2 := by simpa using hb
      rw [hget, hget]; rfl
    refine Wp.s ?_
    simp -implicitDefEqProofs [go_sem]
    refine ⟨i + 1, by omega, by omega, Sh.trim (L := [some (dkC (awD (i + 1))), some (jrC (awJ (i + 1)))]) ?_ (by simp [go_sem]) hokH (by simp [go_sem]) (Nat.le_refl _) (by simp) (by simp)⟩
    simp [go_sem, wrap_succ (show i ≤ 1000000000 by omega)]
  rintro _ -
  dsimp only
  obtain ⟨q1, q2, q3⟩ := aw_len 2 (Nat.le_refl _)
  have l1 := Nat.le_of_ble_eq_true q1
  have l2 := Nat.le_of_ble_eq_true q2
  have l3 := Nat.le_of_ble_eq_true q3
  have e9 : appJ (awJ 2) 1 (List.replicate 9 0) = (aw9, (appJ (awJ 2) 1 (List.replicate 9 0)).2.1, 0) := Prod.ext rfl (Prod.ext rfl aw_next9)
  have hkp : ∀ (x y : Hp), Kp [H.length + 1] (H ++ some (dkC (awD 2)) :: some (jrC (awJ 2)) :: x) (H ++ some (dkC (awD 2)) :: some (jrC (awJ 2)) :: y) := fun x y => Kp.keep fun b hb => by
    obtain rfl : b = H.length + 1 := by simpa using hb
    rw [hget, hget]; rfl
  refine SWp.join (α := Bool) (fun x => ([(1, .ptr H.length 0), (2, .ptr (H.length + 1) 0), (3, cb true), (8, .ptr (H.length + 2 + cond x 1 0) 0), (10, er 0)], H ++ (some (dkC (awD 2)) :: some (jrC (awJ 2)) :: cond x [none, some (jrC aw9)] [some (jrC aw9)]), V)) (fun _ => True) ?_ ?_
  · refine SWp.drawnT [H.length + 1] [2, 8] (.s 0 .ld <| .f 1 .pl (.f 2 .st (.s 3 .pl <| .s 4 .pl <| .s 5 .pl <| .s 6 .pl <| .s 7 .pl <| .s 8 .st <| .s 9 .pl <| .s 10 .pl <| .n) 7 .pl (.s 2 .st <| .s 3 .pl <| .s 4 .pl <| .s 5 .pl <| .s 6 .pl <| .s 8 .st <| .s 9 .pl <| .s 10 .pl <| .n)) 7 .pl (.s 1 .pl <| .s 2 .st <| .s 3 .pl <| .s 4 .pl <| .s 5 .pl <| .s 6 .pl <| .s 8 .st <| .s 9 .pl <| .s 10 .pl <| .n)) (by kernel_rfl) (by kernel_rfl) ?_
    simp -implicitDefEqProofs [go_sem]
    refine ⟨⟨?_, ?_⟩, ?_⟩
    · refine call_bytes (H.length + 2) 9 ?_ ?_
      · exact (hget _ _ 2).trans rfl
      refine CC.mono (Append_cc _ _ (awJ 2) 1 (List.replicate 9 0) (by omega) (by decide)) ?_
      rintro _ _ _ ⟨rfl, rfl, rfl⟩
      rw [e9]
      simp -implicitDefEqProofs [go_sem, jtV]
      exact ⟨hkp _ _, hkp _ _, .inr (Sh.forget (by simp [go_sem]) rfl rfl)⟩
    · refine call_bytes (H.length + 2) 9 ?_ ?_
      · exact (hget _ _ 2).trans rfl
      refine CC.mono (Append_cc _ _ (awJ 2) 1 (List.replicate 9 0) (by omega) (by decide)) ?_
      rintro _ _ _ ⟨rfl, rfl, rfl⟩
      rw [e9]
      simp -implicitDefEqProofs [go_sem, jtV]
      exact ⟨hkp _ _, hkp _ _, .inr (Sh.forget (by simp [go_sem]) rfl rfl)⟩
    · refine call_bytes (H.length + 3) 9 ?_ ?_
      · exact (hget _ _ 3).trans rfl
      refine CC.mono (Append_cc _ _ (awJ 2) 1 (List.replicate 9 0) (by omega) (by decide)) ?_
      rintro _ _ _ ⟨rfl, rfl, rfl⟩
      rw [e9]
      simp -implicitDefEqProofs [go_sem, jtV]
      exact ⟨hkp _ _, hkp _ _, .inl (Sh.trim (L := [some (dkC (awD 2)), some (jrC (awJ 2)), some (jrC aw9)]) (by simp [go_sem]) (by simp [go_sem]) hokH (by simp [go_sem]) (Nat.le_refl _) (by simp) (by simp))⟩
  rintro x -
  dsimp only
  refine SWp.join (α := Unit) (fun _ => ([(1, .ptr H.length 0), (2, .ptr (H.length + 1) 0), (3, cb true), (8, .ptr (H.length + 2 + cond x 1 0) 0), (10, er 0), (13, er 11)], H ++ (some (dkC (awD 2)) :: some (jrC (awJ 2)) :: cond x [none, some (jrC aw9)] [some (jrC aw9)]), V)) (fun _ => True) ?_ ?_
  · cases x
    · refine SWp.drawnT [H.length + 1] [2, 8] (.s 0 .ld <| .f 1 .pl (.f 2 .st (.s 3 .pl <| .s 4 .pl <| .s 5 .pl <| .s 6 .pl <| .s 7 .pl <| .s 8 .st <| .s 9 .pl <| .s 10 .pl <| .n) 7 .pl (.s 2 .st <| .s 3 .pl <| .s 4 .pl <| .s 5 .pl <| .s 6 .pl <| .s 8 .st <| .s 9 .pl <| .s 10 .pl <| .n)) 7 .pl (.s 1 .pl <| .s 2 .st <| .s 3 .pl <| .s 4 .pl <| .s 5 .pl <| .s 6 .pl <| .s 8 .st <| .s 9 .pl <| .s 10 .pl <| .n)) (by kernel_rfl) (by kernel_rfl) ?_
      simp -implicitDefEqProofs [go_sem]
      refine ⟨⟨?_, ?_⟩, ?_⟩
      · refine call_bytes (H.length + 3) 10 ?_ ?_
        · exact (hget _ _ 3).trans rfl
        refine CC.mono (Append_cc _ _ (awJ 2) 1 (List.replicate 10 0) (by omega) (by decide)) ?_
        rintro _ _ _ ⟨rfl, rfl, rfl⟩
        rw [aw_full]
        simp -implicitDefEqProofs [go_sem, jtV]
        exact ⟨hkp _ _, hkp _ _, Sh.trim (L := [some (dkC (awD 2)), some (jrC (awJ 2)), some (jrC aw9)]) (by simp [go_sem]) (by simp [go_sem]) hokH (by simp [go_sem]) (Nat.le_refl _) (by simp) (by simp)⟩
      · refine call_bytes (H.length + 3) 10 ?_ ?_
        · exact (hget _ _ 3).trans rfl
        refine CC.mono (Append_cc _ _ (awJ 2) 1 (List.replicate 10 0) (by omega) (by decide)) ?_
        rintro _ _ _ ⟨rfl, rfl, rfl⟩
        rw [aw_full]
        simp -implicitDefEqProofs [go_sem, jtV]
        exact ⟨hkp _ _, hkp _ _, Sh.trim (L := [some (dkC (awD 2)), some (jrC (awJ 2)), some (jrC aw9)]) (by simp [go_sem]) (by simp [go_sem]) hokH (by simp [go_sem]) (Nat.le_refl _) (by simp) (by simp)⟩
      · refine call_bytes (H.length + 4) 10 ?_ ?_
        · exact (hget _ _ 4).trans rfl
        refine CC.mono (Append_cc _ _ (awJ 2) 1 (List.replicate 10 0) (by omega) (by decide)) ?_
        rintro _ _ _ ⟨rfl, rfl, rfl⟩
        rw [aw_full]
        simp -implicitDefEqProofs [go_sem, jtV]
        exact ⟨hkp _ _, hkp _ _, Sh.trim (L := [some (dkC (awD 2)), some (jrC (awJ 2)), some (jrC aw9)]) (by simp [go_sem]) (by simp [go_sem]) hokH (by simp [go_sem]) (Nat.le_refl _) (by simp) (by simp)⟩
    · refine SWp.drawnT [H.length + 1] [2, 8] (.s 0 .ld <| .f 1 .pl (.f 2 .st (.s 3 .pl <| .s 4 .pl <| .s 5 .pl <| .s 6 .pl <| .s 7 .pl <| .s 8 .st <| .s 9 .pl <| .s 10 .pl <| .n) 7 .pl (.s 2 .st <| .s 3 .pl <| .s 4 .pl <| .s 5 .pl <| .s 6 .pl <| .s 8 .st <| .s 9 .pl <| .s 10 .pl <| .n)) 7 .pl (.s 1 .pl <| .s 2 .st <| .s 3 .pl <| .s 4 .pl <| .s 5 .pl <| .s 6 .pl <| .s 8 .st <| .s 9 .pl <| .s 10 .pl <| .n)) (by kernel_rfl) (by kernel_rfl) ?_
      simp -implicitDefEqProofs [go_sem]
      refine ⟨⟨?_, ?_⟩, ?_⟩
      · refine call_bytes (H.length + 4) 10 ?_ ?_
        · exact (hget _ _ 4).trans rfl
        refine CC.mono (Append_cc _ _ (awJ 2) 1 (List.replicate 10 0) (by omega) (by decide)) ?_
        rintro _ _ _ ⟨rfl, rfl, rfl⟩
        rw [aw_full]
        simp -implicitDefEqProofs [go_sem, jtV]
        exact ⟨hkp _ _, hkp _ _, Sh.trim (L := [some (dkC (awD 2)), some (jrC (awJ 2)), none, some (jrC aw9)]) (by simp [go_sem]) (by simp [go_sem]) hokH (by simp [go_sem]) (Nat.le_refl _) (by simp) (by simp)⟩
      · refine call_bytes (H.length + 4) 10 ?_ ?_
        · exact (hget _ _ 4).trans rfl
        refine CC.mono (Append_cc _ _ (awJ 2) 1 (List.replicate 10 0) (by omega) (by decide)) ?_
        rintro _ _ _ ⟨rfl, rfl, rfl⟩
        rw [aw_full]
        simp -implicitDefEqProofs [go_sem, jtV]
        exact ⟨hkp _ _, hkp _ _, Sh.trim (L := [some (dkC (awD 2)), some (jrC (awJ 2)), none, some (jrC aw9)]) (by simp [go_sem]) (by simp [go_sem]) hokH (by simp [go_sem]) (Nat.le_refl _) (by simp) (by simp)⟩
      · refine call_bytes (H.length + 5) 10 ?_ ?_
        · exact (hget _ _ 5).trans rfl
        refine CC.mono (Append_cc _ _ (awJ 2) 1 (List.replicate 10 0) (by omega) (by decide)) ?_
        rintro _ _ _ ⟨rfl, rfl, rfl⟩
        rw [aw_full]
        simp -implicitDefEqProofs [go_sem, jtV]
        exact ⟨hkp _ _, hkp _ _, Sh.trim (L := [some (dkC (awD 2)), some (jrC (awJ 2)), none, some (jrC aw9)]) (by simp [go_sem]) (by simp [go_sem]) hokH (by simp [go_sem]) (Nat.le_refl _) (by simp) (by simp)⟩
  rintro _ -
  dsimp only
  have l9 : aw9.sizes.length ≤ 1000000000 := by
    have h9 : aw9.sizes.length ≤ 1000 := Nat.le_of_ble_eq_true aw_len9
    omega
  have eq1 : decide ((awR 1).pay = [1]) = true := by kernel_rfl
  cases x
  all_goals
    refine SWp.seq (SWp.drawnT [] [9] (.s 0 .pl <| .c 1 <| .c 2 <| .s 3 .pl <| .s 4 .pl <| .s 5 .pl <| .s 6 .pl <| .s 7 .pl <| .s 8 .pl <| .s 9 .st <| .s 10 .pl <| .s 11 .pl <| .s 12 .pl <| .n) (by kernel_rfl) (by kernel_rfl) ?_)
    simp -implicitDefEqProofs [go_sem]
    refine ⟨.agg [iv 3, iv 24], fun H V => region_cc H V 4, ?_⟩
    simp -implicitDefEqProofs [go_sem]
    refine ⟨_, fun H V => Open_cc H V 3 24 (awD 2) ⟨by omega, by omega⟩ aw_ld, ?_⟩
    rw [aw_open]
    simp -implicitDefEqProofs [go_sem, opV]
    refine SWp.seq (Wp.s ?_)
    simp -implicitDefEqProofs [go_sem]
    refine CC.mono (JFree_cc _ _ aw9 l9) ?_
    rintro _ _ _ ⟨rfl, rfl, rfl⟩
    simp -implicitDefEqProofs [go_sem, show frJ aw9 = 0 from aw_free9]
    refine CC.mono (show CC Tryd.prog 23 [.sl .sh 1 (bs (awR 1).pay), .sl .ti 1 (bs [1])] _ _ (Pu (cb (decide ((awR 1).pay = [1]))) _ _) from sEqual_cc _ _ .sh .ti (awR 1).pay [1]) ?_
    rintro _ _ _ ⟨rfl, rfl, rfl⟩
    rw [eq1]
    simp -implicitDefEqProofs [go_sem]
    refine CC.mono (Same_cc _ _ (awJ 2) (by omega)) ?_
    rintro _ _ _ ⟨rfl, rfl, rfl⟩
    simp -implicitDefEqProofs [go_sem]
    refine CC.mono (JNext_cc _ _ (awJ 2) (by omega)) ?_
    rintro _ _ _ ⟨rfl, rfl, rfl⟩
    simp -implicitDefEqProofs [go_sem, aw_nx]
    refine Wp.s ?_
    simp -implicitDefEqProofs [go_sem]
    exact Fin.bool rfl hokH (by simp) (by simp)
end Go.Proofs.YtmgoflhjblombaaDoor
namespace Go.Proofs.YtmgoflhjblombaaDoor
open Go.Proofs
theorem appJ_jl {j : Jrn} {k : Int} {p : List UInt8} (hl : j.sizes.length ≤ 1000000) : (appJ j k p).1.sizes.length ≤ 1000000000 := by
  by_cases h : chkJ j = true
  case neg => rw [appJ_bad h]; exact Nat.zero_le _
  cases he : encR ⟨k, nextJ j, p⟩ with
  | error e => rw [appJ_err h he]; exact Nat.zero_le _
  | ok l =>
    by_cases h1 : 1073741824 ≤ nextJ j
    · rw [appJ_many h he h1]; exact Nat.zero_le _
    by_cases h2 : freeJ j < l.length
    · rw [appJ_full h he h1 h2]; exact Nat.zero_le _
    rw [appJ_ok h he h1 h2]
    simp; omega
theorem wrapW_dl {s c p : Int} {l : List Sec} {n : Nat} (hl : l.length ≤ n) : ∀ o ∈ wrapW s c p l, o.data.length ≤ n := by
  by_cases h : kW c p l < l.length
  · rw [wrapW_1 h]
    intro o ho
    simp only [List.mem_cons, List.not_mem_nil, or_false] at ho
    rcases ho with rfl | rfl
    · show (l.take _).length ≤ n; rw [List.length_take]; omega
    · show (l.drop _).length ≤ n; rw [List.length_drop]; omega
  · rw [wrapW_0 h]
    intro o ho
    obtain rfl : o = _ := by simpa using ho
    show (l.take _).length ≤ n; rw [List.length_take]; omega
theorem appJ_ol (j : Jrn) (k : Int) (p : List UInt8) : (appJ j k p).2.1.length ≤ 900000000 ∧ ∀ o ∈ (appJ j k p).2.1, o.data.length ≤ 900000000 := by
  by_cases h : chkJ j = true
  case neg => rw [appJ_bad h]; exact ⟨Nat.zero_le _, by simp⟩
  cases he : encR ⟨k, nextJ j, p⟩ with
  | error e => rw [appJ_err h he]; exact ⟨Nat.zero_le _, by simp⟩
  | ok l =>
    have hle := enc_le he
    by_cases h1 : 1073741824 ≤ nextJ j
    · rw [appJ_many h he h1]; exact ⟨Nat.zero_le _, by simp⟩
    by_cases h2 : freeJ j < l.length
    · rw [appJ_full h he h1 h2]; exact ⟨Nat.zero_le _, by simp⟩
    rw [appJ_ok h he h1 h2]
    have := wrapW_len j.start j.count j.tail l
    refine ⟨by simp; omega, fun o ho => ?_⟩
    rcases List.mem_append.1 ho with ho | ho
    · exact wrapW_dl (by omega) o ho
    · obtain rfl : o = opS := by simpa using ho
      exact Nat.zero_le _
theorem formatJ_l (s c : Int) : (formatJ s c).1.sizes.length ≤ 1000000000 ∧ (formatJ s c).2.1.length ≤ 900000000 ∧ ∀ o ∈ (formatJ s c).2.1, o.data.length ≤ 900000000 := by
  by_cases h : validJ s c = true
  case neg => rw [formatJ_no h]; exact ⟨Nat.zero_le _, Nat.zero_le _, by simp⟩
  have hv := (validJ_iff s c).1 h
  rw [formatJ_ok h]
  refine ⟨Nat.zero_le _, show (6 : Nat) ≤ 900000000 by decide, fun o ho => ?_⟩
  simp only [fmtOps, List.mem_cons, List.not_mem_nil, or_false] at ho
  rcases ho with rfl | rfl | rfl | rfl | rfl | rfl
  · show (List.replicate _ _).length ≤ _; rw [List.length_replicate]; omega
  all_goals first | exact Nat.zero_le _ | (show (List.replicate _ _).length ≤ _; rw [List.length_replicate]; decide) | exact (show (copyS 1 [0, 1]).length ≤ _ from by rw [show (copyS 1 [0, 1]).length = 8 from by kernel_rfl]; decide)
set_option maxRecDepth 8000 in
theorem Formats_law (H : Hp) (V : List Nat) (s c : Int) : CC Tryd.prog 3 [.agg [iv s, iv c]] H V (Pu (cb true) H V) := by
  refine CC.of_swp Tryd.func3 rfl (by kernel_rfl) (by rw [Tryd.ntmps3]; exact len_le _ _ rfl) fun hok hokH => ?_
  clear hok
  obtain ⟨f1, f2, f3⟩ := formatJ_l s c
  refine SWp.seq (Wp.s ?_)
  simp -implicitDefEqProofs [go_sem, args0]
  have main : ∀ (Q : Prop), Q → Q := fun _ q => q
  refine SWp.join (α := Unit) (fun _ => ([(1, .ptr H.length 0)], H ++ [some [iv s, iv c]], V)) (fun _ => True) ?_ ?_
  · refine SWp.seq (Wp.s ?_)
    by_cases c1 : 300 < c
    case neg =>
      simp -implicitDefEqProofs [go_sem, c1]
      refine Wp.s ?_
      simp -implicitDefEqProofs [go_sem]
      exact Sh.forget (by simp [go_sem]) rfl rfl
    by_cases c2 : c ≤ 4096
    case neg =>
      simp -implicitDefEqProofs [go_sem, c1, c2]
      refine Wp.s ?_
      simp -implicitDefEqProofs [go_sem]
      exact Sh.forget (by simp [go_sem]) rfl rfl
    simp -implicitDefEqProofs [go_sem, c1, c2]
    refine Wp.s ?_
    simp -implicitDefEqProofs [go_sem]
    refine CC.mono (awake_cc _ _) ?_
    rintro _ _ _ ⟨rfl, rfl, rfl⟩
    simp -implicitDefEqProofs [go_sem]
    exact Fin.bool rfl hokH (by simp) (by simp)
  rintro _ -
  dsimp only
  refine SWp.seq (Wp.s ?_)
  simp -implicitDefEqProofs [go_sem]
  refine CC.mono (Format_cc _ _ s c) ?_
  rintro _ _ _ ⟨rfl, rfl, rfl⟩
  simp -implicitDefEqProofs [go_sem, jtV]
  refine SWp.seq (Wp.s ?_)
  simp -implicitDefEqProofs [go_sem]
  refine CC.mono (refFormat_cc _ _ s c) ?_
  rintro _ _ _ ⟨rfl, rfl, rfl⟩
  simp -implicitDefEqProofs [go_sem, jtV]
  refine SWp.seq (Wp.s ?_)
  simp -implicitDefEqProofs [go_sem]
  refine CC.mono (awake_cc _ _) ?_
  rintro _ _ _ ⟨rfl, rfl, rfl⟩
  simp -implicitDefEqProofs [go_sem]
  refine CC.mono (Same_cc _ _ _ f1) ?_
  rintro _ _ _ ⟨rfl, rfl, rfl⟩
  simp -implicitDefEqProofs [go_sem]
  refine CC.mono (sSameOps_cc _ _ .sh .sh _ f2 f3) ?_
  rintro _ _ _ ⟨rfl, rfl, rfl⟩
  simp -implicitDefEqProofs [go_sem]
  refine Wp.s ?_
  simp -implicitDefEqProofs [go_sem]
  exact Fin.bool rfl hokH (by simp) (by simp)
end Go.Proofs.YtmgoflhjblombaaDoor
namespace Go.Proofs.YtmgoflhjblombaaDoor
open Go.RowKit

/-- The ghost state at the beginning of a call: all blocks are fixed; no boxes, no tokens. -/
def gh0 (w : World) : Gh where
  lim k := match w.heap[k]? with
    | some (.cells c _ _) => c.size
    | _ => 0
  box := []
  tip := []

theorem gh0_inv (w : World) : Inv (gh0 w) w [] [] where
  boxlen := rfl
  tiplen := rfl
  limv k h := by
    simp only [gh0] at h ⊢
    split at h
    · rename_i c e fr hc
      exact ⟨c, e, fr, hc, by simp⟩
    · omega
  tips := by intro t k h; simp [gh0] at h
  boxes := by intro b k h; simp [gh0] at h
  uniq := by intro b b' k cs cs' h; simp at h
  live := by intro b cs h; simp at h

theorem gh0_lim {w : World} {k o : Nat} {u : Value} (h : w.cell? ⟨k, o, none⟩ = some u) : o < (gh0 w).lim k := by
  simp only [World.cell?] at h
  simp only [gh0]
  split at h
  · rename_i c e fr hc
    simp only [hc]
    simp at h
    obtain ⟨h, _⟩ := Array.getElem?_eq_some_iff.1 h
    exact h
  · cases h

/-- What a law gives: true, and below nothing is changed. -/
theorem law_calls {P : Program} {f : FuncId} {args : Array Value} {W : World} {cs : List CV} {R : CV → Hp → List Nat → Prop} (hrel : RelL (gh0 W) W [] cs args.toList) (h : CC P f cs [] [] R)
    (hR : ∀ r H V, R r H V → r = .v (.bool true)) : Calls P f args W fun e W' => e = .returned (.bool true) ∧ Below W.heap.size W W' := by
  have := h.2 (gh0 W) W args.toList (gh0_inv W) hrel
  rw [Array.toArray_toList] at this
  refine this.mono ?_
  rintro e w' ⟨u, m', r, H', V', rfl, hr, _, hu, hx⟩
  obtain rfl := hR _ _ _ hr
  rw [RelV] at hu
  subst hu
  exact ⟨rfl, hx.os, hx.tape, hx.output, hx.size, fun k hk => hx.same k hk (by simp [gh0]) (by simp [gh0])⟩

/-- The cells of a value of type t that came in: S holds of their contents. -/
def Opens (P : Program) (t : TypeId) (S : List CV → Prop) : Prop :=
  ∀ (H : Type) (enc : TypeId × Value → H) (w : World) (base : Nat) (spare : Nat → Bool) (held : Bool) (fuel : Nat) (us : List Value) (x : DataW H × List MemPlace),
    DataW.trod enc P w base spare held fuel t us = some x → ∃ cs, S cs ∧ RelL (gh0 w) w [] cs us ∧ ∀ u ∈ us, u.oneCell' = true

theorem relL_one {m : Gh} {w : World} {V : List Nat} {c : CV} {u : Value} (h : RelV m w V c u) : RelL m w V [c] [u] := by
  rw [RelL]; exact ⟨u, [], rfl, h, by rw [RelL]⟩

theorem relL_one' {m : Gh} {w : World} {V : List Nat} {c : CV} {u : Value} (h : RelL m w V [c] [u]) : RelV m w V c u := by
  rw [RelL] at h; obtain ⟨_, _, h1, h2, _⟩ := h; cases h1; exact h2

theorem relL_nil {m : Gh} {w : World} {V : List Nat} : RelL m w V [] [] := by rw [RelL]
theorem relL_mk2 {m : Gh} {w : World} {V : List Nat} {c : CV} {u : Value} {cs : List CV} {us : List Value} (h : RelV m w V c u) (h2 : RelL m w V cs us) : RelL m w V (c :: cs) (u :: us) := by
  rw [RelL]; exact ⟨u, us, rfl, h, h2⟩
variable {P : Program} {t e : TypeId}
theorem Opens.int {k : IntKind} (ht : P.underlying t = some (.int k)) : Opens P t fun cs => ∃ n, cs = [.v (.int k n)] ∧ (Lit.int k n).wf = true := by
  intro H enc w base spare held fuel us x h
  obtain ⟨n, rfl, _, hw⟩ := DataW.trod_int ht h
  exact ⟨_, ⟨n, rfl, hw⟩, relL_one (by rw [RelV]), by simp [Value.oneCell']⟩

theorem Opens.bool (ht : P.underlying t = some .bool) : Opens P t fun cs => ∃ b, cs = [.v (.bool b)] := by
  intro H enc w base spare held fuel us x h
  obtain ⟨n, rfl, _⟩ := DataW.trod_bool ht h
  exact ⟨_, ⟨n, rfl⟩, relL_one (by rw [RelV]), by simp [Value.oneCell']⟩

theorem Opens.string (ht : P.underlying t = some .string) : Opens P t fun cs => ∃ s : ByteArray, cs = [.v (.string s)] ∧ s.size ≤ maxLen := by
  intro H enc w base spare held fuel us x h
  obtain ⟨n, rfl, _, hs⟩ := DataW.trod_string ht h
  exact ⟨_, ⟨n, rfl, hs⟩, relL_one (by rw [RelV]), by simp [Value.oneCell']⟩

theorem cells_get {w : World} {base : Nat} {a : Addr} {n : Nat} {us : List Value} (h : w.cells? base a n = some us) : us.length = n ∧ ∀ j, j < n → w.cell? (a.add j) = us[j]? := by
  unfold World.cells? at h
  split at h
  · exact ⟨by simpa using mapM_some_length h, fun j hj => mapM_some_get h j j (by simp [hj])⟩
  · cases h

theorem add_none {a : Addr} (ha : a.spot = none) (i : Nat) : a.add i = ⟨a.block, a.off + i, none⟩ := by
  cases a with
  | mk b o s =>
    simp only at ha
    subst ha
    unfold Addr.add
    split <;> simp_all

theorem Opens.slice {sz : Nat} {S : List CV → Prop} (ht : P.underlying t = some (.slice e)) (hs : P.cellsOf e = sz) (h0 : 0 < sz) (he : Opens P e S) :
    Opens P t fun cs => ∃ xs, cs = [.sl .sh sz xs] ∧ xs.length ≤ maxLen ∧ ∀ x ∈ xs, S x := by
  intro H enc w base spare held fuel us x h
  rcases DataW.trod_slice ht h with ⟨rfl, _⟩ | ⟨a, len, cap, elems, rest, n, _, rfl, rfl, hb, hl, hm, hlen, hel, hsp, hns⟩
  · refine ⟨_, ⟨[], rfl, by simp, by simp⟩, relL_one ?_, by simp [Value.oneCell']⟩
    rw [RelV]
    exact ⟨none, 0, rfl, by simp, trivial, h0, .inl rfl⟩
  · have key : ∀ i, i < len → ∃ (cs : List CV) (vs : List Value), S cs ∧ RelL (gh0 w) w [] cs vs ∧ (∀ u ∈ vs, u.oneCell' = true) ∧ vs.length = sz ∧ ∀ j, j < sz → w.cell? ((a.add (i * sz)).add j) = vs[j]? := by
      intro i hi
      have h1 := hel i hi
      rw [List.getElem?_eq_getElem (by omega)] at h1
      obtain ⟨vs, h2, h3⟩ := Option.bind_eq_some_iff.1 h1
      obtain ⟨cs, h4, h5, h6⟩ := he _ enc w base spare held n vs _ h3
      rw [hs] at h2
      obtain ⟨h7, h8⟩ := cells_get h2
      exact ⟨cs, vs, h4, h5, h6, h7, h8⟩
    by_cases hz : len = 0
    · subst hz
      refine ⟨_, ⟨[], rfl, by simp, by simp⟩, relL_one ?_, by simp [Value.oneCell']⟩
      rw [RelV]
      exact ⟨some a, cap, rfl, by simp, trivial, h0, .inl rfl⟩
    · have hsp : a.spot = none := by
        obtain ⟨cs, vs, _, _, _, h7, h8⟩ := key 0 (by omega)
        have h9 := h8 0 h0
        rw [List.getElem?_eq_getElem (by omega)] at h9
        have : (a.add (0 * sz)).add 0 = a := by simp [Addr.add]
        rw [this] at h9
        simp only [World.cell?] at h9
        split at h9
        · split at h9
          · cases h9
          · rename_i h; simpa using h
        · cases h9
      let g : Nat → List CV := fun i => if h : i < len then Classical.choose (key i h) else []
      have hg : ∀ i (h : i < len), ∃ (vs : List Value), S (g i) ∧ RelL (gh0 w) w [] (g i) vs ∧ (∀ u ∈ vs, u.oneCell' = true) ∧ vs.length = sz ∧ ∀ j, j < sz → w.cell? ((a.add (i * sz)).add j) = vs[j]? := by
        intro i h
        have := Classical.choose_spec (key i h)
        simp only [g, h, dif_pos]
        exact this
      have cell : ∀ i j, i < len → j < sz → ∃ u, w.cell? ⟨a.block, a.off + i * sz + j, none⟩ = some u := by
        intro i j hi hj
        obtain ⟨vs, _, _, _, h7, h8⟩ := hg i hi
        have h9 := h8 j hj
        rw [List.getElem?_eq_getElem (by omega), add_none hsp, add_none rfl] at h9
        exact ⟨_, h9⟩
      refine ⟨_, ⟨(List.range len).map g, rfl, by simp; omega, ?_⟩, relL_one ?_, by simp [Value.oneCell']⟩
      · intro x hx
        obtain ⟨i, hi, rfl⟩ := List.mem_map.1 hx
        obtain ⟨_, h4, _⟩ := hg i (by simpa using hi)
        exact h4
      · rw [RelV]
        refine ⟨some a, cap, by simp, by simp; omega, trivial, h0, .inr ⟨a.block, a.off, by cases a; simp_all, ?_, relE_mk fun j c hc => ?_⟩⟩
        · obtain ⟨u, hu⟩ := cell (len - 1) (sz - 1) (by omega) (by omega)
          have := gh0_lim hu
          simp only [List.length_map, List.length_range]
          have h1 : len * sz = (len - 1) * sz + sz := by
            rw [← Nat.succ_mul]; congr 1; omega
          omega
        · simp only [List.getElem?_map, Option.map_eq_some_iff] at hc
          obtain ⟨i, hi, rfl⟩ := hc
          obtain ⟨hi', hi⟩ := List.getElem?_eq_some_iff.1 hi
          simp at hi hi'
          subst hi
          obtain ⟨vs, h4, h5, h6, h7, h8⟩ := hg j hi'
          have hl := relL_length h5
          refine ⟨by omega, relC_mk fun q c hc => ?_⟩
          obtain ⟨u, hu, hv⟩ := relL_get h5 q c hc
          have hq : q < sz := by
            have := (List.getElem?_eq_some_iff.1 hc).1
            omega
          have h9 := h8 q hq
          rw [hu, add_none hsp, add_none rfl] at h9
          exact ⟨u, h9, hv, h6 u (List.mem_of_getElem? hu)⟩

/-- Fields, from cell o on, of a struct of N cells. -/
def OpensF (P : Program) (N : Nat) (fs : List Field) (o : Nat) (S : List CV → Prop) : Prop :=
  ∀ (H : Type) (enc : TypeId × Value → H) (w : World) (base : Nat) (spare : Nat → Bool) (held : Bool) (fuel : Nat) (us : List Value), us.length = N →
    (∀ f ∈ fs, ∃ x, DataW.trod enc P w base spare held fuel f.type ((us.drop f.offset).take (P.cellsOf f.type)) = some x) →
    ∃ cs, S cs ∧ RelL (gh0 w) w [] cs (us.drop o) ∧ ∀ u ∈ us.drop o, u.oneCell' = true

theorem OpensF.nil {N : Nat} : OpensF P N [] N fun cs => cs = [] := by
  intro H enc w base spare held fuel us hl h
  subst hl
  exact ⟨_, rfl, by rw [List.drop_length, RelL], by simp⟩

theorem OpensF.cons {N : Nat} {f : Field} {fs : List Field} {o n : Nat} {S S' : List CV → Prop} (ho : f.offset = o) (hn : P.cellsOf f.type = n) (h1 : Opens P f.type S) (h2 : OpensF P N fs (o + n) S') :
    OpensF P N (f :: fs) o fun cs => ∃ a b, cs = a ++ b ∧ S a ∧ S' b := by
  intro H enc w base spare held fuel us hl h
  obtain ⟨x, hx⟩ := h f (by simp)
  rw [ho, hn] at hx
  obtain ⟨a, ha, ra, oa⟩ := h1 _ enc w base spare held fuel _ _ hx
  obtain ⟨b, hb, rb, ob⟩ := h2 _ enc w base spare held fuel us hl fun g hg => h g (List.mem_cons_of_mem _ hg)
  have hd : us.drop o = (us.drop o).take n ++ us.drop (o + n) := by
    rw [← List.drop_drop, List.take_append_drop]
  refine ⟨_, ⟨a, b, rfl, ha, hb⟩, ?_, ?_⟩
  · rw [hd]; exact relL_append ra rb
  · rw [hd]
    intro u hu
    rcases List.mem_append.1 hu with h | h
    · exact oa u h
    · exact ob u h

theorem Opens.struct {fs : Array Field} {S : List CV → Prop} (ht : P.underlying t = some (.struct fs)) {N : Nat} (hN : P.cellsOf t = N) (h : OpensF P N fs.toList 0 S) : Opens P t S := by
  intro H enc w base spare held fuel us x hx
  obtain ⟨xs, n, _, _, hl, hl2, hf⟩ := DataW.trod_struct ht hx
  obtain ⟨cs, h1, h2, h3⟩ := h _ enc w base spare held n us (by omega) (by
    intro f hf'
    obtain ⟨i, hi⟩ := List.getElem?_of_mem hf'
    have := hf i f (by simpa using hi)
    have hi' : i < fs.size := by
      have := (List.getElem?_eq_some_iff.1 hi).1
      simpa using this
    rw [this, List.getElem?_eq_getElem (by omega)]
    exact ⟨_, rfl⟩)
  exact ⟨cs, h1, by simpa using h2, by simpa using h3⟩

theorem Opens.array {n sz : Nat} {S : List CV → Prop} (ht : P.underlying t = some (.array n e)) (hs : P.cellsOf e = sz) (hN : P.cellsOf t = n * sz) (he : Opens P e S) :
    Opens P t fun cs => ∃ xs : List (List CV), cs = xs.flatten ∧ xs.length = n ∧ ∀ x ∈ xs, S x := by
  intro H enc w base spare held fuel us x hx
  obtain ⟨xs, m, _, _, hl, hl2, hf⟩ := DataW.trod_array ht hx
  rw [hN] at hl
  rw [hs] at hf
  have key : ∀ q, q ≤ n → ∃ ys : List (List CV), ys.length = q ∧ (∀ x ∈ ys, S x) ∧ RelL (gh0 w) w [] ys.flatten (us.drop ((n - q) * sz)) ∧ ∀ u ∈ us.drop ((n - q) * sz), u.oneCell' = true := by
    intro q
    induction q with
    | zero =>
      intro _
      refine ⟨[], rfl, by simp, ?_, ?_⟩
      · rw [Nat.sub_zero, List.drop_of_length_le (by omega), List.flatten_nil, RelL]
      · rw [Nat.sub_zero, List.drop_of_length_le (by omega)]; simp
    | succ q ih =>
      intro hq
      obtain ⟨ys, h1, h2, h3, h4⟩ := ih (by omega)
      have hx := hf (n - (q + 1)) (by omega)
      rw [List.getElem?_eq_getElem (by omega)] at hx
      obtain ⟨a, ha, ra, oa⟩ := he _ enc w base spare held m _ _ hx
      have hd : us.drop ((n - (q + 1)) * sz) = (us.drop ((n - (q + 1)) * sz)).take sz ++ us.drop ((n - q) * sz) := by
        have : (n - q) * sz = (n - (q + 1)) * sz + sz := by
          rw [← Nat.succ_mul]; congr 1; omega
        rw [this, ← List.drop_drop, List.take_append_drop]
      refine ⟨a :: ys, by simp [h1], by simpa using ⟨ha, h2⟩, ?_, ?_⟩
      · rw [hd, List.flatten_cons]; exact relL_append ra h3
      · rw [hd]
        intro u hu
        rcases List.mem_append.1 hu with h | h
        · exact oa u h
        · exact h4 u h
  obtain ⟨ys, h1, h2, h3, h4⟩ := key n (Nat.le_refl _)
  rw [Nat.sub_self, Nat.zero_mul, List.drop_zero] at h3 h4
  exact ⟨_, ⟨ys, rfl, h1, h2⟩, h3, h4⟩

theorem Opens.mono {S S' : List CV → Prop} (h : Opens P t S) (hs : ∀ cs, S cs → S' cs) : Opens P t S' := by
  intro H enc w base spare held fuel us x hx
  obtain ⟨cs, h1, h2, h3⟩ := h _ enc w base spare held fuel us x hx
  exact ⟨cs, hs cs h1, h2, h3⟩

variable {H : Type} {enc : TypeId × Value → H} {w : World} {base : Nat} {spare : Nat → Bool} {held : Bool}
/-- An argument of one cell. -/
theorem Opens.arg {S : List CV → Prop} (h : Opens P t S) {v : Value} {d : DataW H} {p : List MemPlace} (hv : v.cells.toList = [v]) (hd : DataW.Trod enc P w base spare held t v d p) :
    ∃ c, S [c] ∧ RelV (gh0 w) w [] c v := by
  obtain ⟨fuel, hf⟩ := hd
  rw [hv] at hf
  obtain ⟨cs, h1, h2, _⟩ := h _ enc w base spare held fuel _ _ hf
  have := relL_length h2
  match cs, this with
  | [c], _ => exact ⟨c, h1, relL_one' h2⟩
/-- A struct or an array. -/
theorem Opens.args {S : List CV → Prop} (h : Opens P t S) {us : Array Value} {d : DataW H} {p : List MemPlace} (hd : DataW.Trod enc P w base spare held t (.agg us) d p) :
    ∃ cs, S cs ∧ RelV (gh0 w) w [] (.agg cs) (.agg us) := by
  obtain ⟨fuel, hf⟩ := hd
  obtain ⟨cs, h1, h2, _⟩ := h _ enc w base spare held fuel _ _ hf
  refine ⟨cs, h1, ?_⟩
  rw [RelV]
  refine ⟨us.toList, by simp, ?_⟩
  simpa [Value.cells] using h2

/-- All arguments read as they did. -/
theorem trodAll_below (hl : laidOutB P = true) {W W' : World} (hb : Below W.heap.size W W') : ∀ {ts : List TypeId} {vs : List Value} {ds : List (DataW H)} {p : List MemPlace},
    (ts.all fun t => P.readableRec t && decide (t < P.types.size)) = true → DataW.TrodAll enc P W 0 (fun _ => true) true ts vs ds p → DataW.TrodAll enc P W' 0 (fun b => decide (b < W.heap.size)) true ts vs ds p
  | [], [], [], p, _, h => h
  | t :: ts, v :: vs, d :: ds, p, ht, h => by
    obtain ⟨p, q, h1, h2, rfl⟩ := h
    simp only [List.all_cons, Bool.and_eq_true, decide_eq_true_eq] at ht
    refine ⟨p, q, Below.trod hl ht.1.1 ht.1.2 h1 hb ?_, trodAll_below hl hb ht.2 h2, rfl⟩
    obtain ⟨m, hm⟩ := h1
    exact DataW.trod_lt m _ _ _ hm
  | [], [], _ :: _, _, _, h => h.elim
  | [], _ :: _, _, _, _, h => h.elim
  | _ :: _, [], _, _, _, h => h.elim
  | _ :: _, _ :: _, [], _, _, h => h.elim
end Go.Proofs.YtmgoflhjblombaaDoor
namespace Go.Proofs.YtmgoflhjblombaaDoor
open Go.Proofs
theorem opens_int : Opens Tryd.prog 3 fun cs => ∃ n, cs = ic n :=
  (Opens.int Tryd.underlying3).mono fun _ ⟨n, h, _⟩ => ⟨n, h⟩
/-- Two numbers. -/
structure Rgn where
  s : Int
  c : Int
def rgnC (x : Rgn) : List CV := [iv x.s, iv x.c]
theorem opens_rgn : Opens Tryd.prog 23 fun cs => ∃ x, cs = rgnC x :=
  (Opens.struct Tryd.underlying23 (N := 2) (by kernel_rfl) (.cons rfl (n := 1) (by kernel_rfl) opens_int (.cons rfl (n := 1) (by kernel_rfl) opens_int .nil))).mono fun cs h => by
    obtain ⟨_, _, rfl, ⟨a, rfl⟩, _, _, rfl, ⟨b, rfl⟩, rfl⟩ := h
    exact ⟨⟨a, b⟩, rfl⟩
theorem Formats_lawR (x : Rgn) : CC Tryd.prog 3 [.agg (rgnC x)] [] [] (Pu (cb true) [] []) := Formats_law [] [] x.s x.c
end Go.Proofs.YtmgoflhjblombaaDoor
