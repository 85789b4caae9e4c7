import Derived.Test.YtbnkggbpocaaiaaGreatDoorF5
import Derived.Test.YtbnkggbpocaaiaaGreatDoorF4
import Derived.ChangeKeysEq
set_option linter.unusedSimpArgs false
set_option linter.unusedVariables false
set_option linter.unusedSectionVars false
namespace Go.Proofs.YtbnkggbpocaaiaaGreatDoor
open Go.Proofs
theorem checkD_iff {d : Dk} : checkD d = 0 ↔ d.stable.length ≤ 4096 ∧ ∀ c ∈ d.cache, 0 ≤ c.pos ∧ c.pos.toNat < d.stable.length := by
  refine ⟨checkD_0, fun ⟨h1, h2⟩ => ?_⟩
  rw [checkD, if_neg]
  rintro (h | h)
  · omega
  · obtain ⟨c, hc, hb⟩ := List.any_eq_true.1 h
    have := h2 c hc
    simp only [badAt, Bool.or_eq_true, decide_eq_true_eq] at hb
    omega
theorem check_wr {d : Dk} {a : Int} {l : List Sec} (h : checkD d = 0) (hi : insideB d a l.length = true) : checkD (wrD d a l) = 0 := by
  simp only [insideB, Bool.and_eq_true, decide_eq_true_eq] at hi
  rw [checkD_iff] at h ⊢
  refine ⟨h.1, fun c hc => ?_⟩
  rcases List.mem_append.1 hc with hc | hc
  · exact h.2 c hc
  · simp only [puts, List.mem_map] at hc
    obtain ⟨⟨s, k⟩, hk, rfl⟩ := hc
    have := (List.mem_zipIdx hk).2.1
    simp only [wrD]
    omega
theorem check_sy {d : Dk} (h : checkD d = 0) : checkD ⟨newestD d, []⟩ = 0 := by
  rw [checkD_iff] at h ⊢
  exact ⟨by simp only [newestD_len]; exact h.1, by simp⟩
theorem scopied_cc (H : Hp) (V : List Nat) (d : Dk) (hl : DkS d) : CC Tryz.prog 81 [.agg (dkC d)] H V (fun r H' V' => ∃ cv, r = .agg [secsV d.stable, cv] ∧ Ap V.length d.cache cv V' ∧ H = H' ∧ V'.take V.length = V ∧ V.length ≤ V'.length) := by
  refine CC.of_swp Tryz.func81 rfl (by kernel_rfl) (by rw [Tryz.ntmps81]; exact len_le _ _ rfl) fun hok hokH => ?_
  clear hok
  have h1 := hl.1
  have h2 := hl.2
  refine SWp.seq (Wp.s ?_)
  simp -implicitDefEqProofs [go_sem, args0]
  refine SWp.seq (SWp.drawnT [] [7] (.s 0 .pl <| .s 1 .pl <| .s 3 .pl <| .s 4 .pl <| .s 2 .pl <| .s 5 .pl <| .s 6 .pl <| .s 7 .st <| .n) (by kernel_rfl) (by kernel_rfl) ?_)
  simp -implicitDefEqProofs [go_sem]
  refine CC.mono (scloneS_cc _ _ .sh _ (by omega)) ?_
  rintro _ _ _ ⟨v, rfl, rfl, rfl⟩
  simp -implicitDefEqProofs [go_sem]
  refine CC.mono (scloneC_cc _ _ .sh _ (by omega)) ?_
  rintro _ _ _ ⟨v2, rfl, rfl, rfl⟩
  simp -implicitDefEqProofs [go_sem]
  refine Wp.s ?_
  simp -implicitDefEqProofs [go_sem]
  refine Fin.cut H.length (V.length + 2) (H'' := H) (r' := .agg [secsV d.stable, .sl (.own (V.length + 1) v2) 9 (d.cache.map cachC)]) (V'' := V ++ [v, v2]) ⟨_, rfl, .inr ⟨V.length + 1, v2, rfl, by simp, by omega⟩, rfl, by simp, by simp⟩ (Nat.le_refl _) (by omega) (by simp) (by simp) (.agg (.cons (.sh _ _ _) (.cons (.refl _) .nil))) ?_ fun b cs hb => okL_mono (Nat.le_refl _) (by omega) (hokH b cs hb)
  rw [okV_agg, okL, okL, okL, okV_own, okE_cach]
  exact ⟨okV_secsV _ _ _, ⟨by omega, trivial⟩, trivial⟩
def tot (ops : List Opn) : Nat := (ops.map fun o => o.data.length).sum
theorem tot_drop {ops : List Opn} {i : Nat} (h : i < ops.length) : tot (ops.drop i) = ops[i].data.length + tot (ops.drop (i + 1)) := by
  rw [List.drop_eq_getElem_cons h, tot, List.map_cons, List.sum_cons]; rfl
theorem srun_cc (H : Hp) (V : List Nat) (X j : Nat) (hX : X < H.length) (d : Dk) (ops : List Opn) (cv : CV) (ha : Ap j d.cache cv V) (hj : j ≤ V.length) (hl : d.stable.length ≤ 1000000) (hl2 : d.cache.length + tot ops ≤ 1000000) (hl3 : ops.length ≤ 1000000) (hc : checkD d = 0)
    (hok0 : ∀ (b : Nat) cs, (H.set X (some [secsV d.stable, cv]))[b]? = some (some cs) → okL H.length V.length cs) :
    CC Tryz.prog 82 [.ptr X 0, opsV ops] (H.set X (some [secsV d.stable, cv])) V (fun r H' V' => match runD d ops 0 with | .ok (d', n) => XR X j (.tup [ci n, er 0]) d' H V r H' V' | .error (i, e) => ∃ d', XR X j (.tup [ci i, er e]) d' H V r H' V') := by
  refine CC.of_swp Tryz.func82 rfl (by kernel_rfl) (by rw [Tryz.ntmps82]; exact len_le _ _ rfl) fun hok hokH => ?_
  clear hok hokH
  refine SWp.seq (Wp.s ?_)
  simp -implicitDefEqProofs [go_sem, args0]
  refine SWp.seq (Wp.s ?_)
  simp -implicitDefEqProofs [go_sem, hX]
  have fin : ∀ (r : CV) (d' : Dk) (cv' : CV) (L : Hp) (V' : List Nat), okV H.length V'.length r → Ap j d'.cache cv' V' → V'.take j = V.take j → j ≤ V'.length → V.length ≤ V'.length →
      ∀ R : CV → Hp → List Nat → Prop, (∀ H' V', XR X j r d' H V r H' V' → R r H' V') → Fin H.length V.length R r (H.set X (some [secsV d'.stable, cv']) ++ L) V' := fun r d' cv' L V' hr h1 h2 h3 h4 R hR => by
    refine Fin.cut (H.length) V'.length (hR _ _ ⟨rfl, cv', rfl, h1, h2, h4⟩) (Nat.le_refl _) h4 (by rw [List.take_append_of_le_length (by simp), List.take_of_length_le (by simp)]) (List.take_of_length_le (Nat.le_refl _)) (.refl _) hr ?_
    have := okX_gen (L := []) (c := [secsV d'.stable, cv']) hX hok0 h4 (by rw [okL, okL, okL]; exact ⟨okV_secsV _ _ _, h1.ok, trivial⟩) (by trivial)
    simpa using this
  refine SWp.join (α := Dk × CV × List Nat) (fun x => ([(1, opsV ops)], H.set X (some [secsV x.1.stable, x.2.1]) ++ [some [.bm 140 [.ptr X 0], .bm 141 [.ptr X 0]]], x.2.2))
    (fun x => Ap j x.1.cache x.2.1 x.2.2 ∧ x.2.2.take j = V.take j ∧ j ≤ x.2.2.length ∧ V.length ≤ x.2.2.length ∧ runD d ops 0 = .ok (x.1, ops.length)) ?_ ?_
  · refine SWp.seq (Wp.s ?_)
    simp -implicitDefEqProofs [go_sem]
    refine SWp.block ?_
    refine SWp.loop (α := Nat × Dk × CV × List Nat) (fun x => ([(1, opsV ops), (6, .ptr H.length 0), (15, opsV ops), (16, ci ops.length), (17, ci x.1)], H.set X (some [secsV x.2.1.stable, x.2.2.1]) ++ [some [.bm 140 [.ptr X 0], .bm 141 [.ptr X 0]]], x.2.2.2))
      (fun x => x.1 ≤ ops.length ∧ Ap j x.2.1.cache x.2.2.1 x.2.2.2 ∧ x.2.2.2.take j = V.take j ∧ j ≤ x.2.2.2.length ∧ V.length ≤ x.2.2.2.length ∧ runD d ops 0 = runD x.2.1 (ops.drop x.1) x.1 ∧ x.2.1.stable.length = d.stable.length ∧ x.2.1.cache.length + tot (ops.drop x.1) ≤ 1000000 ∧ checkD x.2.1 = 0)
      (fun x => ops.length - x.1) (0, d, cv, V) ⟨Nat.zero_le _, ha, rfl, hj, Nat.le_refl _, rfl, rfl, hl2, hc⟩ (Sh.forget (by simp -implicitDefEqProofs [go_sem]) rfl rfl) ?_
    rintro ⟨i, d1, cv1, V1⟩ ⟨hi, hap, hv1, hv2, hv3, hr, hs, ht, hc1⟩
    dsimp only at hi hap hv1 hv2 hv3 hr hs ht hc1 ⊢
    refine SWp.seq (Wp.s ?_)
    simp -implicitDefEqProofs [go_sem]
    refine SWp.seq (Wp.s ?_)
    simp -implicitDefEqProofs [go_sem]
    refine ⟨fun h => ?_, fun h => ⟨d1, cv1, V1, ⟨hap, hv1, hv2, hv3, by rw [hr, List.drop_of_length_le h, runD, show i = ops.length by omega]⟩, Sh.forget (by simp -implicitDefEqProofs [go_sem]) rfl rfl⟩⟩
    rw [tot_drop h] at ht
    rw [List.drop_eq_getElem_cons h] at hr
    refine SWp.seq (SWp.block (SWp.seq (Wp.s ?_)))
    simp -implicitDefEqProofs [go_sem, h]
    generalize ho : ops[i] = o at ht hr ⊢
    have fine : ∀ (e : Nat) (d2 : Dk) (cv2 : CV) (L : Hp) (V2 : List Nat), Ap j d2.cache cv2 V2 → V2.take j = V.take j → j ≤ V2.length → V.length ≤ V2.length → runD d ops 0 = .error (i, e) →
        Fin H.length V.length (fun r H' V' => match runD d ops 0 with | .ok (d', n) => XR X j (.tup [ci n, er 0]) d' H V r H' V' | .error (i, e) => ∃ d', XR X j (.tup [ci i, er e]) d' H V r H' V') (.tup [ci i, er e]) (H.set X (some [secsV d2.stable, cv2]) ++ L) V2 := fun e d2 cv2 L V2 q1 q2 q3 q4 q5 =>
      fin _ d2 cv2 L V2 (by rw [okV]; simp -implicitDefEqProofs [go_sem]) q1 q2 q3 q4 _ fun H' V' hx => by rw [q5]; exact ⟨d2, hx⟩
    refine SWp.seq (Wp.s ?_)
    by_cases k1 : o.kind < 0
    · simp -implicitDefEqProofs [go_sem, k1]
      exact fine 1 d1 cv1 _ V1 hap hv1 hv2 hv3 (by rw [hr, runD, stepD, if_pos (.inl k1)])
    by_cases k2 : 2 ≤ o.kind
    · simp -implicitDefEqProofs [go_sem, k1, k2]
      exact fine 1 d1 cv1 _ V1 hap hv1 hv2 hv3 (by rw [hr, runD, stepD, if_pos (.inr k2)])
    have hok1 := okX_gen (L := [some [.bm 140 [.ptr X 0], .bm 141 [.ptr X 0]], some (opC o)]) (c := [secsV d1.stable, cv1]) hX hok0 hv3 (by rw [okL, okL, okL]; exact ⟨okV_secsV _ _ _, hap.ok, trivial⟩) (by simp -implicitDefEqProofs [go_sem]; omega)
    rw [← List.set_append_left _ _ hX, ← List.length_append] at hok1
    have next : ∀ (d2 : Dk) (cv2 : CV) (V2 : List Nat) (T : Tm), Ap j d2.cache cv2 V2 → V2.take j = V1.take j → j ≤ V2.length → V1.length ≤ V2.length → stepD d1 o = .ok d2 → d2.stable.length = d1.stable.length → d2.cache.length + tot (ops.drop (i + 1)) ≤ 1000000 → checkD d2 = 0 →
        TLe T [(1, opsV ops), (6, .ptr H.length 0), (15, opsV ops), (16, ci ops.length), (17, ci (i + 1 : Nat))] →
        ∃ a b c e, (a ≤ ops.length ∧ Ap j (Dk.cache b) c e ∧ e.take j = V.take j ∧ j ≤ e.length ∧ V.length ≤ e.length ∧ runD d ops 0 = runD b (ops.drop a) a ∧ b.stable.length = d.stable.length ∧ b.cache.length + tot (ops.drop a) ≤ 1000000 ∧ checkD b = 0) ∧ ops.length - a < ops.length - i ∧
          Sh 44 H.length V.length T ((H ++ [some [.bm 140 [.ptr X 0], .bm 141 [.ptr X 0]], some (opC o)]).set X (some [secsV d2.stable, cv2])) V2 ([(1, opsV ops), (6, .ptr H.length 0), (15, opsV ops), (16, ci ops.length), (17, ci a)], H.set X (some [secsV b.stable, c]) ++ [some [.bm 140 [.ptr X 0], .bm 141 [.ptr X 0]]], e) :=
      fun d2 cv2 V2 T q1 q2 q3 q4 q5 q6 q7 q8 q9 => by
        refine ⟨i + 1, d2, cv2, V2, ⟨by omega, q1, by rw [q2, hv1], q3, by omega, by rw [hr, runD, q5], by omega, q7, q8⟩, by omega, ?_⟩
        rw [List.set_append_left _ _ hX]
        refine Sh.cut (H.length + 1) V2.length q9 (by omega) (by omega) (TOk.all (by simp -implicitDefEqProofs [go_sem])) (okX_gen (L := [some [.bm 140 [.ptr X 0], .bm 141 [.ptr X 0]]]) (c := [secsV d2.stable, cv2]) hX hok0 (by omega) (by rw [okL, okL, okL]; exact ⟨okV_secsV _ _ _, q1.ok, trivial⟩) (by simp -implicitDefEqProofs [go_sem]; omega)) ?_ (List.take_of_length_le (Nat.le_refl _))
        rw [List.take_append, List.take_of_length_le (by simp)]
        simp
    simp -implicitDefEqProofs [go_sem, k1, k2]
    refine SWp.seq (SWp.drawnT [H.length, H.length + 1] [5] (.s 0 .pl <| .s 1 .ld <| .s 2 .pl <| .s 3 .ld <| .s 4 .ld <| .s 5 .st <| .s 6 .pl <| .n) (by kernel_rfl) (by kernel_rfl) ?_)
    have hk : o.kind = 0 ∨ o.kind = 1 := by omega
    rcases hk with hk | hk
    · simp -implicitDefEqProofs [go_sem, hk]
      rw [← List.set_append_left _ _ hX]
      refine CC.mono (swrite_cc _ _ X j (by rw [List.length_append]; omega) d1 o cv1 hap hv2 ⟨by omega, by omega⟩ (by omega) hok1) ?_
      rintro r2 H2 V2 ⟨rfl, cv2, rfl, x1, x2, x3⟩
      rcases hq : insideB d1 o.pos o.data.length with - | -
      · rw [hq] at x1
        simp -implicitDefEqProofs [go_sem, hq]
        refine ⟨Kp_ss (by simp; omega), ?_⟩
        rw [List.set_append_left _ _ hX]
        refine Wp.s ?_
        simp -implicitDefEqProofs [go_sem]
        exact fine 2 d1 cv2 _ V2 x1 (by rw [x2, hv1]) (by omega) (by omega) (by rw [hr, runD, stepD, if_neg (by omega), if_pos hk, writeD, if_neg (by simp [hq])])
      · rw [hq] at x1
        simp -implicitDefEqProofs [go_sem, hq]
        refine ⟨Kp_ss (by simp; omega), ?_⟩
        refine Wp.s ?_
        simp -implicitDefEqProofs [go_sem]
        refine Wp.s ?_
        simp -implicitDefEqProofs [go_sem, wrap_succ (show i ≤ 1000000000 by omega)]
        refine next (wrD d1 o.pos o.data) cv2 V2 _ x1 x2 (by omega) x3 (by rw [stepD, if_neg (by omega), if_pos hk, writeD, if_pos hq]; rfl) rfl (by simp only [wrD, List.length_append, puts_len]; omega) (check_wr hc1 hq) (by simp -implicitDefEqProofs [go_sem])
    · simp -implicitDefEqProofs [go_sem, hk]
      rw [← List.set_append_left _ _ hX]
      refine CC.mono (ssync_cc _ _ X j (by rw [List.length_append]; omega) d1 o cv1 hap hv2 ⟨by omega, by omega⟩ hc1 hok1) ?_
      rintro r2 H2 V2 ⟨rfl, cv2, rfl, x1, x2, x3⟩
      simp -implicitDefEqProofs [go_sem]
      refine ⟨Kp_ss (by simp; omega), ?_⟩
      refine Wp.s ?_
      simp -implicitDefEqProofs [go_sem]
      refine Wp.s ?_
      simp -implicitDefEqProofs [go_sem, wrap_succ (show i ≤ 1000000000 by omega)]
      refine next ⟨newestD d1, []⟩ cv2 V2 _ x1 x2 (by omega) x3 (by rw [stepD, if_neg (by omega), if_neg (by omega)]) (newestD_len _) (by simp only [List.length_nil]; omega) (check_sy hc1) (by simp -implicitDefEqProofs [go_sem])
  · rintro ⟨d1, cv1, V1⟩ ⟨h1, h2, h3, h4, h5⟩
    dsimp only
    refine Wp.s ?_
    simp -implicitDefEqProofs [go_sem]
    refine fin (.tup [ci ops.length, er 0]) d1 cv1 _ V1 (by rw [okV]; simp -implicitDefEqProofs [go_sem]) h1 h2 h3 h4 _ fun H' V' hx => ?_
    rw [h5]; exact hx
end Go.Proofs.YtbnkggbpocaaiaaGreatDoor
namespace Go.Proofs.YtbnkggbpocaaiaaGreatDoor
open Go.Proofs
abbrev dk0 : Dk := ⟨[], []⟩
def runR (d : Dk) (ops : List Opn) : Dk × Nat × Nat :=
  if checkD d ≠ 0 then (dk0, 0, checkD d) else match runD d ops 0 with | .ok (d', n) => (d', n, 0) | .error (i, e) => (dk0, i, e)
def runV (x : Dk × Nat × Nat) : CV := .tup [.agg (dkC x.1), ci x.2.1, er x.2.2]
theorem okV_runV (i j : Nat) (x : Dk × Nat × Nat) : okV i j (runV x) := by rw [runV, okV]; simp -implicitDefEqProofs [go_sem]
theorem runD_err : ∀ (ops : List Opn) (d : Dk) (i : Nat) (k e : Nat), runD d ops i = .error (k, e) → e ≠ 0
  | [], d, i, k, e, h => by cases h
  | o :: ops, d, i, k, e, h => by
    rw [runD] at h
    split at h
    · exact runD_err ops _ _ _ _ h
    · rename_i e' he
      injection h with h; injection h with h1 h2; subst h2
      unfold stepD writeD at he
      split at he
      · injection he with he; omega
      · split at he
        · split at he
          · cases he
          · injection he with he; omega
        · cases he
theorem sRun_cc (H : Hp) (V : List Nat) (d : Dk) (ops : List Opn) (hl : d.stable.length ≤ 1000000) (hl2 : d.cache.length + tot ops ≤ 1000000) (hl3 : ops.length ≤ 1000000) : CC Tryz.prog 25 [.agg (dkC d), opsV ops] H V (Pu (runV (runR d ops)) H V) := by
  refine CC.of_swp Tryz.func25 rfl (by kernel_rfl) (by rw [Tryz.ntmps25]; exact len_le _ _ rfl) fun hok hokH => ?_
  clear hok
  have hd : DkS d := ⟨hl, by omega⟩
  refine SWp.seq (Wp.s ?_)
  simp -implicitDefEqProofs [go_sem, args0]
  refine SWp.seq (Wp.s ?_)
  simp -implicitDefEqProofs [go_sem]
  refine CC.mono (sCheck_cc _ _ d hd) ?_
  rintro _ _ _ ⟨rfl, rfl, rfl⟩
  simp -implicitDefEqProofs [go_sem]
  have bad : ∀ (i e : Nat) {H' : Hp} {V' : List Nat}, runR d ops = (dk0, i, e) → H'.take H.length = H → V'.take V.length = V → Fin H.length V.length (Pu (runV (runR d ops)) H V) (.tup [.agg [.v (.slice none 0 0), .v (.slice none 0 0)], ci i, er e]) H' V' := fun i e H' V' h1 h2 h3 => by
    rw [h1]
    exact Fin.pu (.tup (.cons (.agg (.cons (.nil 8 (by decide)) (.cons (.nil 9 (by decide)) .nil))) (.cons (.refl _) (.cons (.refl _) .nil)))) (okV_runV _ _ _) hokH h2 h3
  refine ⟨fun hc => ?_, fun hc => ?_⟩
  case refine_1 => exact bad 0 (checkD d) (by rw [runR, if_pos hc]) (by simp) (by simp)
  refine SWp.seq (Wp.s ?_)
  simp -implicitDefEqProofs [go_sem]
  refine CC.mono (scopied_cc _ _ d hd) ?_
  rintro _ _ V1 ⟨cv, rfl, ha, rfl, hv1, hv2⟩
  simp -implicitDefEqProofs [go_sem, ha.one]
  refine SWp.seq (Wp.s ?_)
  simp -implicitDefEqProofs [go_sem, ha.one]
  have hset : ∀ c c' : List CV, (H ++ [some (dkC d), some [.v (.slice none 0 0), .v (.slice none 0 0)], some c]).set (H.length + 2) (some c') = H ++ [some (dkC d), some [.v (.slice none 0 0), .v (.slice none 0 0)], some c'] := fun c c' => by
    rw [List.set_append_right _ _ (by omega)]; simp
  rw [← hset [secsV d.stable, cv] [secsV d.stable, cv]]
  have hok0 : ∀ (b : Nat) cs, ((H ++ [some (dkC d), some [.v (.slice none 0 0), .v (.slice none 0 0)], some [secsV d.stable, cv]]).set (H.length + 2) (some [secsV d.stable, cv]))[b]? = some (some cs) → okL (H ++ [some (dkC d), some [.v (.slice none 0 0), .v (.slice none 0 0)], some [secsV d.stable, cv]]).length V1.length cs := by
    intro b cs hb
    rw [hset, List.getElem?_append] at hb
    rw [List.length_append]
    split at hb
    · exact okL_mono (Nat.le_add_right _ _) hv2 (hokH b cs hb)
    · refine okH_get (i := H.length + 3) (j := V1.length) (L := [some (dkC d), some [.v (.slice none 0 0), .v (.slice none 0 0)], some [secsV d.stable, cv]]) ?_ _ _ hb
      rw [okH_some, okH_some, okH_some, okL_dkC]
      refine ⟨trivial, by simp -implicitDefEqProofs [go_sem], ?_, trivial⟩
      rw [okL, okL, okL]
      exact ⟨okV_secsV _ _ _, ha.ok, trivial⟩
  refine CC.mono (srun_cc _ V1 (H.length + 2) V.length (by simp) d ops cv ha hv2 hl hl2 hl3 hc hok0) ?_
  intro r H' V' hx
  rcases hr : runD d ops 0 with ⟨i, e⟩ | ⟨d', n⟩
  · rw [hr] at hx
    obtain ⟨d', rfl, cv', rfl, x1, x2, x3⟩ := hx
    rw [hset]
    have he := runD_err _ _ _ _ _ hr
    simp -implicitDefEqProofs [go_sem]
    refine Wp.s ?_
    simp -implicitDefEqProofs [go_sem, he]
    exact bad i e (by rw [runR, if_neg (by simp [hc]), hr]) (by simp) (by rw [← hv1, ← x2]; simp)
  · rw [hr] at hx
    obtain ⟨rfl, cv', rfl, x1, x2, x3⟩ := hx
    rw [hset]
    simp -implicitDefEqProofs [go_sem]
    refine Wp.s ?_
    simp -implicitDefEqProofs [go_sem]
    refine ⟨x1.one, ?_⟩
    refine Fin.pu ?_ (okV_runV _ _ _) hokH (by simp) (by rw [x2, hv1])
    rw [runR, if_neg (by simp [hc]), hr]
    exact .tup (.cons (.agg (.cons (.refl _) (.cons x1.le .nil))) (.cons (.refl _) (.cons (.refl _) .nil)))
def newR (n : Int) : Dk × Nat := if n < 0 ∨ 4096 < n then (dk0, 2) else (⟨List.replicate n.toNat sec0, []⟩, 0)
theorem sNew_cc (H : Hp) (V : List Nat) (n : Int) : CC Tryz.prog 40 [ci n] H V (Pu (.tup [.agg (dkC (newR n).1), er (newR n).2]) H V) := by
  refine CC.of_swp Tryz.func40 rfl (by kernel_rfl) (by rw [Tryz.ntmps40]; exact len_le _ _ rfl) fun hok hokH => ?_
  clear hok
  have bad : ∀ {H' : Hp} {V' : List Nat}, newR n = (dk0, 2) → H'.take H.length = H → V'.take V.length = V → Fin H.length V.length (Pu (.tup [.agg (dkC (newR n).1), er (newR n).2]) H V) (.tup [.agg [.v (.slice none 0 0), .v (.slice none 0 0)], .v (.int .i64 2)]) H' V' := fun h1 h2 h3 => by
    rw [h1]
    exact Fin.pu (.tup (.cons (.agg (.cons (.nil 8 (by decide)) (.cons (.nil 9 (by decide)) .nil))) (.cons (.refl _) .nil))) (by rw [okV]; simp -implicitDefEqProofs [go_sem]) hokH h2 h3
  refine SWp.seq (Wp.s ?_)
  simp -implicitDefEqProofs [go_sem, args0]
  refine SWp.seq (Wp.s ?_)
  by_cases h1 : n < 0
  · simp -implicitDefEqProofs [go_sem, h1]
    exact bad (by rw [newR, if_pos (.inl h1)]) (by simp) (by simp)
  by_cases h2 : 4096 < n
  · simp -implicitDefEqProofs [go_sem, h1, h2]
    exact bad (by rw [newR, if_pos (.inr h2)]) (by simp) (by simp)
  simp -implicitDefEqProofs [go_sem, h1, h2]
  refine Wp.s ?_
  simp -implicitDefEqProofs [go_sem]
  have hn : newR n = (⟨List.replicate n.toNat sec0, []⟩, 0) := by rw [newR, if_neg (by omega)]
  have hz : (List.replicate n.toNat [CV.v (.int .u8 0), CV.v (.int .u8 0), CV.v (.int .u8 0), CV.v (.int .u8 0), CV.v (.int .u8 0), CV.v (.int .u8 0), CV.v (.int .u8 0), CV.v (.int .u8 0)]).flatten = secsF (List.replicate n.toNat sec0) := zeros_secs n.toNat
  have hch : chunks 8 n.toNat ((secsF (List.replicate n.toNat sec0)).drop 0) = (List.replicate n.toNat sec0).map secC := by
    have := chunks_secs (List.replicate n.toNat sec0)
    rwa [List.length_replicate] at this
  refine ⟨by omega, by omega, ?_⟩
  rw [hz, hn]
  refine Fin.frozG (b := H.length + 1) (cs := secsF (List.replicate n.toNat sec0)) (r1 := .tup [.agg [.bsl (H.length + 1) 0 n.toNat 8, cachV []], er 0]) ⟨rfl, rfl, rfl⟩ (.tup (.cons (.agg (.cons (.refl _) (.cons (.nil 9 (by decide)) .nil))) (.cons (.refl _) .nil))) (by simp)
    (.tup (.cons (.agg (.cons ?_ (.cons (.refl _) .nil))) (.cons (.refl _) .nil))) (by omega) (by rw [okV]; simp -implicitDefEqProofs [go_sem]) hokH (by simp) (by simp)
  show Fz _ _ _ (.sl .sh 8 ((List.replicate n.toNat sec0).map secC))
  rw [← hch]
  exact .bsl _ _ _ (by simp; omega)
end Go.Proofs.YtbnkggbpocaaiaaGreatDoor
namespace Go.Proofs.YtbnkggbpocaaiaaGreatDoor
open Go.Proofs
theorem sChunk_cc (H : Hp) (V : List Nat) (l : List UInt8) : CC Tryz.prog 172 [.sl .sh 1 (bs l), ci 4] H V (fun r H' V' => r = .fn 200 [.ptr H.length 0, .ptr (H.length + 1) 0] ∧ H' = H ++ [some [.sl .sh 1 (bs l)], some [ci 4]] ∧ V = V') := by
  refine CC.of_swp Tryz.func172 rfl (by kernel_rfl) (by rw [Tryz.ntmps172]; exact len_le _ _ rfl) fun hok hokH => ?_
  clear hok
  refine SWp.seq (Wp.s ?_)
  simp -implicitDefEqProofs [go_sem, args0]
  refine SWp.seq (Wp.s ?_)
  simp -implicitDefEqProofs [go_sem]
  refine Wp.s ?_
  simp -implicitDefEqProofs [go_sem]
  refine Fin.cut (H.length + 2) V.length ⟨rfl, rfl, rfl⟩ (by omega) (Nat.le_refl _) (List.take_of_length_le (by simp)) (List.take_of_length_le (Nat.le_refl _)) (.refl _) (by simp -implicitDefEqProofs [go_sem]) ?_
  intro b cs hb
  rw [List.getElem?_append] at hb
  split at hb
  · exact okL_mono (by omega) (Nat.le_refl _) (hokH b cs hb)
  · exact okH_get (i := H.length + 2) (j := V.length) (L := [some [.sl .sh 1 (bs l)], some [ci 4]]) (by simp -implicitDefEqProofs [go_sem]) _ _ hb
theorem schunk1_cc (H : Hp) (V : List Nat) (L b2 b3 : Nat) (l : List UInt8) (hl : l.length = 32) (I : Nat → Hp → List Nat → Prop) (h0 : I 0 H V)
    (hI : ∀ i H V, I i H V → H[b2]? = some (some [.sl .sh 1 (bs l)]) ∧ H[b3]? = some (some [ci 4]))
    (hy : ∀ i, i < 8 → ∀ H V, I i H V → YC Tryz.prog L [.sl .ti 1 (bs ((l.drop (4 * i)).take 4))] H V (fun r H' V' => r = .v (.bool true) ∧ I (i + 1) H' V')) :
    CC Tryz.prog 200 [.yl L, .ptr b2 0, .ptr b3 0] H V (fun _ H' V' => I 8 H' V') := by
  refine CC.of_swp Tryz.func200 rfl (by kernel_rfl) (by rw [Tryz.ntmps200]; exact len_le _ _ rfl) fun hok hokH => ?_
  clear hok
  refine SWp.seq (Wp.s ?_)
  simp -implicitDefEqProofs [go_sem, args0]
  refine SWp.block ?_
  refine SWp.loop (α := Nat × Hp × List Nat) (fun x => ([(0, .yl L), (1, .ptr b2 0), (2, .ptr b3 0), (4, ci (4 * x.1 : Nat))], x.2.1, x.2.2)) (fun x => x.1 ≤ 8 ∧ I x.1 x.2.1 x.2.2) (fun x => 8 - x.1) (0, H, V) ⟨by omega, h0⟩ (Sh.forget (by simp -implicitDefEqProofs [go_sem]) rfl rfl) ?_
  rintro ⟨i, H1, V1⟩ ⟨hi, hi1⟩
  dsimp only at hi hi1 ⊢
  obtain ⟨g2, g3⟩ := hI _ _ _ hi1
  refine SWp.seq (Wp.s ?_)
  simp -implicitDefEqProofs [go_sem, hbx_of g2, hbx_of g3, hl]
  refine ⟨fun h => ?_, fun h => ?_⟩
  case refine_2 =>
    obtain rfl : i = 8 := by omega
    exact Fin.self hi1
  have h8 : i < 8 := by omega
  refine SWp.seq (SWp.block (SWp.seq (SWp.drawnL (List.range 7) (by kernel_rfl) (by kernel_rfl) rfl ?_)))
  simp -implicitDefEqProofs [go_sem, List.range, List.range.loop, hbx_of g2, hbx_of g3, hl]
  have e1 : (4 * (i : Int)).toNat = 4 * i := by omega
  have e4 : min (4 : Int) ((32 - (4 * (i : Int)).toNat : Nat) : Int) = 4 := by omega
  refine ⟨by omega, by omega, ?_⟩
  rw [e4]
  refine Wp.s ?_
  simp -implicitDefEqProofs [go_sem, hbx_of g2, hbx_of g3, hl, IntWalk.i64_in (4 * (i : Int) + 4) ⟨by omega, by omega⟩]
  refine ⟨by omega, by omega, by omega, by omega, ?_⟩
  have ex : (l.take (4 * (i : Int) + 4).toNat).drop (4 * (i : Int)).toNat = (l.drop (4 * i)).take 4 := by
    rw [show (4 * (i : Int) + 4).toNat = 4 * i + 4 by omega, e1, List.drop_take, Nat.add_sub_cancel_left]
  rw [ex]
  refine YC.mono (hy i h8 _ _ hi1) ?_
  rintro _ H2 V2 ⟨rfl, hi2⟩
  obtain ⟨k2, k3⟩ := hI _ _ _ hi2
  simp -implicitDefEqProofs [go_sem]
  refine Wp.s ?_
  simp -implicitDefEqProofs [go_sem, hbx_of k2, hbx_of k3, IntWalk.i64_in (4 * (i : Int) + 4) ⟨by omega, by omega⟩]
  refine ⟨i + 1, H2, V2, ⟨by omega, hi2⟩, by omega, Sh.forget ?_ rfl rfl⟩
  simp -implicitDefEqProofs [go_sem, show 4 * (i : Int) + 4 = 4 * ((i : Int) + 1) by omega]
def fb (l : List UInt8) : List CV := l.map fun b => CV.v (.int .u8 (b.toNat : Int))
theorem fb_flat : ∀ l : List UInt8, (bs l).flatten = fb l
  | [] => rfl
  | b :: l => by rw [bs, List.map_cons, List.flatten_cons]; exact congrArg (_ :: ·) (fb_flat l)
@[go_sem, simp] theorem fb_len (l : List UInt8) : (fb l).length = l.length := by rw [fb, List.length_map]
@[go_sem] theorem fb_get (l : List UInt8) (i : Nat) (h : i < (fb l).length) : (fb l)[i] = CV.v (.int .u8 ((l[i]'(by simpa using h)).toNat : Int)) := by simp [fb]
theorem fb_set (l : List UInt8) (i : Nat) (c : UInt8) (h : i < l.length) : (fb l).take i ++ CV.v (.int .u8 (c.toNat : Int)) :: (fb l).drop (i + 1) = fb (l.set i c) := by
  rw [List.set_eq_take_append_cons_drop, if_pos h]
  simp [fb]
theorem fb_app (a b : List UInt8) : fb a ++ fb b = fb (a ++ b) := by simp [fb]
theorem fb_all (l : List UInt8) : allOne (fb l) = true := by simp only [allOne, fb, List.all_map, List.all_eq_true]; intros; rfl
theorem fb_chunks : ∀ l : List UInt8, chunks 1 l.length (fb l) = bs l
  | [] => rfl
  | b :: l => by
    rw [List.length_cons, chunks]
    exact congrArg (_ :: ·) (fb_chunks l)
@[go_sem] theorem okL_fb (i j : Nat) : ∀ l : List UInt8, okL i j (fb l) = True
  | [] => by rw [fb, List.map_nil, okL]
  | b :: l => by rw [fb, List.map_cons, okL, okV]; exact (true_and _).trans (okL_fb i j l)
theorem shr_le4 (n k : Nat) (hk : k < 4) : IntKind.u8.wrap (shr .i64 (n : Int) (8 * (k : Int))) = (((le4 n).getD k 0).toNat : Int) := by
  have e : ∀ m : Nat, IntKind.u8.wrap (m : Int) = ((UInt8.ofNat (m % 256)).toNat : Int) := fun m => by
    rw [IntKind.wrap_u8, UInt8.toNat_ofNat']; omega
  have h : k = 0 ∨ k = 1 ∨ k = 2 ∨ k = 3 := by omega
  unfold shr
  rcases h with rfl | rfl | rfl | rfl
  · rw [show (n : Int).fdiv (2 ^ (min (8 * ((0 : Nat) : Int)).toNat IntKind.i64.bits)) = (n : Int) from Int.fdiv_one _, e]; rfl
  · rw [show (n : Int).fdiv (2 ^ (min (8 * ((1 : Nat) : Int)).toNat IntKind.i64.bits)) = ((n / 256 : Nat) : Int) by rw [Int.fdiv_eq_ediv_of_nonneg _ (by decide)]; show (n : Int) / 256 = _; omega, e]; rfl
  · rw [show (n : Int).fdiv (2 ^ (min (8 * ((2 : Nat) : Int)).toNat IntKind.i64.bits)) = ((n / 65536 : Nat) : Int) by rw [Int.fdiv_eq_ediv_of_nonneg _ (by decide)]; show (n : Int) / 65536 = _; omega, e]; rfl
  · rw [show (n : Int).fdiv (2 ^ (min (8 * ((3 : Nat) : Int)).toNat IntKind.i64.bits)) = ((n / 16777216 : Nat) : Int) by rw [Int.fdiv_eq_ediv_of_nonneg _ (by decide)]; show (n : Int) / 16777216 = _; omega, e]; rfl
theorem le4_step (n k : Nat) (hk : k < 4) : ((le4 n).take k ++ List.replicate (8 - k) 0).set k ((le4 n).getD k 0) = (le4 n).take (k + 1) ++ List.replicate (8 - (k + 1)) 0 := by
  have h : k = 0 ∨ k = 1 ∨ k = 2 ∨ k = 3 := by omega
  rcases h with rfl | rfl | rfl | rfl <;> rfl
theorem zeros31 (x : CV) (k : Nat) : List.drop (1 + k) (x :: [CV.v (.int .u8 0), CV.v (.int .u8 0), CV.v (.int .u8 0), CV.v (.int .u8 0), CV.v (.int .u8 0), CV.v (.int .u8 0), CV.v (.int .u8 0), CV.v (.int .u8 0), CV.v (.int .u8 0), CV.v (.int .u8 0), CV.v (.int .u8 0), CV.v (.int .u8 0), CV.v (.int .u8 0), CV.v (.int .u8 0), CV.v (.int .u8 0), CV.v (.int .u8 0), CV.v (.int .u8 0), CV.v (.int .u8 0), CV.v (.int .u8 0), CV.v (.int .u8 0), CV.v (.int .u8 0), CV.v (.int .u8 0), CV.v (.int .u8 0), CV.v (.int .u8 0), CV.v (.int .u8 0), CV.v (.int .u8 0), CV.v (.int .u8 0), CV.v (.int .u8 0), CV.v (.int .u8 0), CV.v (.int .u8 0), CV.v (.int .u8 0)]) = fb (List.replicate (31 - k) 0) := by
  rw [Nat.add_comm, List.drop_succ_cons, fb, List.map_replicate]
  exact List.drop_replicate (i := k) (n := 31) (a := CV.v (.int .u8 0))
theorem dataOf_fb (p : List UInt8) (x : CV) : CV.v (.int .u8 (IntKind.u8.wrap (p.length : Int))) :: ((bs p).flatten ++ List.drop (1 + p.length) (x :: [CV.v (.int .u8 0), CV.v (.int .u8 0), CV.v (.int .u8 0), CV.v (.int .u8 0), CV.v (.int .u8 0), CV.v (.int .u8 0), CV.v (.int .u8 0), CV.v (.int .u8 0), CV.v (.int .u8 0), CV.v (.int .u8 0), CV.v (.int .u8 0), CV.v (.int .u8 0), CV.v (.int .u8 0), CV.v (.int .u8 0), CV.v (.int .u8 0), CV.v (.int .u8 0), CV.v (.int .u8 0), CV.v (.int .u8 0), CV.v (.int .u8 0), CV.v (.int .u8 0), CV.v (.int .u8 0), CV.v (.int .u8 0), CV.v (.int .u8 0), CV.v (.int .u8 0), CV.v (.int .u8 0), CV.v (.int .u8 0), CV.v (.int .u8 0), CV.v (.int .u8 0), CV.v (.int .u8 0), CV.v (.int .u8 0), CV.v (.int .u8 0)])) = fb (dataOf p) := by
  rw [zeros31, fb_flat, fb_app, dataOf, wrap_u8]
  have : byt (p.length : Int) = UInt8.ofNat p.length := by
    apply UInt8.toNat_inj.1
    have := byt_toNat (p.length : Int)
    rw [UInt8.toNat_ofNat']
    omega
  rw [this]; rfl
def ApS (j : Nat) (l : List Sec) (cv : CV) (V : List Nat) : Prop := (cv = .v (.slice none 0 0) ∧ l = []) ∨ ∃ k v, cv = .sl (.own k v) 8 (l.map secC) ∧ V[k]? = some v ∧ j ≤ k
theorem ApS.le {j : Nat} {l : List Sec} {cv : CV} {V : List Nat} (h : ApS j l cv V) : Le cv (secsV l) := by
  rcases h with ⟨rfl, rfl⟩ | ⟨k, v, rfl, _⟩
  · exact .nil 8 (by decide)
  · exact .sh _ _ _
theorem ApS.one {j : Nat} {l : List Sec} {cv : CV} {V : List Nat} (h : ApS j l cv V) : cv.one = true := by
  rcases h with ⟨rfl, rfl⟩ | ⟨k, v, rfl, _⟩ <;> rfl
theorem ApS.ok {i j : Nat} {l : List Sec} {cv : CV} {V : List Nat} (h : ApS j l cv V) : okV i V.length cv := by
  rcases h with ⟨rfl, rfl⟩ | ⟨k, v, rfl, h, _⟩
  · rw [okV]; trivial
  · rw [okV_own, okE_secs]; exact ⟨(List.getElem?_eq_some_iff.1 h).1, trivial⟩
abbrev HP (H : Hp) (n : Nat) (tk : Tk) (p : List UInt8) (cv lp : CV) (W : Hp) : Hp :=
  H ++ (some [ci n] :: some [ci 0, .v (.slice none 0 0), .v (.slice none 0 0)] :: none :: some [ci n, .sl tk 1 (bs p), cv] :: some [.sl .sh 1 (bs (dataOf p))] :: some [ci 4] :: some [lp] :: W)
@[go_sem] theorem hbx_W7 (H W L : Hp) (a0 a1 a2 a3 a4 a5 a6 : Option (List CV)) (K : List CV → Prop) : hbx (H ++ (a0 :: a1 :: a2 :: a3 :: a4 :: a5 :: a6 :: (W ++ L))) (H.length + (W.length + 7)) K = hbx L 0 K := by
  unfold hbx
  have : (H ++ (a0 :: a1 :: a2 :: a3 :: a4 :: a5 :: a6 :: (W ++ L)))[H.length + (W.length + 7)]? = L[0]? := by
    rw [hget]
    simp only [List.getElem?_cons_succ]
    exact hget W L 0
  rw [this]
theorem sput_cc (H : Hp) (V : List Nat) (n : Nat) (tk : Tk) (p : List UInt8) (hn : n < 4294967296) (hp : p.length ≤ 31) : CC Tryz.prog 164 [ci n, .sl tk 1 (bs p)] H V (Pu (.agg [ci n, .sl .sh 1 (bs p), secsV (copyS n p)]) H V) := by
  refine CC.of_swp0 Tryz.func164 rfl (by kernel_rfl) (by rw [Tryz.ntmps164]; exact len_le _ _ rfl) fun hok hokH => ?_
  refine SWp0.seq (SWp.s0 (Wp.s ?_))
  simp -implicitDefEqProofs [go_sem, args0]
  refine SWp0.seq (SWp.s0 (Wp.s ?_))
  simp -implicitDefEqProofs [go_sem]
  refine SWp0.seq (SWp.s0 (Wp.s ?_))
  simp -implicitDefEqProofs [go_sem]
  refine SWp0.seq (SWp.s0 (Wp.s ?_))
  simp -implicitDefEqProofs [go_sem]
  refine ⟨hp, by rw [fb_flat, fb_all], by omega, ?_⟩
  refine SWp0.seq (SWp.s0 (Wp.s ?_))
  simp -implicitDefEqProofs [go_sem]
  rw [dataOf_fb]
  have hD := dataOf_len hp
  have hch : chunks 1 32 ((fb (dataOf p)).drop 0) = bs (dataOf p) := by
    have := fb_chunks (dataOf p)
    rwa [hD] at this
  refine SWp0.ghost (T' := [(2, .ptr H.length 0), (4, .ptr (H.length + 1) 0), (6, .ptr (H.length + 3) 0), (5, .bsl (H.length + 2) 0 32 1)]) (Gst.forget (TLe.get (by simp -implicitDefEqProofs [go_sem]))) ?_
  refine SWp0.ghost (T' := [(2, .ptr H.length 0), (4, .ptr (H.length + 1) 0), (6, .ptr (H.length + 3) 0), (5, .sl .sh 1 (bs (dataOf p)))]) (Gst.freeze (b := H.length + 2) (cs := fb (dataOf p)) (by simp) ?_) ?_
  · intro q hq
    simp at hq
    rcases hq with rfl | rfl | rfl | rfl
    · exact .refl _
    · exact .refl _
    · exact .refl _
    · show Fz _ _ (.bsl (H.length + 2) 0 32 1) (.sl .sh 1 (bs (dataOf p)))
      rw [← hch]; exact .bsl _ _ _ (by simp [hD])
  simp -implicitDefEqProofs [go_sem]
  refine SWp0.join (α := CV × List Nat) (fun x => ([(4, .ptr (H.length + 1) 0), (6, .ptr (H.length + 3) 0)], H ++ [some [ci n], some [ci 0, .v (.slice none 0 0), .v (.slice none 0 0)], none, some [ci n, .sl tk 1 (bs p), x.1]], x.2))
    (fun x => ApS V.length (copyS n p) x.1 x.2 ∧ V.length ≤ x.2.length ∧ x.2.take V.length = V) ?_ ?_
  · refine SWp0.seq (SWp.s0 (Wp.s ?_))
    simp -implicitDefEqProofs [go_sem]
    refine CC.mono (sChunk_cc _ _ _) ?_
    rintro _ _ _ ⟨rfl, rfl, rfl⟩
    simp -implicitDefEqProofs [go_sem]
    refine SWp0.block (SWp0.range [(2, .ptr H.length 0), (6, .ptr (H.length + 3) 0)] rfl (by simp -implicitDefEqProofs [go_sem]) ?_)
    simp -implicitDefEqProofs [go_sem]
    generalize hbd : Code.block 1 _ = bd
    generalize has : Code.region 6 _ _ = asg
    refine CC.mono (schunk1_cc _ V _ _ _ (dataOf p) hD (fun i G V' => ∃ cv W, ApS V.length ((List.range i).map (secOf n p)) cv V' ∧ V.length ≤ V'.length ∧ V'.take V.length = V ∧
      G = H ++ (some [ci n] :: some [ci 0, .v (.slice none 0 0), .v (.slice none 0 0)] :: none :: some [ci n, .sl tk 1 (bs p), cv] :: some [.sl .sh 1 (bs (dataOf p))] :: some [ci 4] :: some [lpc 48 #[26] asg bd [(2, .ptr H.length 0), (6, .ptr (H.length + 3) 0)] .ready none] :: W))
      ⟨.v (.slice none 0 0), [], .inl ⟨rfl, rfl⟩, Nat.le_refl _, by simp, rfl⟩ ?_ ?_) ?_
    · rintro i _ V' ⟨cv, W, _, _, _, rfl⟩
      exact ⟨hget _ _ 4, hget _ _ 5⟩
    · rintro i hi _ V' ⟨cv, W, ha, hv1, hv2, rfl⟩
      refine YC.of_round (n := 48) (ps := #[26]) (bd := bd) (T := [(2, .ptr H.length 0), (6, .ptr (H.length + 3) 0)]) (hget _ _ 6) rfl (by decide) ?_
      subst hbd has
      refine Wp.s ?_
      simp -implicitDefEqProofs [go_sem, tps]
      refine SWp.block (SWp.seq (Wp.s ?_))
      simp -implicitDefEqProofs [go_sem]
      generalize hlp : lpc 48 #[26] _ _ _ LoopState.busy none = lp
      generalize hqq : RQ 48 #[26] _ _ _ _ _ = QQ
      refine SWp.join (α := Unit) (fun x => ([(2, .ptr H.length 0), (6, .ptr (H.length + 3) 0), (7, .sl .ti 1 (bs (partOf p i))), (8, .ptr (H.length + (W.length + 7)) 0)], HP H n tk p cv lp (W ++ [some (fb (le4 n ++ List.replicate 4 0))]), V')) (fun _ => True) ?_ ?_
      · refine SWp.seq (Wp.s ?_)
        simp -implicitDefEqProofs [go_sem]
        refine SWp.block ?_
        refine SWp.loop (α := Nat) (fun k => ([(2, .ptr H.length 0), (6, .ptr (H.length + 3) 0), (7, .sl .ti 1 (bs (partOf p i))), (8, .ptr (H.length + (W.length + 7)) 0), (27, ci k)], HP H n tk p cv lp (W ++ [some (fb ((le4 n).take k ++ List.replicate (8 - k) 0))]), V')) (fun k => k ≤ 4) (fun k => 4 - k) 0 (by omega) (Sh.forget (by simp -implicitDefEqProofs [go_sem, partOf]) rfl rfl) ?_
        intro k hk
        dsimp only
        refine SWp.seq (Wp.s ?_)
        simp -implicitDefEqProofs [go_sem]
        refine SWp.seq (Wp.s ?_)
        simp -implicitDefEqProofs [go_sem]
        refine ⟨fun h => ?_, fun h => ?_⟩
        case refine_2 =>
          obtain rfl : k = 4 := by omega
          exact Sh.forget (by simp -implicitDefEqProofs [go_sem]) rfl rfl
        have h4 : k < 4 := by omega
        refine SWp.seq (SWp.block (SWp.seq (Wp.s ?_)))
        simp -implicitDefEqProofs [go_sem]
        refine Wp.s ?_
        simp -implicitDefEqProofs [go_sem, HP, IntWalk.i64_in (8 * (k : Int)) ⟨by omega, by omega⟩, show (k : Int) < 8 by omega]
        have hkl : k < ((le4 n).take k ++ List.replicate (8 - k) (0 : UInt8)).length := by simp [le4_len]; omega
        refine ⟨by omega, by simp [le4_len]; omega, Wp.s ?_⟩
        simp -implicitDefEqProofs [go_sem, wrap_succ (show k ≤ 1000000000 by omega)]
        refine ⟨k + 1, by omega, by omega, Sh.forget (by simp -implicitDefEqProofs [go_sem]) ?_ rfl⟩
        rw [shr_le4 n k h4, fb_set _ _ _ hkl, le4_step n k h4]
      · rintro _ -
        dsimp only
        refine SWp.seq (Wp.s ?_)
        simp -implicitDefEqProofs [go_sem, HP]
        have hpl := partOf_len hp hi
        have hsec : List.take 4 (fb (le4 n ++ [0, 0, 0, 0])) ++ ((bs (partOf p i)).flatten ++ List.drop (4 + (partOf p i).length) (fb (le4 n ++ [0, 0, 0, 0]))) = secC (secOf n p i) := by
          rw [hpl, fb_flat]
          have e1 : List.take 4 (fb (le4 n ++ [0, 0, 0, 0])) = fb (le4 n) := rfl
          have e2 : List.drop (4 + 4) (fb (le4 n ++ [0, 0, 0, 0])) = [] := rfl
          rw [e1, e2, List.append_nil, fb_app]
          show fb _ = fb (secOf n p i).val
          rw [secOf_val n hp hi]
        rw [hsec]
        refine ⟨by omega, by rw [fb_flat, fb_all], by rw [hpl, le4_len]; exact Nat.le_refl _, ?_⟩
        rcases ha with ⟨rfl, he⟩ | ⟨k, v, rfl, hv, hk⟩
        · refine Wp.s ?_
          simp -implicitDefEqProofs [go_sem]
          rw [← hqq, ← hlp]
          refine ⟨hget _ _ 6, rfl, .sl (.own V'.length 0) 8 [secC (secOf n p i)], .inr ⟨V'.length, 0, ?_, by simp, hv1⟩, by simp; omega, ?_, W ++ [some (secC (secOf n p i))], ?_⟩
          · rw [List.map_append, he]; rfl
          · rw [List.take_append_of_le_length hv1]; exact hv2
          · simp
        · refine Wp.s ?_
          simp -implicitDefEqProofs [go_sem, hv]
          rw [← hqq, ← hlp]
          have hkv := (List.getElem?_eq_some_iff.1 hv).1
          refine ⟨by omega, hget _ _ 6, rfl, .sl (.own k (v + 1)) 8 (((List.range i).map (secOf n p)).map secC ++ [secC (secOf n p i)]), .inr ⟨k, v + 1, ?_, by rw [List.getElem?_set_self hkv], hk⟩, by simpa using hv1, ?_, W ++ [some (secC (secOf n p i))], ?_⟩
          · rw [List.map_append]; rfl
          · rw [List.take_set_of_le hk]; exact hv2
          · simp
    · rintro _ _ V' ⟨cv, W, ha, hv1, hv2, rfl⟩
      refine .inl ⟨hget _ _ 6, ?_⟩
      refine ⟨cv, V', ⟨ha, hv1, hv2⟩, ?_⟩
      refine Sh.trim (L := [some [ci n], some [ci 0, .v (.slice none 0 0), .v (.slice none 0 0)], none, some [ci n, .sl tk 1 (bs p), cv]]) ?_ ?_ hokH ?_ hv1 ?_ (List.take_of_length_le (Nat.le_refl _))
      · simp -implicitDefEqProofs [go_sem]
      · simp -implicitDefEqProofs [go_sem]
      · rw [okL, okL] at hok
        rw [okH_some, okH_some, okH_none, okH_some, okL, okL, okL, okL]
        exact ⟨by simp -implicitDefEqProofs [go_sem], by simp -implicitDefEqProofs [go_sem], ⟨by rw [okV]; trivial, okV_mono (by omega) (by omega) hok.2.1, ha.ok, trivial⟩, trivial⟩
      · simp
  · rintro ⟨cv, V'⟩ ⟨h1, h2, h3⟩
    dsimp only
    refine SWp0.seq (SWp.s0 (Wp.s ?_))
    simp -implicitDefEqProofs [go_sem]
    refine ⟨h1.one, SWp.s0 (Wp.s ?_)⟩
    simp -implicitDefEqProofs [go_sem]
    refine Fin.pu (.agg (.cons (.refl _) (.cons (.sh _ _ _) (.cons h1.le .nil)))) ?_ hokH (by simp) h3
    rw [okV_agg, okL, okL, okL, okL]
    exact ⟨by rw [okV]; trivial, by rw [okV_sh, okBs_t]; trivial, okV_secsV _ _ _, trivial⟩
end Go.Proofs.YtbnkggbpocaaiaaGreatDoor
namespace Go.Proofs.YtbnkggbpocaaiaaGreatDoor
open Go.Proofs
def mx (a b : List UInt8) (k : Nat) : List UInt8 := a.take k ++ List.replicate (4 - k) 0 ++ (b.take k ++ List.replicate (4 - k) 0)
def dst (p : List UInt8) (k : Nat) : List UInt8 := UInt8.ofNat p.length :: (p.take k ++ List.replicate (31 - k) 0)
end Go.Proofs.YtbnkggbpocaaiaaGreatDoor
namespace Go.Proofs.YtbnkggbpocaaiaaGreatDoor
open Go.Proofs
def zs (l : List UInt8) : Bool := l.all (· == 0)
def TR (l : List UInt8) (H : Hp) (V : List Nat) : CV → Hp → List Nat → Prop := fun r H' V' => ∃ m, m ≤ l.length ∧ r = .sl .sh 1 (bs (l.take m)) ∧ decide (0 < m) = !(zs l) ∧ H = H' ∧ V = V'
theorem strimB_cc (H : Hp) (V : List Nat) (tk : Tk) (l : List UInt8) (hl : l.length ≤ 1000000) : CC Tryz.prog 241 [.sl tk 1 (bs l), .v (.int .u8 0)] H V (TR l H V) := by
  refine CC.of_swp Tryz.func241 rfl (by kernel_rfl) (by rw [Tryz.ntmps241]; exact len_le _ _ rfl) fun hok hokH => ?_
  clear hok
  refine SWp.seq (Wp.s ?_)
  simp -implicitDefEqProofs [go_sem, args0]
  refine SWp.join (α := Nat) (fun m => ([(0, .sl .sh 1 (bs (l.take m)))], H, V)) (fun m => m ≤ l.length ∧ decide (0 < m) = !(zs l)) ?_ ?_
  · refine SWp.block ?_
    refine SWp.loop (α := Nat) (fun m => ([(0, .sl .sh 1 (bs (l.take m))), (1, .v (.int .u8 0))], H, V)) (fun m => m ≤ l.length ∧ zs (l.drop m) = true) (fun m => m) l.length ⟨Nat.le_refl _, by simp [zs]⟩ (Sh.forget (by simp -implicitDefEqProofs [go_sem]) rfl rfl) ?_
    rintro m ⟨hm, hz⟩
    dsimp only
    have hlen : (l.take m).length = m := by simp; omega
    refine SWp.seq (Wp.s ?_)
    by_cases h0 : m = 0
    · subst h0
      simp -implicitDefEqProofs [go_sem, hlen]
      refine ⟨0, ⟨Nat.zero_le _, ?_⟩, Sh.forget (by simp -implicitDefEqProofs [go_sem]) rfl rfl⟩
      simp at hz; rw [hz]; rfl
    have w1 : IntKind.i64.wrap ((m : Int) - 1) = ((m - 1 : Nat) : Int) := by rw [IntWalk.i64_in _ ⟨by omega, by omega⟩]; omega
    have hm1 : m - 1 < l.length := by omega
    simp -implicitDefEqProofs [go_sem, hlen, h0, w1, show 0 < m by omega, show m - 1 < m by omega]
    have hg : l.drop (m - 1) = l[m - 1] :: l.drop m := by
      have := List.drop_eq_getElem_cons hm1
      rwa [show m - 1 + 1 = m by omega] at this
    refine ⟨fun h => ?_, fun h => ?_⟩
    · refine SWp.block (Wp.s ?_)
      simp -implicitDefEqProofs [go_sem, hlen, w1]
      refine ⟨m - 1, ⟨by omega, ?_⟩, by omega, Sh.forget ?_ rfl rfl⟩
      · rw [hg, zs, List.all_cons, ← zs, hz, show l[m - 1] = 0 from UInt8.toNat_inj.1 h]; rfl
      · simp -implicitDefEqProofs [go_sem, List.take_take, Nat.min_eq_left (show m - 1 ≤ m by omega)]
    · refine ⟨m, ⟨hm, ?_⟩, Sh.forget (by simp -implicitDefEqProofs [go_sem]) rfl rfl⟩
      have : zs l = false := by
        rw [← Bool.not_eq_true]
        intro hq
        have := List.all_eq_true.1 hq l[m - 1] (List.getElem_mem hm1)
        exact h (by simpa using congrArg UInt8.toNat (eq_of_beq this))
      rw [this]; simp; omega
  · rintro m ⟨hm, hd⟩
    dsimp only
    refine Wp.s ?_
    simp -implicitDefEqProofs [go_sem]
    exact Fin.pure ⟨m, hm, rfl, hd, rfl, rfl⟩ (by simp) (by simp) (.refl _) (by rw [okV_sh, okBs_t]; trivial) hokH
theorem sTrimRight_cc (H : Hp) (V : List Nat) (tk : Tk) (l : List UInt8) (hl : l.length ≤ 1000000) : CC Tryz.prog 220 [.sl tk 1 (bs l), .v (.string ⟨#[0]⟩)] H V (TR l H V) := by
  refine CC.of_swp Tryz.func220 rfl (by kernel_rfl) (by rw [Tryz.ntmps220]; exact len_le _ _ rfl) fun hok hokH => ?_
  clear hok
  refine SWp.seq (Wp.s ?_)
  simp -implicitDefEqProofs [go_sem, args0]
  refine SWp.seq (Wp.s ?_)
  by_cases h0 : l = []
  · subst h0
    simp -implicitDefEqProofs [go_sem]
    exact Fin.pure ⟨0, Nat.le_refl _, rfl, rfl, rfl, rfl⟩ (by simp) (by simp) (.sh _ _ _) (by rw [okV_sh, okBs_t]; trivial) hokH
  have hlp : 0 < l.length := List.length_pos_iff.2 h0
  simp -implicitDefEqProofs [go_sem, h0, show ¬ (l.length = 0) by omega]
  refine SWp.seq (Wp.s ?_)
  simp -implicitDefEqProofs [go_sem]
  refine ⟨fun h => ?_, fun h => absurd h (by decide)⟩
  refine CC.mono (strimB_cc _ _ _ l hl) ?_
  rintro _ _ _ ⟨m, h1, rfl, h2, rfl, rfl⟩
  simp -implicitDefEqProofs [go_sem]
  exact Fin.pure ⟨m, h1, rfl, h2, rfl, rfl⟩ (by simp) (by simp) (.refl _) (by rw [okV_sh, okBs_t]; trivial) hokH
theorem scap2_cc (H : Hp) (V : List Nat) : CC Tryz.prog 167 [] H V (Pu (ci 31) H V) := by
  refine CC.of_swp Tryz.func167 rfl (by kernel_rfl) (by rw [Tryz.ntmps167]; exact len_le _ _ rfl) fun hok hokH => ?_
  clear hok
  refine Wp.s ?_
  simp -implicitDefEqProofs [go_sem, args0]
  exact Fin.int rfl hokH (by simp) (by simp)
theorem scloneBy_cc (H : Hp) (V : List Nat) (tk : Tk) (xs : List (List CV)) (hx : xs.length ≤ 1000000000) : CC Tryz.prog 120 [.sl tk 1 xs] H V (Fr 1 xs H V) := by
  refine CC.of_swp Tryz.func120 rfl (by kernel_rfl) (by rw [Tryz.ntmps120]; exact len_le _ _ rfl) fun hok hokH => Wp.s ?_
  simp -implicitDefEqProofs [go_sem, args0]
  simp [okL, okV] at hok
  refine ⟨⟨by omega, ?_⟩, fun h => ?_⟩
  · exact Fin.fr hok.2 hokH (by simp)
  · exact Fin.frtok (by omega) (.inl ⟨rfl, h⟩) hok.2 hokH (by simp) (by simp)
end Go.Proofs.YtbnkggbpocaaiaaGreatDoor
namespace Go.Proofs.YtbnkggbpocaaiaaGreatDoor
open Go.Proofs
theorem SWp.scope {P : Program} {n nb nv : Nat} {c : Code} {Q : Exit → Tm → Hp → List Nat → Prop} {T : Tm} {H : Hp} {V : List Nat} (h : SWp P n nb nv c (scp Q) T H V) : SWp P n nb nv (.scope c) Q T H V := by
  intro ro D m w a m0 w0 V0 h1 h2 h3 hx hs
  refine wpIn_scope_straight (wpIn_mono (h ro D m w a m0 w0 V0 h1 h2 h3 hx hs) fun e a' w' ⟨T', H', V', m', k1, k2⟩ => ?_)
  cases e with
  | goto l => exact k1.elim
  | _ => exact ⟨T', H', V', m', k1, k2⟩
def ApB (j : Nat) (l : List UInt8) (cv : CV) (V : List Nat) : Prop := (cv = .v (.slice none 0 0) ∧ l = []) ∨ ∃ k v, cv = .sl (.own k v) 1 (bs l) ∧ V[k]? = some v ∧ j ≤ k
theorem dataS_succ (l : List Sec) (i : Nat) (h : i < l.length) : dataS (l.take (i + 1)) = dataS (l.take i) ++ l[i].val.drop 4 := by
  rw [List.take_succ_eq_append_getElem h, dataS, List.flatMap_append]; simp [dataS]
theorem secC_drop4 (s : Sec) : chunks 1 4 ((secC s).drop 4) = bs (s.val.drop 4) := by
  have := fb_chunks (s.val.drop 4)
  rw [List.length_drop, s.len] at this
  have e : (secC s).drop 4 = fb (s.val.drop 4) := by rw [fb, List.map_drop]; rfl
  rw [e]; exact this
theorem sget_cc (H : Hp) (V : List Nat) (tk : Tk) (l : List Sec) (hl : l.length = 8) : CC Tryz.prog 202 [.sl tk 8 (l.map secC)] H V (Pu (.agg [ci (parseS l).1, .sl .sh 1 (bs (parseS l).2), secsV l]) H V) := by
  refine CC.of_swp Tryz.func202 rfl (by kernel_rfl) (by rw [Tryz.ntmps202]; exact len_le _ _ rfl) fun hok hokH => ?_
  refine SWp.seq (Wp.s ?_)
  simp -implicitDefEqProofs [go_sem, args0]
  refine SWp.scope ?_
  refine SWp.seq (Wp.s ?_)
  simp -implicitDefEqProofs [go_sem]
  refine SWp.seq (Wp.s ?_)
  simp -implicitDefEqProofs [go_sem]
  refine SWp.seq (Wp.s ?_)
  simp -implicitDefEqProofs [go_sem]
  have h0 : l.getD 0 sec0 = l[0] := by rw [List.getD_eq_getElem?_getD, List.getElem?_eq_getElem (by omega)]; rfl
  refine SWp.join (α := CV × List Nat) (fun x => ([(2, .ptr H.length 0), (3, .ptr (H.length + 1) 0)], H ++ [some [ci 0, .v (.slice none 0 0), .v (.slice none 0 0)], some [ci (parseS l).1, x.1, .sl tk 8 (l.map secC)]], x.2))
    (fun x => Le x.1 (.sl .sh 1 (bs (parseS l).2)) ∧ x.1.one = true ∧ V.length ≤ x.2.length ∧ x.2.take V.length = V) ?_ ?_
  · refine SWp.block ?_
    refine SWp.loop (α := Unit) (fun _ => ([(0, .sl tk 8 (l.map secC)), (2, .ptr H.length 0), (3, .ptr (H.length + 1) 0), (4, .v (.slice none 0 0))], H ++ [some [ci 0, .v (.slice none 0 0), .v (.slice none 0 0)], some [ci 0, .v (.slice none 0 0), .sl tk 8 (l.map secC)]], V)) (fun _ => True) (fun _ => 0) () trivial (Sh.forget (by simp -implicitDefEqProofs [go_sem]) (by simp) rfl) ?_
    rintro _ -
    dsimp only
    refine SWp.block ?_
    have inv : ∀ (T : Tm) (L : Hp) (V' : List Nat), parseS l = (0, []) → V.length ≤ V'.length → V'.take V.length = V → TLe T [(2, .ptr H.length 0), (3, .ptr (H.length + 1) 0)] →
      ∃ a b, (Le a (.sl .sh 1 (bs (parseS l).2)) ∧ a.one = true ∧ V.length ≤ b.length ∧ b.take V.length = V) ∧
        Sh 55 H.length V.length T (H ++ (some [ci 0, .v (.slice none 0 0), .v (.slice none 0 0)] :: some [ci 0, .v (.slice none 0 0), .sl tk 8 (l.map secC)] :: L)) V' ([(2, .ptr H.length 0), (3, .ptr (H.length + 1) 0)], H ++ [some [ci 0, .v (.slice none 0 0), .v (.slice none 0 0)], some [ci (parseS l).1, a, .sl tk 8 (l.map secC)]], b) := fun T L V' hp h1 h2 h3 => by
      refine ⟨.v (.slice none 0 0), V', ⟨by rw [hp]; exact .nil 1 (by decide), rfl, h1, h2⟩, ?_⟩
      rw [hp]
      refine Sh.trim (L := [some [ci 0, .v (.slice none 0 0), .v (.slice none 0 0)], some [ci 0, .v (.slice none 0 0), .sl tk 8 (l.map secC)]]) h3 (by simp -implicitDefEqProofs [go_sem]) hokH ?_ h1 (by simp) (List.take_of_length_le (Nat.le_refl _))
      rw [okL] at hok
      rw [okH_some, okH_some, okL, okL, okL, okL, okL, okL]
      exact ⟨by simp -implicitDefEqProofs [go_sem], ⟨by rw [okV]; trivial, by rw [okV]; trivial, okV_mono (by omega) h1 hok.1, trivial⟩, trivial⟩
    refine SWp.join (α := CV × List Nat) (fun x => ([(0, .sl tk 8 (l.map secC)), (2, .ptr H.length 0), (3, .ptr (H.length + 1) 0), (4, x.1)], H ++ [some [ci 0, .v (.slice none 0 0), .v (.slice none 0 0)], some [ci 0, .v (.slice none 0 0), .sl tk 8 (l.map secC)]], x.2))
      (fun x => (∃ k v, x.1 = .sl (.own k v) 1 (bs (dataS l)) ∧ x.2[k]? = some v ∧ V.length ≤ k) ∧ V.length ≤ x.2.length ∧ x.2.take V.length = V ∧ l.all (fun s => gn s == g0 l) = true) ?_ ?_
    · refine SWp.seq (Wp.s ?_)
      simp -implicitDefEqProofs [go_sem]
      refine SWp.block ?_
      refine SWp.loop (α := Nat × CV × List Nat) (fun x => ([(0, .sl tk 8 (l.map secC)), (2, .ptr H.length 0), (3, .ptr (H.length + 1) 0), (4, x.2.1), (10, .sl tk 8 (l.map secC)), (11, ci 8), (12, ci x.1)], H ++ [some [ci 0, .v (.slice none 0 0), .v (.slice none 0 0)], some [ci 0, .v (.slice none 0 0), .sl tk 8 (l.map secC)]], x.2.2))
        (fun x => x.1 ≤ 8 ∧ ApB V.length (dataS (l.take x.1)) x.2.1 x.2.2 ∧ V.length ≤ x.2.2.length ∧ x.2.2.take V.length = V ∧ (l.take x.1).all (fun s => gn s == g0 l) = true) (fun x => 8 - x.1) (0, .v (.slice none 0 0), V) ⟨by omega, .inl ⟨rfl, rfl⟩, Nat.le_refl _, by simp, rfl⟩ (Sh.forget (by simp -implicitDefEqProofs [go_sem, hl]) (by simp) rfl) ?_
      rintro ⟨i, cv, V'⟩ ⟨hi, ha, hv1, hv2, hg⟩
      dsimp only at hi ha hv1 hv2 hg ⊢
      refine SWp.seq (Wp.s ?_)
      simp -implicitDefEqProofs [go_sem]
      refine SWp.seq (Wp.s ?_)
      simp -implicitDefEqProofs [go_sem]
      refine ⟨fun h => ?_, fun h => ?_⟩
      case refine_2 =>
        obtain rfl : i = 8 := by omega
        rw [List.take_of_length_le (by omega)] at ha hg
        rcases ha with ⟨rfl, he⟩ | ⟨k, v, rfl, hv, hk⟩
        · have := congrArg List.length he
          rw [dataS_len] at this; simp at this; omega
        · exact ⟨_, V', ⟨⟨k, v, rfl, hv, hk⟩, hv1, hv2, by simpa using hg⟩, Sh.forget (by simp -implicitDefEqProofs [go_sem]) rfl rfl⟩
      have h8 : i < l.length := by omega
      refine SWp.seq (SWp.block (SWp.seq (Wp.s ?_)))
      simp -implicitDefEqProofs [go_sem, h8]
      refine SWp.seq (SWp.seq (SWp.drawnL [0, 2, 3, 4, 1, 5, 6] (by kernel_rfl) (by kernel_rfl) rfl ?_))
      simp -implicitDefEqProofs [go_sem, hl]
      refine CC.mono (sgeneration_cc _ _ _) ?_
      rintro _ _ _ ⟨rfl, rfl, rfl⟩
      simp -implicitDefEqProofs [go_sem]
      refine CC.mono (sgeneration_cc _ _ _) ?_
      rintro _ _ _ ⟨rfl, rfl, rfl⟩
      simp -implicitDefEqProofs [go_sem]
      refine Wp.s ?_
      by_cases hgi : gn l[i] = gn l[0]
      case neg =>
        have hp : parseS l = (0, []) := by
          rw [parseS, if_neg]
          intro hv
          rw [valid, Bool.and_eq_true] at hv
          have := List.all_eq_true.1 hv.1 _ (List.getElem_mem h8)
          rw [g0, h0] at this
          exact hgi (by simpa using this)
        simp -implicitDefEqProofs [go_sem, show ¬ ((gn l[i] : Int) = gn l[0]) by omega]
        exact inv _ [some (secC l[i])] V' hp hv1 hv2 (by simp -implicitDefEqProofs [go_sem])
      simp -implicitDefEqProofs [go_sem, hgi]
      have hg' : (l.take (i + 1)).all (fun s => gn s == g0 l) = true := by
        rw [List.take_succ_eq_append_getElem h8, List.all_append, hg, g0, h0]
        simp [hgi]
      have hok2 : ∀ j, V.length ≤ j → okH (H.length + 2) j [some [ci 0, .v (.slice none 0 0), .v (.slice none 0 0)], some [ci 0, .v (.slice none 0 0), .sl tk 8 (l.map secC)]] := fun j h1 => by
        rw [okL] at hok
        rw [okH_some, okH_some, okL, okL, okL, okL, okL, okL]
        exact ⟨by simp -implicitDefEqProofs [go_sem], ⟨by rw [okV]; trivial, by rw [okV]; trivial, okV_mono (by omega) h1 hok.1, trivial⟩, trivial⟩
      refine Wp.s ?_
      rcases ha with ⟨rfl, he⟩ | ⟨k, v, rfl, hv, hk⟩
      · simp -implicitDefEqProofs [go_sem, secC_drop4]
        have hap : ApB V.length (dataS (l.take (i + 1))) (.sl (.own V'.length 0) 1 (bs (l[i].val.drop 4))) (V' ++ [0]) := .inr ⟨V'.length, 0, by rw [dataS_succ _ _ h8, he]; rfl, by simp, hv1⟩
        refine ⟨by rw [l[i].len]; omega, Wp.s ?_⟩
        simp -implicitDefEqProofs [go_sem, wrap_succ (show i ≤ 1000000000 by omega)]
        refine ⟨i + 1, _, V' ++ [0], ⟨by omega, hap, by simp; omega, by rw [List.take_append_of_le_length hv1]; exact hv2, by simpa using hg'⟩, by omega, Sh.trim (L := [some [ci 0, .v (.slice none 0 0), .v (.slice none 0 0)], some [ci 0, .v (.slice none 0 0), .sl tk 8 (l.map secC)]]) (by simp -implicitDefEqProofs [go_sem]) ?_ hokH (hok2 _ (by simp; omega)) (by simp; omega) (by simp) (List.take_of_length_le (Nat.le_refl _))⟩
        rw [okL] at hok
        simp only [TOk_cons, TOk_nil]
        exact ⟨okV_mono (by omega) (by simp; omega) hok.1, by simp -implicitDefEqProofs [go_sem], by simp -implicitDefEqProofs [go_sem], by simp -implicitDefEqProofs [go_sem], okV_mono (by omega) (by simp; omega) hok.1, by simp -implicitDefEqProofs [go_sem], by simp -implicitDefEqProofs [go_sem], trivial⟩
      · simp -implicitDefEqProofs [go_sem, secC_drop4, hv]
        have hkv := (List.getElem?_eq_some_iff.1 hv).1
        have hap : ApB V.length (dataS (l.take (i + 1))) (.sl (.own k (v + 1)) 1 (bs (dataS (l.take i) ++ l[i].val.drop 4))) (V'.set k (v + 1)) := .inr ⟨k, v + 1, by rw [dataS_succ _ _ h8], by rw [List.getElem?_set_self hkv], hk⟩
        refine ⟨by rw [l[i].len, dataS_len, List.length_take]; omega, Wp.s ?_⟩
        simp -implicitDefEqProofs [go_sem, wrap_succ (show i ≤ 1000000000 by omega)]
        refine ⟨i + 1, _, V'.set k (v + 1), ⟨by omega, hap, by simpa using hv1, by rw [List.take_set_of_le hk]; exact hv2, by simpa using hg'⟩, by omega, Sh.trim (L := [some [ci 0, .v (.slice none 0 0), .v (.slice none 0 0)], some [ci 0, .v (.slice none 0 0), .sl tk 8 (l.map secC)]]) (by simp -implicitDefEqProofs [go_sem]) ?_ hokH (hok2 _ (by simpa using hv1)) (by simpa using hv1) (by simp) (List.take_of_length_le (Nat.le_refl _))⟩
        rw [okL] at hok
        simp only [TOk_cons, TOk_nil]
        exact ⟨okV_mono (by omega) (by simpa using hv1) hok.1, by simp -implicitDefEqProofs [go_sem], by simp -implicitDefEqProofs [go_sem], by simp -implicitDefEqProofs [go_sem, hkv], okV_mono (by omega) (by simpa using hv1) hok.1, by simp -implicitDefEqProofs [go_sem], by simp -implicitDefEqProofs [go_sem], trivial⟩
    · rintro ⟨cv, V'⟩ ⟨⟨k, v, rfl, hv, hk⟩, hv1, hv2, hg⟩
      dsimp only
      have hdl : (dataS l).length = 32 := by rw [dataS_len, hl]
      have hd0 : (dataS l).getD 0 0 = (dataS l)[0] := by rw [List.getD_eq_getElem?_getD, List.getElem?_eq_getElem (by omega)]; rfl
      have hg1 : gn l[0] = g0 l := by rw [g0, h0]
      refine SWp.seq (Wp.s ?_)
      simp -implicitDefEqProofs [go_sem, hdl]
      generalize hm : (dataS l)[0].toNat = m at *
      refine SWp.seq (Wp.s ?_)
      by_cases h31 : 31 < m
      · have hp : parseS l = (0, []) := by
          rw [parseS, if_neg]
          intro hv
          rw [valid, Bool.and_eq_true, okData, hd0, hm, Bool.and_eq_true, decide_eq_true_eq] at hv
          omega
        have hmw : IntKind.i64.wrap (m : Int) = m := by
          have := (dataS l)[0].toNat_lt
          exact IntWalk.i64_in _ ⟨by omega, by omega⟩
        simp -implicitDefEqProofs [go_sem, hmw, show (31 : Int) < m by omega]
        exact inv _ [] V' hp hv1 hv2 (by simp -implicitDefEqProofs [go_sem])
      have hmw : IntKind.i64.wrap (m : Int) = m := IntWalk.i64_in _ ⟨by omega, by omega⟩
      have hm1 := wrap_succ (show m ≤ 1000000000 by omega)
      simp -implicitDefEqProofs [go_sem, hmw, hm1, show ¬ (31 : Int) < m by omega, hdl]
      refine ⟨by omega, by omega, CC.mono (sTrimRight_cc _ _ _ _ (by rw [List.length_drop]; omega)) ?_⟩
      rintro _ _ _ ⟨q, hq1, rfl, hq, rfl, rfl⟩
      have hql : (((dataS l).drop (m + 1)).take q).length = q := by rw [List.length_take]; omega
      simp -implicitDefEqProofs [go_sem, hql]
      refine ⟨fun hq0 => ?_, fun hq0 => ?_⟩
      · have hp : parseS l = (0, []) := by
          rw [parseS, if_neg]
          intro hv
          rw [valid, Bool.and_eq_true, okData, hd0, hm, Bool.and_eq_true] at hv
          have hz := hv.2.2
          rw [← zs] at hz
          rw [hz] at hq
          simp at hq; omega
        exact inv _ [] V' hp hv1 hv2 (by simp -implicitDefEqProofs [go_sem])
      · have hz : zs ((dataS l).drop (m + 1)) = true := by
          rcases hz : zs ((dataS l).drop (m + 1)) with - | -
          · rw [hz] at hq; simp at hq; omega
          · rfl
        have hp : parseS l = (g0 l, ((dataS l).drop 1).take m) := by
          rw [parseS, if_pos, pay, hd0, hm]
          rw [valid, hg, okData, hd0, hm]
          simp only [Bool.true_and, Bool.and_eq_true, decide_eq_true_eq]
          exact ⟨by omega, hz⟩
        refine SWp.seq (SWp.drawnT [] [10, 13] (.s 0 .pl <| .s 1 .pl <| .s 2 .ld <| .s 4 .pl <| .s 5 .pl <| .s 6 .pl <| .s 7 .pl <| .s 3 .pl <| .s 8 .pl <| .s 9 .pl <| .s 10 .st <| .s 11 .pl <| .s 12 .pl <| .s 13 .st <| .n) (by kernel_rfl) (by kernel_rfl) ?_)
        simp -implicitDefEqProofs [go_sem, hl, hm1, hdl]
        refine ⟨by omega, by omega, CC.mono (sgeneration_cc _ _ _) ?_⟩
        rintro _ _ _ ⟨rfl, rfl, rfl⟩
        simp -implicitDefEqProofs [go_sem]
        have et : (bs ((dataS l).take (m + 1))).tail = bs (((dataS l).drop 1).take m) := by
          rw [← List.drop_one, bs_drop, List.drop_take, Nat.add_sub_cancel]
        refine Wp.s ?_
        simp -implicitDefEqProofs [go_sem]
        refine ⟨.sl .sh 1 (bs ((dataS l).take (m + 1))).tail, V', ⟨.of_eq (by rw [et, hp]), rfl, hv1, hv2⟩, Sh.forget (by simp -implicitDefEqProofs [go_sem]) ?_ rfl⟩
        rw [hp, hg1]
  · rintro ⟨pv, V'⟩ ⟨h1, h2, h3, h4⟩
    dsimp only
    refine SWp.seq (Wp.s ?_)
    simp -implicitDefEqProofs [go_sem, h2]
    refine Wp.s ?_
    simp -implicitDefEqProofs [go_sem]
    refine Fin.pu (.agg (.cons (.refl _) (.cons h1 (.cons (.sh _ _ _) .nil)))) ?_ hokH (by simp) h4
    rw [okV_agg, okL, okL, okL, okL]
    exact ⟨by rw [okV]; trivial, by rw [okV_sh, okBs_t]; trivial, okV_secsV _ _ _, trivial⟩
end Go.Proofs.YtbnkggbpocaaiaaGreatDoor
namespace Go.Proofs.YtbnkggbpocaaiaaGreatDoor
open Go.Proofs
theorem sparse_cc (H : Hp) (V : List Nat) (tk : Tk) (l : List Sec) (hl : l.length = 8) : CC Tryz.prog 203 [.sl tk 8 (l.map secC)] H V (Pu (.tup [.sl .sh 1 (bs (parseS l).2), .v (.int .u32 (parseS l).1)]) H V) := by
  refine CC.of_swp Tryz.func203 rfl (by kernel_rfl) (by rw [Tryz.ntmps203]; exact len_le _ _ rfl) fun hok hokH => ?_
  have h0 : l.getD 0 sec0 = l[0] := by rw [List.getD_eq_getElem?_getD, List.getElem?_eq_getElem (by omega)]; rfl
  have hg1 : gn l[0] = g0 l := by rw [g0, h0]
  have bad : ∀ {H' : Hp} {V' : List Nat}, parseS l = (0, []) → H'.take H.length = H → V'.take V.length = V → Fin H.length V.length (Pu (.tup [.sl .sh 1 (bs (parseS l).2), .v (.int .u32 (parseS l).1)]) H V) (.tup [.v (.slice none 0 0), .v (.int .u32 0)]) H' V' := fun h1 h2 h3 => by
    rw [h1]
    exact Fin.tup2 (.nil 1 (by decide)) (.refl _) (by rw [okV_sh, okBs_t]; trivial) (by rw [okV]; trivial) hokH h2 h3
  refine SWp.seq (Wp.s ?_)
  simp -implicitDefEqProofs [go_sem, args0]
  refine SWp.seq (Wp.s ?_)
  simp -implicitDefEqProofs [go_sem, hl]
  refine CC.mono (sGeneration_cc _ _ _) ?_
  rintro _ _ _ ⟨rfl, rfl, rfl⟩
  simp -implicitDefEqProofs [go_sem]
  refine SWp.seq (Wp.s ?_)
  simp -implicitDefEqProofs [go_sem]
  refine SWp.join (α := CV × List Nat) (fun x => ([(4, .v (.int .u32 (g0 l))), (5, x.1)], H, x.2))
      (fun x => (∃ k v, x.1 = .sl (.own k v) 1 (bs (dataS l)) ∧ x.2[k]? = some v ∧ V.length ≤ k) ∧ V.length ≤ x.2.length ∧ x.2.take V.length = V ∧ l.all (fun s => gn s == g0 l) = true) ?_ ?_
  · refine SWp.seq (Wp.s ?_)
    simp -implicitDefEqProofs [go_sem]
    refine SWp.block ?_
    refine SWp.loop (α := Nat × CV × List Nat) (fun x => ([(0, .sl tk 8 (l.map secC)), (4, .v (.int .u32 (g0 l))), (5, x.2.1), (6, ci x.1)], H, x.2.2))
      (fun x => x.1 ≤ 8 ∧ ApB V.length (dataS (l.take x.1)) x.2.1 x.2.2 ∧ V.length ≤ x.2.2.length ∧ x.2.2.take V.length = V ∧ (l.take x.1).all (fun s => gn s == g0 l) = true) (fun x => 8 - x.1) (0, .v (.slice none 0 0), V) ⟨by omega, .inl ⟨rfl, rfl⟩, Nat.le_refl _, by simp, rfl⟩ (Sh.forget (by simp -implicitDefEqProofs [go_sem, hg1]) rfl rfl) ?_
    rintro ⟨i, cv, V'⟩ ⟨hi, ha, hv1, hv2, hg⟩
    dsimp only at hi ha hv1 hv2 hg ⊢
    refine SWp.seq (Wp.s ?_)
    simp -implicitDefEqProofs [go_sem, hl]
    refine ⟨fun h => ?_, fun h => ?_⟩
    case refine_2 =>
      obtain rfl : i = 8 := by omega
      rw [List.take_of_length_le (by omega)] at ha hg
      rcases ha with ⟨rfl, he⟩ | ⟨k, v, rfl, hv, hk⟩
      · have := congrArg List.length he
        rw [dataS_len] at this; simp at this; omega
      · exact ⟨_, V', ⟨⟨k, v, rfl, hv, hk⟩, hv1, hv2, by simpa using hg⟩, Sh.forget (by simp -implicitDefEqProofs [go_sem]) rfl rfl⟩
    have h8 : i < l.length := by omega
    refine SWp.seq (SWp.block (SWp.seq (Wp.s ?_)))
    simp -implicitDefEqProofs [go_sem, h8]
    refine CC.mono (sGeneration_cc _ _ _) ?_
    rintro _ _ _ ⟨rfl, rfl, rfl⟩
    by_cases hgi : gn l[i] = g0 l
    case neg =>
      have hp : parseS l = (0, []) := by
        rw [parseS, if_neg]
        intro hv
        rw [valid, Bool.and_eq_true] at hv
        have := List.all_eq_true.1 hv.1 _ (List.getElem_mem h8)
        exact hgi (by simpa using this)
      simp -implicitDefEqProofs [go_sem, show ¬ ((gn l[i] : Int) = g0 l) by omega]
      exact bad hp (by simp) hv2
    simp -implicitDefEqProofs [go_sem, hgi]
    have hg' : (l.take (i + 1)).all (fun s => gn s == g0 l) = true := by
      rw [List.take_succ_eq_append_getElem h8, List.all_append, hg]
      simp [hgi]
    refine Wp.s ?_
    rcases ha with ⟨rfl, he⟩ | ⟨k, v, rfl, hv, hk⟩
    · simp -implicitDefEqProofs [go_sem, secC_drop4, h8]
      have hap : ApB V.length (dataS (l.take (i + 1))) (.sl (.own V'.length 0) 1 (bs (l[i].val.drop 4))) (V' ++ [0]) := .inr ⟨V'.length, 0, by rw [dataS_succ _ _ h8, he]; rfl, by simp, hv1⟩
      refine ⟨by rw [l[i].len]; omega, Wp.s ?_⟩
      simp -implicitDefEqProofs [go_sem, wrap_succ (show i ≤ 1000000000 by omega)]
      exact ⟨i + 1, _, V' ++ [0], ⟨by omega, hap, by simp; omega, by rw [List.take_append_of_le_length hv1]; exact hv2, by simpa using hg'⟩, by omega, Sh.forget (by simp -implicitDefEqProofs [go_sem]) rfl rfl⟩
    · simp -implicitDefEqProofs [go_sem, secC_drop4, hv, h8]
      have hkv := (List.getElem?_eq_some_iff.1 hv).1
      have hap : ApB V.length (dataS (l.take (i + 1))) (.sl (.own k (v + 1)) 1 (bs (dataS (l.take i) ++ l[i].val.drop 4))) (V'.set k (v + 1)) := .inr ⟨k, v + 1, by rw [dataS_succ _ _ h8], by rw [List.getElem?_set_self hkv], hk⟩
      refine ⟨by rw [l[i].len, dataS_len, List.length_take]; omega, Wp.s ?_⟩
      simp -implicitDefEqProofs [go_sem, wrap_succ (show i ≤ 1000000000 by omega)]
      exact ⟨i + 1, _, V'.set k (v + 1), ⟨by omega, hap, by simpa using hv1, by rw [List.take_set_of_le hk]; exact hv2, by simpa using hg'⟩, by omega, Sh.forget (by simp -implicitDefEqProofs [go_sem]) rfl rfl⟩
  · rintro ⟨cv, V'⟩ ⟨⟨k, v, rfl, hv, hk⟩, hv1, hv2, hg⟩
    dsimp only
    have hdl : (dataS l).length = 32 := by rw [dataS_len, hl]
    have hd0 : (dataS l).getD 0 0 = (dataS l)[0] := by rw [List.getD_eq_getElem?_getD, List.getElem?_eq_getElem (by omega)]; rfl
    refine SWp.seq (Wp.s ?_)
    simp -implicitDefEqProofs [go_sem, hdl]
    have hmlt := (dataS l)[0].toNat_lt
    generalize hm : (dataS l)[0].toNat = m at *
    have hmw : IntKind.i64.wrap (m : Int) = m := IntWalk.i64_in _ ⟨by omega, by omega⟩
    rw [hmw]
    refine SWp.seq (Wp.s ?_)
    simp -implicitDefEqProofs [go_sem]
    refine CC.mono (scap2_cc _ _) ?_
    rintro _ _ _ ⟨rfl, rfl, rfl⟩
    by_cases h31 : 31 < m
    · have hp : parseS l = (0, []) := by
        rw [parseS, if_neg]
        intro hv
        rw [valid, Bool.and_eq_true, okData, hd0, hm, Bool.and_eq_true, decide_eq_true_eq] at hv
        omega
      simp -implicitDefEqProofs [go_sem, hmw, show (31 : Int) < m by omega]
      exact bad hp (by simp) hv2
    have hm1 := wrap_succ (show m ≤ 1000000000 by omega)
    simp -implicitDefEqProofs [go_sem, hmw, hm1, show ¬ (31 : Int) < m by omega, hdl]
    have hgood : zs ((dataS l).drop (m + 1)) = true → parseS l = (g0 l, ((dataS l).drop 1).take m) := fun hz => by
      rw [parseS, if_pos, pay, hd0, hm]
      rw [valid, hg, okData, hd0, hm]
      simp only [Bool.true_and, Bool.and_eq_true, decide_eq_true_eq]
      exact ⟨by omega, hz⟩
    have hbad : zs ((dataS l).drop (m + 1)) = false → parseS l = (0, []) := fun hz => by
      rw [parseS, if_neg]
      intro hv
      rw [valid, Bool.and_eq_true, okData, hd0, hm, Bool.and_eq_true] at hv
      have := hv.2.2
      rw [← zs, hz] at this; cases this
    refine SWp.join (α := Unit) (fun x => ([(4, .v (.int .u32 (g0 l))), (5, .sl (.own k v) 1 (bs (dataS l))), (7, ci m)], H, V')) (fun x => zs ((dataS l).drop (m + 1)) = true) ?_ ?_
    · refine SWp.seq (Wp.s ?_)
      simp -implicitDefEqProofs [go_sem, hm1]
      refine SWp.block ?_
      refine SWp.loop (α := Nat) (fun i => ([(4, .v (.int .u32 (g0 l))), (5, .sl (.own k v) 1 (bs (dataS l))), (7, ci m), (8, ci i)], H, V')) (fun i => i ≤ 32 ∧ zs ((dataS l).drop (m + 1)) = zs ((dataS l).drop i)) (fun i => 32 - i) (m + 1) ⟨by omega, rfl⟩ (Sh.forget (by simp -implicitDefEqProofs [go_sem]) rfl rfl) ?_
      rintro i ⟨hi, hz⟩
      dsimp only
      refine SWp.seq (Wp.s ?_)
      simp -implicitDefEqProofs [go_sem, hdl]
      refine ⟨fun h => ?_, fun h => ?_⟩
      case refine_2 =>
        obtain rfl : i = 32 := by omega
        exact ⟨by rw [hz, List.drop_of_length_le (by omega)]; rfl, Sh.forget (by simp -implicitDefEqProofs [go_sem]) rfl rfl⟩
      have hil : i < (dataS l).length := by omega
      refine SWp.seq (SWp.block (SWp.seq (Wp.s ?_)))
      simp -implicitDefEqProofs [go_sem, hil]
      have hdr : (dataS l).drop i = (dataS l)[i] :: (dataS l).drop (i + 1) := List.drop_eq_getElem_cons hil
      refine Wp.s ?_
      by_cases hx : (dataS l)[i] = 0
      · have hz' : zs ((dataS l).drop (m + 1)) = zs ((dataS l).drop (i + 1)) := by
          rw [hz, hdr, zs, List.all_cons, hx]; rfl
        simp -implicitDefEqProofs [go_sem, hx]
        refine Wp.s ?_
        simp -implicitDefEqProofs [go_sem, wrap_succ (show i ≤ 1000000000 by omega)]
        exact ⟨i + 1, ⟨by omega, hz'⟩, by omega, Sh.forget (by simp -implicitDefEqProofs [go_sem]) rfl rfl⟩
      · have hz' : zs ((dataS l).drop (m + 1)) = false := by
          rw [hz, hdr, zs, List.all_cons]
          have : ((dataS l)[i] == 0) = false := by simpa using hx
          rw [this]; rfl
        have hx' : ¬ (dataS l)[i].toNat = 0 := fun e => hx (UInt8.toNat_inj.1 e)
        simp -implicitDefEqProofs [go_sem, hx']
        exact bad (hbad hz') (by simp) hv2
    · rintro _ hz
      dsimp only
      refine Wp.s ?_
      simp -implicitDefEqProofs [go_sem, hm1, hdl]
      rw [hgood hz]
      refine ⟨by omega, by omega, Fin.tup2 ?_ (.refl _) (by rw [okV_sh, okBs_t]; trivial) (by rw [okV]; trivial) hokH (by simp) hv2⟩
      refine .of_eq ?_
      rw [← List.drop_one, bs_drop, List.drop_take, Nat.add_sub_cancel]
end Go.Proofs.YtbnkggbpocaaiaaGreatDoor
namespace Go.Proofs.YtbnkggbpocaaiaaGreatDoor
open Go.Proofs
def repC (c : Nat × List UInt8) (l : List Sec) : List CV := [ci c.1, .sl .sh 1 (bs c.2), secsV l]
def bothC (l : List Sec) : List CV := repC (cA l) (l.take 8) ++ repC (cB l) (l.drop 8)
def findV (d : Dk) (a : Int) : CV :=
  if findE d a ≠ 0 then .tup [.agg (repC (0, []) [] ++ repC (0, []) []), ci 0, er (findE d a)] else
  if (best (findL d a)).1 = 0 then .tup [.agg (bothC (findL d a)), ci 0, er 9] else .tup [.agg (bothC (findL d a)), ci (new1 (findL d a)), er 0]
theorem okL_repC (i j : Nat) (c : Nat × List UInt8) (l : List Sec) : okL i j (repC c l) := by
  rw [repC, okL, okL, okL, okL]
  exact ⟨by rw [okV]; trivial, by rw [okV_sh, okBs_t]; trivial, okV_secsV _ _ _, trivial⟩
theorem okL_app {i j : Nat} : ∀ {a b : List CV}, okL i j a → okL i j b → okL i j (a ++ b)
  | [], b, _, h => h
  | x :: a, b, h, g => by rw [okL] at h; rw [List.cons_append, okL]; exact ⟨h.1, okL_app h.2 g⟩
theorem okV_findV (i j : Nat) (d : Dk) (a : Int) : okV i j (findV d a) := by
  have h : ∀ (c : List CV) (x : Int) (e : Nat), okL i j c → okV i j (.tup [.agg c, ci x, er e]) := fun c x e hc => by
    rw [okV, okL, okL, okL, okL, okV_agg]
    exact ⟨hc, by rw [okV]; trivial, okV_er _ _ _, trivial⟩
  unfold findV
  split
  · exact h _ _ _ (okL_app (okL_repC _ _ _ _) (okL_repC _ _ _ _))
  · split <;> exact h _ _ _ (okL_app (okL_repC _ _ _ _) (okL_repC _ _ _ _))
theorem findL_len {d : Dk} {a : Int} (h : findE d a = 0) : (findL d a).length = 16 := by
  unfold findE at h
  unfold findL
  unfold readD at *
  split at h
  · rename_i h1; exact absurd h h1
  · split at h
    · cases h
    · rename_i h1 h2
      rw [if_neg h1, if_neg h2]
      have hq : insideB d a 16 = true := by simpa using h2
      simp only [insideB, Bool.and_eq_true, decide_eq_true_eq] at hq
      rw [List.length_take, List.length_drop, newestD_len]
      have : (16 : Int).toNat = 16 := rfl
      omega
theorem parseS_lt (l : List Sec) : (parseS l).1 < 4294967296 := by
  unfold parseS; split
  · exact gn_lt _
  · omega
theorem sfind_cc (H : Hp) (V : List Nat) (d : Dk) (a : Int) (hl : DkS d) : CC Tryz.prog 180 [.agg (dkC d), ci a] H V (Pu (findV d a) H V) := by
  refine CC.of_swp Tryz.func180 rfl (by kernel_rfl) (by rw [Tryz.ntmps180]; exact len_le _ _ rfl) fun hok hokH => ?_
  clear hok
  refine SWp.seq (Wp.s ?_)
  simp -implicitDefEqProofs [go_sem, args0]
  refine SWp.seq (Wp.s ?_)
  simp -implicitDefEqProofs [go_sem]
  refine CC.mono (show CC Tryz.prog 29 _ _ _ (Pu (.tup [secsV (findL d a), er (findE d a)]) _ _) from sRead_cc _ _ d ⟨a, 16⟩ hl) ?_
  rintro _ _ _ ⟨rfl, rfl, rfl⟩
  simp -implicitDefEqProofs [go_sem]
  refine SWp.seq (Wp.s ?_)
  simp -implicitDefEqProofs [go_sem]
  refine ⟨fun he => ?_, fun he => ?_⟩
  · rw [findV, if_pos he]
    exact Fin.pu (.tup (.cons (.agg (.cons (.refl _) (.cons (.nil 1 (by decide)) (.cons (.nil 8 (by decide)) (.cons (.refl _) (.cons (.nil 1 (by decide)) (.cons (.nil 8 (by decide)) .nil))))))) (.cons (.refl _) (.cons (.refl _) .nil))))
      (by have := okV_findV H.length V.length d a; rwa [findV, if_pos he] at this) hokH (by simp) (by simp)
  have hl16 := findL_len he
  have hV : findV d a = if (best (findL d a)).1 = 0 then .tup [.agg (bothC (findL d a)), ci 0, er 9] else .tup [.agg (bothC (findL d a)), ci (new1 (findL d a)), er 0] := by rw [findV, if_neg (by simpa using he)]
  have hokV := okV_findV H.length V.length d a
  generalize findL d a = l at *
  refine SWp.seq (SWp.drawnT [] [8] (.s 0 .pl <| .s 1 .pl <| .s 3 .pl <| .s 4 .pl <| .c 2 <| .c 5 <| .s 6 .pl <| .s 7 .pl <| .s 8 .st <| .n) (by kernel_rfl) (by kernel_rfl) ?_)
  simp -implicitDefEqProofs [go_sem, hl16]
  refine ⟨.agg (repC (cA l) (l.take 8)), fun H V => ?_, ?_⟩
  · show CC Tryz.prog 202 [.sl .sh 8 ((l.map secC).take 8)] H V _
    rw [← List.map_take]
    exact sget_cc H V .sh (l.take 8) (by rw [List.length_take]; omega)
  simp -implicitDefEqProofs [go_sem]
  refine ⟨.agg (repC (cB l) (l.drop 8)), fun H V => ?_, ?_⟩
  · show CC Tryz.prog 202 [.sl .sh 8 ((l.map secC).drop 8)] H V _
    rw [← List.map_drop]
    exact sget_cc H V .sh (l.drop 8) (by rw [List.length_drop]; omega)
  simp -implicitDefEqProofs [go_sem, repC]
  refine SWp.seq (Wp.s ?_)
  simp -implicitDefEqProofs [go_sem]
  rw [hV] at hokV
  rw [hV]
  refine SWp.seq (Wp.s ?_)
  by_cases hlt : (cA l).1 < (cB l).1
  · have hb : (best l).1 = (cB l).1 := by rw [best, if_pos hlt]
    have hn : new1 l = 1 := by rw [new1, if_pos hlt]
    have h0 : ¬ (cB l).1 = 0 := by omega
    rw [hb, if_neg h0, hn] at hokV
    rw [hb, if_neg h0, hn]
    simp -implicitDefEqProofs [go_sem, show ((cA l).1 : Int) < (cB l).1 by omega]
    refine SWp.seq (Wp.s ?_)
    simp -implicitDefEqProofs [go_sem, h0]
    refine Wp.s ?_
    simp -implicitDefEqProofs [go_sem]
    exact Fin.pu (.refl _) hokV hokH (by simp) (by simp)
  · have hb : (best l).1 = (cA l).1 := by rw [best, if_neg hlt]
    have hn : new1 l = 0 := by rw [new1, if_neg hlt]
    rw [hb, hn] at hokV
    rw [hb, hn]
    simp -implicitDefEqProofs [go_sem, show ¬ ((cA l).1 : Int) < (cB l).1 by omega]
    refine SWp.seq (Wp.s ?_)
    by_cases h0 : (cA l).1 = 0
    · rw [if_pos h0] at hokV
      rw [if_pos h0]
      simp -implicitDefEqProofs [go_sem, h0]
      refine Fin.pu (.of_eq ?_) hokV hokH (by simp) (by simp)
      simp [bothC, repC, h0]
    · rw [if_neg h0] at hokV
      rw [if_neg h0]
      simp -implicitDefEqProofs [go_sem, h0]
      refine Wp.s ?_
      simp -implicitDefEqProofs [go_sem]
      exact Fin.pu (.refl _) hokV hokH (by simp) (by simp)
end Go.Proofs.YtbnkggbpocaaiaaGreatDoor
namespace Go.Proofs.YtbnkggbpocaaiaaGreatDoor
open Go.Proofs
def rfV (l : List Sec) (n : Nat) (c : Nat × List UInt8) (e : Nat) : CV := .tup [secsV l, ci n, .sl .sh 1 (bs c.2), .v (.int .u32 c.1), er e]
def rfindV (d : Dk) (a : Int) : CV :=
  if findE d a ≠ 0 then rfV [] 0 (0, []) (findE d a) else if (best (findL d a)).1 = 0 then rfV [] 0 (0, []) 9 else rfV (findL d a) (new1 (findL d a)) (best (findL d a)) 0
theorem okV_rfV (i j : Nat) (l : List Sec) (n : Nat) (c : Nat × List UInt8) (e : Nat) : okV i j (rfV l n c e) := by
  rw [rfV, okV, okL, okL, okL, okL, okL, okL]
  exact ⟨okV_secsV _ _ _, by rw [okV]; trivial, by rw [okV_sh, okBs_t]; trivial, by rw [okV]; trivial, okV_er _ _ _, trivial⟩
theorem srfind_cc (H : Hp) (V : List Nat) (d : Dk) (a : Int) (hl : DkS d) : CC Tryz.prog 182 [.agg (dkC d), ci a] H V (Pu (rfindV d a) H V) := by
  refine CC.of_swp Tryz.func182 rfl (by kernel_rfl) (by rw [Tryz.ntmps182]; exact len_le _ _ rfl) fun hok hokH => ?_
  clear hok
  have bad : ∀ (e : Nat) {H' : Hp} {V' : List Nat}, rfindV d a = rfV [] 0 (0, []) e → H'.take H.length = H → V'.take V.length = V → Fin H.length V.length (Pu (rfindV d a) H V) (.tup [.v (.slice none 0 0), .v (.int .i64 0), .v (.slice none 0 0), .v (.int .u32 0), er e]) H' V' := fun e H' V' h1 h2 h3 => by
    rw [h1]
    exact Fin.pu (.tup (.cons (.nil 8 (by decide)) (.cons (.refl _) (.cons (.nil 1 (by decide)) (.cons (.refl _) (.cons (.refl _) .nil)))))) (okV_rfV _ _ _ _ _ _) hokH h2 h3
  have hl1 := hl.1
  refine SWp.seq (Wp.s ?_)
  simp -implicitDefEqProofs [go_sem, args0]
  refine SWp.seq (Wp.s ?_)
  simp -implicitDefEqProofs [go_sem]
  refine CC.mono (srCheck_cc _ _ d hl) ?_
  rintro _ _ _ ⟨rfl, rfl, rfl⟩
  simp -implicitDefEqProofs [go_sem]
  refine ⟨fun hc => ?_, fun hc => ?_⟩
  · have he : findE d a = checkD d := by rw [findE, readD, if_pos hc]
    exact bad (checkD d) (by rw [rfindV, he, if_pos hc]) (by simp) (by simp)
  refine SWp.seq (Wp.s ?_)
  have out : ∀ {H' : Hp} {V' : List Nat}, insideB d a 16 = false → H'.take H.length = H → V'.take V.length = V → Fin H.length V.length (Pu (rfindV d a) H V) (.tup [.v (.slice none 0 0), .v (.int .i64 0), .v (.slice none 0 0), .v (.int .u32 0), .v (.int .i64 2)]) H' V' := fun h1 h2 h3 => by
    have he : findE d a = 2 := by rw [findE, readD, if_neg (by simp [hc]), if_pos h1]
    exact bad 2 (by rw [rfindV, he, if_pos (by decide)]) h2 h3
  by_cases h1 : a < 0
  · simp -implicitDefEqProofs [go_sem, h1]
    exact out (inside_f (.inl h1)) (by simp) (by simp)
  by_cases h2 : (d.stable.length : Int) - 16 < a
  · simp -implicitDefEqProofs [go_sem, h1, h2, IntWalk.i64_in ((d.stable.length : Int) - 16) ⟨by omega, by omega⟩]
    exact out (inside_f (by omega)) (by simp) (by simp)
  simp -implicitDefEqProofs [go_sem, h1, h2, IntWalk.i64_in ((d.stable.length : Int) - 16) ⟨by omega, by omega⟩]
  have he : findE d a = 0 := by
    rw [findE, readD, if_neg (by simp [hc]), if_neg]
    rw [Bool.not_eq_false]
    simp only [insideB, Bool.and_eq_true, decide_eq_true_eq]
    omega
  have hl16 := findL_len he
  have hV : rfindV d a = if (best (findL d a)).1 = 0 then rfV [] 0 (0, []) 9 else rfV (findL d a) (new1 (findL d a)) (best (findL d a)) 0 := by rw [rfindV, if_neg (by simpa using he)]
  refine SWp.seq (Wp.s ?_)
  simp -implicitDefEqProofs [go_sem]
  refine CC.mono (show CC Tryz.prog 99 _ _ _ (Pu (.tup [secsV (findL d a), er (findE d a)]) _ _) from srRead_cc _ _ d ⟨a, 16⟩ hl) ?_
  rintro _ _ _ ⟨rfl, rfl, rfl⟩
  generalize findL d a = l at *
  simp -implicitDefEqProofs [go_sem]
  refine SWp.seq (Wp.s ?_)
  simp -implicitDefEqProofs [go_sem, hl16]
  rw [← List.map_take]
  refine CC.mono (sparse_cc _ _ .sh (l.take 8) (by rw [List.length_take]; omega)) ?_
  rintro _ _ _ ⟨rfl, rfl, rfl⟩
  simp -implicitDefEqProofs [go_sem]
  refine SWp.seq (Wp.s ?_)
  simp -implicitDefEqProofs [go_sem, hl16]
  rw [← List.map_drop]
  refine CC.mono (sparse_cc _ _ .sh (l.drop 8) (by rw [List.length_drop]; omega)) ?_
  rintro _ _ _ ⟨rfl, rfl, rfl⟩
  simp -implicitDefEqProofs [go_sem]
  rw [hV]
  have bad9 : ∀ {H' : Hp} {V' : List Nat}, H'.take H.length = H → V'.take V.length = V → (best l).1 = 0 → Fin H.length V.length (Pu (if (best l).1 = 0 then rfV [] 0 (0, []) 9 else rfV l (new1 l) (best l) 0) H V) (.tup [.v (.slice none 0 0), .v (.int .i64 0), .v (.slice none 0 0), .v (.int .u32 0), .v (.int .i64 9)]) H' V' := fun h2 h3 h => by
    rw [if_pos h]
    exact Fin.pu (.tup (.cons (.nil 8 (by decide)) (.cons (.refl _) (.cons (.nil 1 (by decide)) (.cons (.refl _) (.cons (.refl _) .nil)))))) (okV_rfV _ _ _ _ _ _) hokH h2 h3
  have good : ∀ {H' : Hp} {V' : List Nat} (n : Int) (c : Nat × List UInt8), H'.take H.length = H → V'.take V.length = V → n = new1 l → c = best l → c.1 ≠ 0 → Fin H.length V.length (Pu (if (best l).1 = 0 then rfV [] 0 (0, []) 9 else rfV l (new1 l) (best l) 0) H V) (.tup [secsV l, .v (.int .i64 n), .sl .sh 1 (bs c.2), .v (.int .u32 c.1), .v (.int .i64 0)]) H' V' := fun n c h2 h3 h4 h5 h => by
    subst h4 h5
    rw [if_neg h]
    exact Fin.pu (.refl _) (okV_rfV _ _ _ _ _ _) hokH h2 h3
  have hA : parseS (l.take 8) = cA l := rfl
  have hB : parseS (l.drop 8) = cB l := rfl
  have hbest : best l = if (cA l).1 < (cB l).1 then cB l else cA l := rfl
  have hnew : new1 l = if (cA l).1 < (cB l).1 then 1 else 0 := rfl
  rw [hA, hB]
  generalize cA l = A at *
  generalize cB l = B at *
  refine SWp.seq (Wp.s ?_)
  by_cases hz : A.1 = 0 ∧ B.1 = 0
  · simp -implicitDefEqProofs [go_sem, hz.1, hz.2]
    refine bad9 (by simp) (by simp) ?_
    rw [hbest]; split
    · exact hz.2
    · exact hz.1
  by_cases hlt : A.1 < B.1
  · rw [if_pos hlt] at hbest hnew
    have hB0 : ¬ B.1 = 0 := by omega
    by_cases hA0 : A.1 = 0
    · simp -implicitDefEqProofs [go_sem, hA0, hB0]
      refine SWp.seq (Wp.s ?_)
      simp -implicitDefEqProofs [go_sem, show 0 < B.1 by omega]
      exact good 1 B (by simp) (by simp) (by rw [hnew]; rfl) hbest.symm hB0
    · simp -implicitDefEqProofs [go_sem, hA0]
      refine SWp.seq (Wp.s ?_)
      simp -implicitDefEqProofs [go_sem, hlt]
      exact good 1 B (by simp) (by simp) (by rw [hnew]; rfl) hbest.symm hB0
  · rw [if_neg hlt] at hbest hnew
    have hA0 : ¬ A.1 = 0 := by omega
    simp -implicitDefEqProofs [go_sem, hA0]
    refine SWp.seq (Wp.s ?_)
    simp -implicitDefEqProofs [go_sem, hlt]
    refine Wp.s ?_
    simp -implicitDefEqProofs [go_sem]
    exact good 0 A (by simp) (by simp) (by rw [hnew]; rfl) hbest.symm hA0
end Go.Proofs.YtbnkggbpocaaiaaGreatDoor
namespace Go.Proofs.YtbnkggbpocaaiaaGreatDoor
open Go.Proofs
def ldV (x : List UInt8 × Nat × Nat) : CV := .tup [.sl .sh 1 (bs x.1), ci x.2.1, er x.2.2]
theorem okV_ldV (i j : Nat) (x : List UInt8 × Nat × Nat) : okV i j (ldV x) := by
  rw [ldV, okV, okL, okL, okL, okL]
  exact ⟨by rw [okV_sh, okBs_t]; trivial, by rw [okV]; trivial, okV_er _ _ _, trivial⟩
theorem best_eq (l : List Sec) : best l = if new1 l = 1 then cB l else cA l := by
  unfold best new1; split <;> rfl
theorem pay_len (l : List Sec) : (parseS l).2.length ≤ 256 := by
  unfold parseS; split
  · rw [pay, List.length_take]
    have := ((dataS l).getD 0 0).toNat_lt
    omega
  · exact Nat.zero_le _
theorem sLoad_cc (H : Hp) (V : List Nat) (d : Dk) (a : Int) (hl : DkS d) : CC Tryz.prog 183 [.agg (dkC d), ci a] H V (Pu (ldV (loadS d a)) H V) := by
  refine CC.of_swp Tryz.func183 rfl (by kernel_rfl) (by rw [Tryz.ntmps183]; exact len_le _ _ rfl) fun hok hokH => ?_
  clear hok
  have bad : ∀ (e : Nat) {H' : Hp} {V' : List Nat}, loadS d a = ([], 0, e) → H'.take H.length = H → V'.take V.length = V → Fin H.length V.length (Pu (ldV (loadS d a)) H V) (.tup [.v (.slice none 0 0), .v (.int .i64 0), er e]) H' V' := fun e H' V' h1 h2 h3 => by
    rw [h1]
    exact Fin.pu (.tup (.cons (.nil 1 (by decide)) (.cons (.refl _) (.cons (.refl _) .nil)))) (okV_ldV _ _ _) hokH h2 h3
  refine SWp.seq (Wp.s ?_)
  simp -implicitDefEqProofs [go_sem, args0]
  refine SWp.seq (Wp.s ?_)
  simp -implicitDefEqProofs [go_sem]
  refine CC.mono (sfind_cc _ _ d a hl) ?_
  rintro _ _ _ ⟨rfl, rfl, rfl⟩
  by_cases he : findE d a = 0
  case neg =>
    have hV : findV d a = .tup [.agg (repC (0, []) [] ++ repC (0, []) []), ci 0, er (findE d a)] := by rw [findV, if_pos he]
    rw [hV]
    simp -implicitDefEqProofs [go_sem, repC]
    refine Wp.s ?_
    simp -implicitDefEqProofs [go_sem, he]
    exact bad _ (by rw [loadS, if_pos he]) (by simp) (by simp)
  by_cases hb : (best (findL d a)).1 = 0
  · have hV : findV d a = .tup [.agg (bothC (findL d a)), ci 0, er 9] := by rw [findV, if_neg (by simpa using he), if_pos hb]
    rw [hV]
    simp -implicitDefEqProofs [go_sem, bothC, repC]
    refine Wp.s ?_
    simp -implicitDefEqProofs [go_sem]
    exact bad 9 (by rw [loadS, if_neg (by simpa using he), if_pos hb]) (by simp) (by simp)
  have hV : findV d a = .tup [.agg (bothC (findL d a)), ci (new1 (findL d a)), er 0] := by rw [findV, if_neg (by simpa using he), if_neg hb]
  have hL : loadS d a = ((best (findL d a)).2, (best (findL d a)).1, 0) := by rw [loadS, if_neg (by simpa using he), if_neg hb]
  rw [hV, hL]
  clear bad hV hL hb
  generalize findL d a = l at *
  simp -implicitDefEqProofs [go_sem, bothC, repC]
  refine SWp.seq (Wp.s ?_)
  simp -implicitDefEqProofs [go_sem]
  refine SWp.seq (SWp.drawnL [0, 1, 2, 3, 4, 6, 7, 8, 9, 10, 5, 11, 12, 13] (by kernel_rfl) (by kernel_rfl) rfl ?_)
  have hn : new1 l = 1 ∨ new1 l = 0 := by unfold new1; split <;> simp
  have hbe := best_eq l
  rcases hn with hn | hn
  · rw [hn] at hbe
    rw [hn]
    simp -implicitDefEqProofs [go_sem]
    refine CC.mono (scloneBy_cc _ _ .sh _ (by rw [bs_len]; have : (cB l).2.length ≤ 256 := pay_len _; omega)) ?_
    rintro _ _ _ ⟨v, rfl, rfl, rfl⟩
    simp -implicitDefEqProofs [go_sem]
    refine Wp.s ?_
    simp -implicitDefEqProofs [go_sem]
    rw [hbe]
    exact Fin.pu (.tup (.cons (.sh _ _ _) (.cons (.refl _) (.cons (.refl _) .nil)))) (okV_ldV _ _ _) hokH (by simp) (by simp)
  · rw [hn] at hbe
    rw [hn]
    simp -implicitDefEqProofs [go_sem]
    refine CC.mono (scloneBy_cc _ _ .sh _ (by rw [bs_len]; have : (cA l).2.length ≤ 256 := pay_len _; omega)) ?_
    rintro _ _ _ ⟨v, rfl, rfl, rfl⟩
    simp -implicitDefEqProofs [go_sem]
    refine Wp.s ?_
    simp -implicitDefEqProofs [go_sem]
    rw [hbe]
    exact Fin.pu (.tup (.cons (.sh _ _ _) (.cons (.refl _) (.cons (.refl _) .nil)))) (okV_ldV _ _ _) hokH (by simp) (by simp)
theorem srLoad_cc (H : Hp) (V : List Nat) (d : Dk) (a : Int) (hl : DkS d) : CC Tryz.prog 189 [.agg (dkC d), ci a] H V (Pu (ldV (loadS d a)) H V) := by
  refine CC.of_swp Tryz.func189 rfl (by kernel_rfl) (by rw [Tryz.ntmps189]; exact len_le _ _ rfl) fun hok hokH => ?_
  clear hok
  refine SWp.seq (Wp.s ?_)
  simp -implicitDefEqProofs [go_sem, args0]
  refine SWp.seq (Wp.s ?_)
  simp -implicitDefEqProofs [go_sem]
  refine CC.mono (srfind_cc _ _ d a hl) ?_
  rintro _ _ _ ⟨rfl, rfl, rfl⟩
  have go : ∀ (l : List Sec) (n : Nat) (c : Nat × List UInt8) (e : Nat), rfindV d a = rfV l n c e → loadS d a = (c.2, c.1, e) → c.1 < 4294967296 → rfindV d a = rfV l n c e := fun _ _ _ _ h _ _ => h
  have key : ∃ (l : List Sec) (n : Nat) (c : Nat × List UInt8) (e : Nat), rfindV d a = rfV l n c e ∧ loadS d a = (c.2, c.1, e) ∧ c.1 < 4294967296 := by
    unfold rfindV loadS
    split
    · exact ⟨_, _, _, _, rfl, rfl, by decide⟩
    · split
      · exact ⟨_, _, _, _, rfl, rfl, by decide⟩
      · exact ⟨_, _, _, _, rfl, rfl, by
          unfold best; split <;> exact parseS_lt _⟩
  obtain ⟨l, n, c, e, h1, h2, h3⟩ := key
  rw [h1, h2]
  have w : IntKind.i64.wrap (c.1 : Int) = c.1 := IntWalk.i64_in _ ⟨by omega, by omega⟩
  simp -implicitDefEqProofs [go_sem, rfV]
  refine SWp.seq (Wp.s ?_)
  simp -implicitDefEqProofs [go_sem, w]
  refine Wp.s ?_
  simp -implicitDefEqProofs [go_sem]
  exact Fin.pu (.refl _) (okV_ldV _ _ (c.2, c.1, e)) hokH (by simp) (by simp)
end Go.Proofs.YtbnkggbpocaaiaaGreatDoor
namespace Go.Proofs.YtbnkggbpocaaiaaGreatDoor
open Go.Proofs
section
variable {n nb nv : Nat} {T T' : Tm} {H : Hp} {V : List Nat}
end
def stV (x : List Opn × Nat) : CV := .tup [opsV x.1, er x.2]
theorem okV_stV (i j : Nat) (x : List Opn × Nat) : okV i j (stV x) := by
  rw [stV, okV, okL, okL, okL, opsV, okV_sh, okE_ops]
  exact ⟨trivial, okV_er _ _ _, trivial⟩
theorem fmt_fin {H : Hp} {V : List Nat} {a : Int} {p : List UInt8} (hokH : ∀ (b : Nat) cs, H[b]? = some (some cs) → okL H.length V.length cs) :
    Fin H.length V.length (Pu (stV ([opW a (List.replicate 16 sec0), opS, opW a (copyS 1 p), opS], 0)) H V)
      (.tup [.sl .ti 3 [[.v (.int .i64 0), .v (.int .i64 a), .bsl H.length 0 16 8], [.v (.int .i64 1), .v (.int .i64 0), .v (.slice none 0 0)], [.v (.int .i64 0), .v (.int .i64 a), .sl .sh 8 ((copyS 1 p).map secC)], [.v (.int .i64 1), .v (.int .i64 0), .v (.slice none 0 0)]], .v (.int .i64 0)])
      (H ++ [some (List.replicate 16 [CV.v (.int .u8 0), CV.v (.int .u8 0), CV.v (.int .u8 0), CV.v (.int .u8 0), CV.v (.int .u8 0), CV.v (.int .u8 0), CV.v (.int .u8 0), CV.v (.int .u8 0)]).flatten]) V := by
  have hz0 : (List.replicate 16 [CV.v (.int .u8 0), CV.v (.int .u8 0), CV.v (.int .u8 0), CV.v (.int .u8 0), CV.v (.int .u8 0), CV.v (.int .u8 0), CV.v (.int .u8 0), CV.v (.int .u8 0)]).flatten = secsF (List.replicate 16 sec0) := zeros_secs 16
  have hch : chunks 8 16 ((secsF (List.replicate 16 sec0)).drop 0) = (List.replicate 16 sec0).map secC := by
    have := chunks_secs (List.replicate 16 sec0)
    rwa [List.length_replicate] at this
  rw [hz0]
  have n3 : LeL [.v (.int .i64 1), .v (.int .i64 0), .v (.slice none 0 0)] [.v (.int .i64 1), .v (.int .i64 0), secsV []] := .cons (.refl _) (.cons (.refl _) (.cons (.nil 8 (by decide)) .nil))
  have r3 : ∀ x y z : CV, LeL [x, y, z] [x, y, z] := fun x y z => .cons (.refl _) (.cons (.refl _) (.cons (.refl _) .nil))
  have f3 : ∀ x y z : CV, FyL H.length (secsF (List.replicate 16 sec0)) [x, y, z] [x, y, z] := fun x y z => .cons (.refl _) (.cons (.refl _) (.cons (.refl _) .nil))
  refine Fin.frozY (b := H.length) (cs := secsF (List.replicate 16 sec0))
    (r1 := .tup [.sl .sh 3 [[.v (.int .i64 0), .v (.int .i64 a), .bsl H.length 0 16 8], [.v (.int .i64 1), .v (.int .i64 0), secsV []], [.v (.int .i64 0), .v (.int .i64 a), .sl .sh 8 ((copyS 1 p).map secC)], [.v (.int .i64 1), .v (.int .i64 0), secsV []]], .v (.int .i64 0)])
    ⟨rfl, rfl, rfl⟩ (.tup (.cons (.sle _ _ (.cons (r3 _ _ _) (.cons n3 (.cons (r3 _ _ _) (.cons n3 .nil))))) (.cons (.refl _) .nil))) (by simp) ?_ (Nat.le_refl _) (okV_stV _ _ _) hokH (by simp) (by simp)
  refine .tup (.cons (.sl _ _ (.cons (.cons (.refl _) (.cons (.refl _) (.cons ?_ .nil))) (.cons (f3 _ _ _) (.cons (f3 _ _ _) (.cons (f3 _ _ _) .nil))))) (.cons (.refl _) .nil))
  show Fy _ _ _ (.sl .sh 8 ((List.replicate 16 sec0).map secC))
  rw [← hch]
  exact .bsl _ _ _ (by simp)
theorem sFormat_cc (H : Hp) (V : List Nat) (a : Int) (tk : Tk) (p : List UInt8) : CC Tryz.prog 108 [ci a, .sl tk 1 (bs p)] H V (Pu (stV (formatS a p)) H V) := by
  refine CC.of_swp Tryz.func108 rfl (by kernel_rfl) (by rw [Tryz.ntmps108]; exact len_le _ _ rfl) fun hok hokH => ?_
  clear hok
  have bad : ∀ (e : Nat) {H' : Hp} {V' : List Nat}, formatS a p = ([], e) → H'.take H.length = H → V'.take V.length = V → Fin H.length V.length (Pu (stV (formatS a p)) H V) (.tup [.v (.slice none 0 0), er e]) H' V' := fun e H' V' h1 h2 h3 => by
    rw [h1]
    exact Fin.pu (.tup (.cons (.nil 3 (by decide)) (.cons (.refl _) .nil))) (okV_stV _ _ _) hokH h2 h3
  refine SWp.seq (Wp.s ?_)
  simp -implicitDefEqProofs [go_sem, args0]
  refine SWp.seq (SWp.block (SWp.seq (Wp.s ?_)))
  by_cases h1 : a < 0
  · simp -implicitDefEqProofs [go_sem, h1]
    refine Wp.s ?_
    simp -implicitDefEqProofs [go_sem]
    exact bad 2 (by rw [formatS, if_pos (.inl h1)]) (by simp) (by simp)
  by_cases h2 : 4080 < a
  · simp -implicitDefEqProofs [go_sem, h1, h2]
    refine Wp.s ?_
    simp -implicitDefEqProofs [go_sem]
    exact bad 2 (by rw [formatS, if_pos (.inr h2)]) (by simp) (by simp)
  simp -implicitDefEqProofs [go_sem, h1, h2]
  refine Wp.s ?_
  by_cases h3 : 31 < p.length
  · simp -implicitDefEqProofs [go_sem, show (31 : Int) < p.length by omega]
    exact bad 5 (by rw [formatS, if_neg (by omega), if_pos h3]) (by simp) (by simp)
  simp -implicitDefEqProofs [go_sem, show ¬ (31 : Int) < p.length by omega]
  have hF : formatS a p = ([opW a (List.replicate 16 sec0), opS, opW a (copyS 1 p), opS], 0) := by rw [formatS, if_neg (by omega), if_neg h3]
  refine SWp.seq (SWp.drawnT [] [] (.s 0 .pl <| .s 3 .pl <| .s 4 .pl <| .s 5 .pl <| .s 9 .pl <| .c 6 <| .s 7 .pl <| .s 8 .pl <| .s 1 .pl <| .s 2 .pl <| .s 10 .pl <| .s 11 .pl <| .s 12 .pl <| .n) (by kernel_rfl) (by kernel_rfl) ?_)
  simp -implicitDefEqProofs [go_sem, -List.reduceReplicate]
  refine ⟨.agg [ci 1, .sl .sh 1 (bs p), secsV (copyS 1 p)], fun H V => sput_cc H V 1 tk p (by decide) (by omega), ?_⟩
  simp -implicitDefEqProofs [go_sem, -List.reduceReplicate]
  refine Wp.s ?_
  simp -implicitDefEqProofs [go_sem, -List.reduceReplicate]
  rw [hF]
  exact fmt_fin hokH
end Go.Proofs.YtbnkggbpocaaiaaGreatDoor
namespace Go.Proofs.YtbnkggbpocaaiaaGreatDoor
open Go.Proofs
def mxS (m : Nat) (l : List Sec) : Nat := l.foldl (fun m s => max m (gn s)) m
theorem mxS_take (m : Nat) (l : List Sec) (i : Nat) (h : i < l.length) : mxS m (l.take (i + 1)) = max (mxS m (l.take i)) (gn l[i]) := foldl_take_succ _ _ _ _ h
theorem mxS_app (m : Nat) (a b : List Sec) : mxS m (a ++ b) = mxS (mxS m a) b := List.foldl_append ..
theorem topS_eq (l : List Sec) : topS l = mxS 0 l := rfl
theorem mxS_lt : ∀ (l : List Sec) (m : Nat), m < 4294967296 → mxS m l < 4294967296
  | [], m, h => h
  | s :: l, m, h => mxS_lt l (max m (gn s)) (by have := gn_lt s; omega)
theorem imax (a b : Nat) : max (a : Int) (b : Int) = ((max a b : Nat) : Int) := by omega
theorem sto_fin {H H' : Hp} {V V' : List Nat} {b : Int} {s : List Sec} (hokH : ∀ (b : Nat) cs, H[b]? = some (some cs) → okL H.length V.length cs) (hH : H'.take H.length = H) (hV : V'.take V.length = V) :
    Fin H.length V.length (Pu (stV ([opW b s, opS], 0)) H V)
      (.tup [.sl .ti 3 [[.v (.int .i64 0), .v (.int .i64 b), .sl .sh 8 (s.map secC)], [.v (.int .i64 1), .v (.int .i64 0), .v (.slice none 0 0)]], .v (.int .i64 0)]) H' V' := by
  refine Fin.pu (.tup (.cons (.sle _ _ (.cons ?_ (.cons ?_ .nil))) (.cons (.refl _) .nil))) (okV_stV _ _ ([opW b s, opS], 0)) hokH hH hV
  · exact .cons (.refl _) (.cons (.refl _) (.cons (.refl _) .nil))
  · exact .cons (.refl _) (.cons (.refl _) (.cons (.nil 8 (by decide)) .nil))
theorem sStore_cc (H : Hp) (V : List Nat) (d : Dk) (a : Int) (tk : Tk) (p : List UInt8) (hl : DkS d) : CC Tryz.prog 142 [.agg (dkC d), ci a, .sl tk 1 (bs p)] H V (Pu (stV (storeS d a p)) H V) := by
  refine CC.of_swp Tryz.func142 rfl (by kernel_rfl) (by rw [Tryz.ntmps142]; exact len_le _ _ rfl) fun hok hokH => ?_
  have bad : ∀ (e : Nat) {H' : Hp} {V' : List Nat}, storeS d a p = ([], e) → H'.take H.length = H → V'.take V.length = V → Fin H.length V.length (Pu (stV (storeS d a p)) H V) (.tup [.v (.slice none 0 0), er e]) H' V' := fun e H' V' h1 h2 h3 => by
    rw [h1]
    exact Fin.pu (.tup (.cons (.nil 3 (by decide)) (.cons (.refl _) .nil))) (okV_stV _ _ _) hokH h2 h3
  refine SWp.seq (Wp.s ?_)
  simp -implicitDefEqProofs [go_sem, args0]
  refine SWp.seq (Wp.s ?_)
  simp -implicitDefEqProofs [go_sem]
  refine CC.mono (sfind_cc _ _ d a hl) ?_
  rintro _ _ _ ⟨rfl, rfl, rfl⟩
  by_cases he : findE d a = 0
  case neg =>
    have hV : findV d a = .tup [.agg (repC (0, []) [] ++ repC (0, []) []), ci 0, er (findE d a)] := by rw [findV, if_pos he]
    rw [hV]
    simp -implicitDefEqProofs [go_sem, repC]
    refine SWp.seq (Wp.s ?_)
    simp -implicitDefEqProofs [go_sem, he]
    exact bad _ (by rw [storeS, if_pos he]) (by simp) (by simp)
  by_cases hb : (best (findL d a)).1 = 0
  · have hV : findV d a = .tup [.agg (bothC (findL d a)), ci 0, er 9] := by rw [findV, if_neg (by simpa using he), if_pos hb]
    rw [hV]
    simp -implicitDefEqProofs [go_sem, bothC, repC]
    refine SWp.seq (Wp.s ?_)
    simp -implicitDefEqProofs [go_sem]
    exact bad 9 (by rw [storeS, if_neg (by simpa using he), if_pos hb]) (by simp) (by simp)
  have hV : findV d a = .tup [.agg (bothC (findL d a)), ci (new1 (findL d a)), er 0] := by rw [findV, if_neg (by simpa using he), if_neg hb]
  have hl16 := findL_len he
  have hat : 0 ≤ a ∧ a ≤ 1000000 := by
    unfold findE readD at he
    split at he
    · rename_i h1; exact absurd he h1
    · split at he
      · cases he
      · rename_i h1 h2
        have hq : insideB d a 16 = true := by simpa using h2
        simp only [insideB, Bool.and_eq_true, decide_eq_true_eq] at hq
        have := hl.1
        omega
  rw [hV]
  simp -implicitDefEqProofs [go_sem, bothC, repC]
  refine SWp.seq (Wp.s ?_)
  simp -implicitDefEqProofs [go_sem]
  refine SWp.seq (Wp.s ?_)
  by_cases h31 : 31 < p.length
  · simp -implicitDefEqProofs [go_sem, show (31 : Int) < p.length by omega]
    exact bad 5 (by rw [storeS, if_neg (by simpa using he), if_neg hb, if_pos h31]) (by simp) (by simp)
  simp -implicitDefEqProofs [go_sem, show ¬ (31 : Int) < p.length by omega]
  have hS : storeS d a p = if topS (findL d a) = 4294967295 then ([], 11) else ([opW (a + 8 - 8 * (new1 (findL d a) : Int)) (copyS (topS (findL d a) + 1) p), opS], 0) := by rw [storeS, if_neg (by simpa using he), if_neg hb, if_neg h31]
  generalize findL d a = l at *
  have hn : new1 l = 1 ∨ new1 l = 0 := by unfold new1; split <;> simp
  refine SWp.seq (Wp.s ?_)
  simp -implicitDefEqProofs [go_sem]
  have hBox : ∀ j, V.length ≤ j → okH (H.length + 2) j [some (dkC d), some (bothC l)] := fun j hj => by
    rw [okH_some, okH_some, okL_dkC]
    exact ⟨trivial, okL_app (okL_repC _ _ _ _) (okL_repC _ _ _ _), trivial⟩
  refine SWp.join (α := Unit) (fun _ => ([(1, ci a), (2, .sl tk 1 (bs p)), (9, ci (new1 l)), (11, ci (topS l))], H ++ [some (dkC d), some (bothC l)], V)) (fun _ => True) ?_ ?_
  · refine SWp.seq (Wp.s ?_)
    simp -implicitDefEqProofs [go_sem]
    refine SWp.block ?_
    refine SWp.loop (α := Nat) (fun i => ([(1, ci a), (2, .sl tk 1 (bs p)), (9, ci (new1 l)), (11, ci (mxS 0 (l.take (8 * i)))), (30, .agg (bothC l)), (31, ci i)], H ++ [some (dkC d), some (bothC l)], V)) (fun i => i ≤ 2) (fun i => 2 - i) 0 (by omega) (Sh.forget (by simp -implicitDefEqProofs [go_sem, mxS, bothC, repC]) (by simp [bothC, repC]) rfl) ?_
    intro i hi
    dsimp only
    refine SWp.seq (Wp.s ?_)
    simp -implicitDefEqProofs [go_sem]
    refine SWp.seq (Wp.s ?_)
    simp -implicitDefEqProofs [go_sem]
    refine ⟨fun h => ?_, fun h => ?_⟩
    case refine_2 =>
      obtain rfl : i = 2 := by omega
      exact Sh.forget (by simp -implicitDefEqProofs [go_sem, topS_eq, List.take_of_length_le (show l.length ≤ 8 * 2 by omega)]) rfl rfl
    have hi2 : i = 0 ∨ i = 1 := by omega
    generalize hs : (l.drop (8 * i)).take 8 = s
    have hs8 : s.length = 8 := by rw [← hs, List.length_take, List.length_drop]; omega
    have hnext : mxS (mxS 0 (l.take (8 * i))) s = mxS 0 (l.take (8 * (i + 1))) := by
      rw [← mxS_app, ← hs, ← List.take_add]
      rfl
    have hBox3 : ∀ (c : Nat × List UInt8) (j : Nat), V.length ≤ j → okH (H.length + 3) j [some (dkC d), some (bothC l), some (repC c s)] := fun c j hj => by
      rw [okH_some, okH_some, okH_some, okL_dkC]
      exact ⟨trivial, okL_app (okL_repC _ _ _ _) (okL_repC _ _ _ _), okL_repC _ _ _ _, trivial⟩
    refine SWp.seq (SWp.block (SWp.join (α := Nat × List UInt8) (fun c => ([(1, ci a), (2, .sl tk 1 (bs p)), (9, ci (new1 l)), (11, ci (mxS 0 (l.take (8 * i)))), (30, .agg (bothC l)), (31, ci i), (13, .ptr (H.length + 2) 0)], H ++ [some (dkC d), some (bothC l), some (repC c s)], V)) (fun _ => True) ?_ ?_))
    · refine Wp.s ?_
      rcases hi2 with rfl | rfl
      · simp -implicitDefEqProofs [go_sem, bothC, repC]
        refine ⟨(cA l).1, (cA l).2, Sh.forget (by simp -implicitDefEqProofs [go_sem]) ?_ rfl⟩
        rw [← hs]; rfl
      · simp -implicitDefEqProofs [go_sem, bothC, repC]
        refine ⟨(cB l).1, (cB l).2, Sh.forget (by simp -implicitDefEqProofs [go_sem]) ?_ rfl⟩
        rw [← hs, show (l.drop (8 * 1)).take 8 = l.drop 8 from List.take_of_length_le (by rw [List.length_drop]; omega)]
    rintro ⟨c1, c2⟩ -
    dsimp only
    refine SWp.seq (Wp.s ?_)
    simp -implicitDefEqProofs [go_sem, repC]
    refine SWp.block ?_
    refine SWp.loop (α := Nat) (fun k => ([(1, ci a), (2, .sl tk 1 (bs p)), (9, ci (new1 l)), (11, ci (mxS (mxS 0 (l.take (8 * i))) (s.take k))), (30, .agg (bothC l)), (31, ci i), (35, secsV s), (36, ci 8), (37, ci k)], H ++ [some (dkC d), some (bothC l), some (repC (c1, c2) s)], V)) (fun k => k ≤ 8) (fun k => 8 - k) 0 (by omega) (Sh.forget (by simp -implicitDefEqProofs [go_sem, hs8, mxS]) (by simp [repC]) rfl) ?_
    intro k hk
    dsimp only
    refine SWp.seq (Wp.s ?_)
    simp -implicitDefEqProofs [go_sem]
    refine SWp.seq (Wp.s ?_)
    simp -implicitDefEqProofs [go_sem]
    refine ⟨fun hk8 => ?_, fun hk8 => ?_⟩
    case refine_2 =>
      obtain rfl : k = 8 := by omega
      refine Wp.s ?_
      simp -implicitDefEqProofs [go_sem, wrap_succ (show i ≤ 1000000000 by omega)]
      refine ⟨i + 1, by omega, by omega, Sh.trim (L := [some (dkC d), some (bothC l)]) ?_ ?_ hokH (hBox _ (Nat.le_refl _)) (Nat.le_refl _) (by simp) (by simp)⟩
      · rw [List.take_of_length_le (show s.length ≤ 8 by omega), hnext]
        simp -implicitDefEqProofs [go_sem]
      · rw [okL, okL, okL] at hok
        simp only [TOk_cons, TOk_nil]
        exact ⟨by simp -implicitDefEqProofs [go_sem], okV_mono (by omega) (Nat.le_refl _) hok.2.2.1, by simp -implicitDefEqProofs [go_sem], by simp -implicitDefEqProofs [go_sem], by rw [okV_agg]; exact okL_app (okL_repC _ _ _ _) (okL_repC _ _ _ _), by simp -implicitDefEqProofs [go_sem], trivial⟩
    have hks : k < s.length := by omega
    refine SWp.seq (SWp.block (SWp.seq (Wp.s ?_)))
    simp -implicitDefEqProofs [go_sem, hks]
    refine Wp.s ?_
    simp -implicitDefEqProofs [go_sem]
    refine CC.mono (sgeneration_cc _ _ _) ?_
    rintro _ _ _ ⟨rfl, rfl, rfl⟩
    simp -implicitDefEqProofs [go_sem]
    refine Wp.s ?_
    simp -implicitDefEqProofs [go_sem, wrap_succ (show k ≤ 1000000000 by omega), imax]
    refine ⟨k + 1, by omega, by omega, Sh.trim (L := [some (dkC d), some (bothC l), some (repC (c1, c2) s)]) ?_ ?_ hokH (hBox3 _ _ (Nat.le_refl _)) (Nat.le_refl _) (by simp) (by simp)⟩
    · rw [mxS_take _ _ _ hks]
      simp -implicitDefEqProofs [go_sem, imax]
    · rw [okL, okL, okL] at hok
      simp only [TOk_cons, TOk_nil]
      exact ⟨by simp -implicitDefEqProofs [go_sem], okV_mono (by omega) (Nat.le_refl _) hok.2.2.1, by simp -implicitDefEqProofs [go_sem], by simp -implicitDefEqProofs [go_sem], by rw [okV_agg]; exact okL_app (okL_repC _ _ _ _) (okL_repC _ _ _ _), by simp -implicitDefEqProofs [go_sem], okV_secsV _ _ _, by simp -implicitDefEqProofs [go_sem], by simp -implicitDefEqProofs [go_sem], trivial⟩
  · rintro _ -
    dsimp only
    have htop : topS l < 4294967296 := mxS_lt _ _ (by omega)
    rw [hS]
    refine SWp.seq (Wp.s ?_)
    by_cases ht : topS l = 4294967295
    · rw [if_pos ht] at hS
      rw [← hS]
      simp -implicitDefEqProofs [go_sem, ht]
      exact bad 11 hS (by simp) (by simp)
    rw [if_neg ht]
    simp -implicitDefEqProofs [go_sem, show ¬ (topS l : Int) = 4294967295 by omega]
    refine SWp.seq (Wp.s ?_)
    have e0 : IntKind.i64.wrap (1 - (new1 l : Int)) = 1 - (new1 l : Int) := IntWalk.i64_in _ ⟨by omega, by omega⟩
    have e1 : IntKind.i64.wrap ((1 - (new1 l : Int)) * 8) = 8 - 8 * (new1 l : Int) := by rw [IntWalk.i64_in _ ⟨by omega, by omega⟩]; omega
    have e2 : IntKind.i64.wrap (a + (8 - 8 * (new1 l : Int))) = a + 8 - 8 * (new1 l : Int) := by rw [IntWalk.i64_in _ ⟨by omega, by omega⟩]; omega
    have e3 : IntKind.i64.wrap ((topS l : Int) + 1) = ((topS l + 1 : Nat) : Int) := by rw [IntWalk.i64_in _ ⟨by omega, by omega⟩]; rfl
    simp -implicitDefEqProofs [go_sem, e0]
    refine SWp.seq (Wp.s ?_)
    simp -implicitDefEqProofs [go_sem, e1, e2, e3]
    have hput := fun (H : Hp) (V : List Nat) => sput_cc H V (topS l + 1) tk p (by omega) (by omega)
    rw [Int.natCast_succ] at hput
    refine CC.mono (hput _ _) ?_
    rintro _ _ _ ⟨rfl, rfl, rfl⟩
    simp -implicitDefEqProofs [go_sem]
    refine Wp.s ?_
    simp -implicitDefEqProofs [go_sem]
    exact sto_fin hokH (by simp) (by simp)
end Go.Proofs.YtbnkggbpocaaiaaGreatDoor
namespace Go.Proofs.YtbnkggbpocaaiaaGreatDoor
open Go.Proofs
@[go_sem] theorem azTy3 : azTy Tryz.prog 3 = true := by kernel_rfl
end Go.Proofs.YtbnkggbpocaaiaaGreatDoor
namespace Go.Proofs.YtbnkggbpocaaiaaGreatDoor
open Go.Proofs
@[go_sem] theorem hbx_W3 (H W : Hp) (a0 a1 a2 : Option (List CV)) (j : Nat) (K : List CV → Prop) : hbx (H ++ (a0 :: a1 :: a2 :: W)) (H.length + (j + 3)) K = hbx W j K := by
  unfold hbx
  have : (H ++ (a0 :: a1 :: a2 :: W))[H.length + (j + 3)]? = W[j]? := by
    rw [hget]; simp only [List.getElem?_cons_succ]
  rw [this]
end Go.Proofs.YtbnkggbpocaaiaaGreatDoor
namespace Go.Proofs.YtbnkggbpocaaiaaGreatDoor
section
variable {P : Program}
end
end Go.Proofs.YtbnkggbpocaaiaaGreatDoor
namespace Go.Proofs.YtbnkggbpocaaiaaGreatDoor
open Go.Proofs
theorem flat57 : FlatEq Tryz.prog 85 (List.replicate 8 .u8) := by
  obtain ⟨i, z, _, hi, _⟩ := slTy_some slTy91
  exact flatEq_array Tryz.underlying85 hi Tryz.underlying5 (by kernel_rfl) (by kernel_rfl)
theorem fits_sec (s : Sec) : fits (List.replicate 8 .u8) (secC s) := by
  have := fits_rep .u8 (s.val.map fun b => (b.toNat : Int))
  rw [List.length_map, s.len, List.map_map] at this
  exact this
theorem sSameSectors_cc (H : Hp) (V : List Nat) (t1 t2 : Tk) (l : List Sec) (hl : l.length ≤ 900000000) : CC Tryz.prog 55 [.sl t1 8 (l.map secC), .sl t2 8 (l.map secC)] H V (Pu (cb true) H V) := by
  refine CC.of_swp Tryz.func55 rfl (by kernel_rfl) (by rw [Tryz.ntmps55]; exact len_le _ _ rfl) fun hok hokH => ?_
  clear hok
  refine SWp.seq (Wp.s ?_)
  simp -implicitDefEqProofs [go_sem, args0]
  refine SWp.seq (Wp.s ?_)
  simp -implicitDefEqProofs [go_sem]
  refine SWp.join (α := Unit) (fun _ => ([], H, V)) (fun _ => True) ?_ ?_
  · refine SWp.seq (Wp.s ?_)
    simp -implicitDefEqProofs [go_sem]
    refine SWp.block ?_
    refine SWp.loop (α := Nat) (fun i => ([(0, .sl t1 8 (l.map secC)), (1, .sl t2 8 (l.map secC)), (5, ci i)], H, V)) (fun i => i ≤ l.length) (fun i => l.length - i) 0 (Nat.zero_le _) (Sh.forget (by simp -implicitDefEqProofs [go_sem]) rfl rfl) ?_
    intro i hi
    dsimp only
    refine SWp.seq (Wp.s ?_)
    simp -implicitDefEqProofs [go_sem]
    refine ⟨fun h => ?_, fun h => Sh.forget (by simp -implicitDefEqProofs [go_sem]) rfl rfl⟩
    have hw := wrap_succ (show i ≤ 1000000000 by omega)
    refine SWp.seq (SWp.block ?_)
    refine SWp.seq (SWp.drawnL [0, 1, 2, 3, 4, 5, 6, 7, 8] (by kernel_rfl) (by kernel_rfl) rfl ?_)
    simp -implicitDefEqProofs [go_sem, h]
    refine ⟨_, flat57, fits_sec _, ?_⟩
    refine Wp.s ?_
    simp -implicitDefEqProofs [go_sem, hw]
    refine Wp.s ?_
    simp -implicitDefEqProofs [go_sem, hw]
    exact ⟨i + 1, by omega, by omega, Sh.forget (by simp -implicitDefEqProofs [go_sem]) rfl rfl⟩
  · rintro _ -
    dsimp only
    refine Wp.s ?_
    simp -implicitDefEqProofs [go_sem]
    exact Fin.bool rfl hokH (by simp) (by simp)
set_option maxRecDepth 4000 in
theorem sSameOps_cc (H : Hp) (V : List Nat) (t1 t2 : Tk) (l : List Opn) (hl : l.length ≤ 900000000) (hs : ∀ o ∈ l, o.data.length ≤ 900000000) : CC Tryz.prog 17 [.sl t1 3 (l.map opC), .sl t2 3 (l.map opC)] H V (Pu (cb true) H V) := by
  refine CC.of_swp Tryz.func17 rfl (by kernel_rfl) (by rw [Tryz.ntmps17]; exact len_le _ _ rfl) fun hok hokH => ?_
  clear hok
  refine SWp.seq (Wp.s ?_)
  simp -implicitDefEqProofs [go_sem, args0]
  refine SWp.seq (Wp.s ?_)
  simp -implicitDefEqProofs [go_sem]
  refine SWp.join (α := Unit) (fun _ => ([], H, V)) (fun _ => True) ?_ ?_
  · refine SWp.seq (Wp.s ?_)
    simp -implicitDefEqProofs [go_sem]
    refine SWp.block ?_
    refine SWp.loop (α := Nat) (fun i => ([(0, .sl t1 3 (l.map opC)), (1, .sl t2 3 (l.map opC)), (5, ci i)], H, V)) (fun i => i ≤ l.length) (fun i => l.length - i) 0 (Nat.zero_le _) (Sh.forget (by simp -implicitDefEqProofs [go_sem]) rfl rfl) ?_
    intro i hi
    dsimp only
    refine SWp.seq (Wp.s ?_)
    simp -implicitDefEqProofs [go_sem]
    refine ⟨fun h => ?_, fun h => Sh.forget (by simp -implicitDefEqProofs [go_sem]) rfl rfl⟩
    have hw := wrap_succ (show i ≤ 1000000000 by omega)
    refine SWp.seq (SWp.block ?_)
    refine SWp.seq (SWp.drawnL [0, 1, 2, 3, 4, 5, 6, 7, 8, 9, 10, 11, 12, 13, 14, 15, 16, 17, 18, 19, 20, 21, 22, 23, 24, 25, 26, 27, 28, 29, 30, 31, 32, 33, 34, 35, 36, 37] (by kernel_rfl) (by kernel_rfl) rfl ?_)
    simp -implicitDefEqProofs [go_sem, h]
    refine CC.mono (sSameSectors_cc _ _ .sh .sh _ (hs _ (List.getElem_mem h))) ?_
    rintro _ _ _ ⟨rfl, rfl, rfl⟩
    simp -implicitDefEqProofs [go_sem]
    refine Wp.s ?_
    simp -implicitDefEqProofs [go_sem, hw]
    refine Wp.s ?_
    simp -implicitDefEqProofs [go_sem, hw]
    exact ⟨i + 1, by omega, by omega, Sh.forget (by simp -implicitDefEqProofs [go_sem]) rfl rfl⟩
  · rintro _ -
    dsimp only
    refine Wp.s ?_
    simp -implicitDefEqProofs [go_sem]
    exact Fin.bool rfl hokH (by simp) (by simp)
end Go.Proofs.YtbnkggbpocaaiaaGreatDoor
namespace Go.Proofs.YtbnkggbpocaaiaaGreatDoor
open Go.Proofs
abbrev iv (n : Int) : CV := .v (.int .i64 n)
theorem validJ_iff (s c : Int) : validJ s c = true ↔ (0 ≤ s ∧ 20 ≤ c ∧ s ≤ 4096 ∧ c ≤ 4096 - s) := by simp only [validJ, Bool.and_eq_true, decide_eq_true_eq, and_assoc]
theorem validJ_f (s c : Int) : validJ s c = false ↔ ¬ (0 ≤ s ∧ 20 ≤ c ∧ s ≤ 4096 ∧ c ≤ 4096 - s) := by rw [← validJ_iff, Bool.not_eq_true]
theorem valid_cc (H : Hp) (V : List Nat) (s c : Int) : CC Tryz.prog 105 [.agg [iv s, iv c]] H V (Pu (cb (validJ s c)) H V) := by
  refine CC.of_swp Tryz.func105 rfl (by kernel_rfl) (by rw [Tryz.ntmps105]; exact len_le _ _ rfl) fun hok hokH => ?_
  clear hok
  refine SWp.seq (Wp.s ?_)
  simp -implicitDefEqProofs [go_sem, args0]
  by_cases c1 : 0 ≤ s
  case neg =>
    refine Wp.s ?_
    simp -implicitDefEqProofs [go_sem, c1]
    exact Fin.bool (((validJ_f s c).2 (by omega)).symm) hokH (by simp) (by simp)
  by_cases c2 : 20 ≤ c
  case neg =>
    refine Wp.s ?_
    simp -implicitDefEqProofs [go_sem, c1, c2]
    exact Fin.bool (((validJ_f s c).2 (by omega)).symm) hokH (by simp) (by simp)
  by_cases c3 : s ≤ 4096
  case neg =>
    refine Wp.s ?_
    simp -implicitDefEqProofs [go_sem, c1, c2, c3]
    exact Fin.bool (((validJ_f s c).2 (by omega)).symm) hokH (by simp) (by simp)
  have w1 : IntKind.i64.wrap (4096 - s) = 4096 - s := IntWalk.i64_in _ ⟨by omega, by omega⟩
  refine Wp.s ?_
  simp -implicitDefEqProofs [go_sem, c1, c2, c3, w1]
  refine Fin.bool ?_ hokH (by simp) (by simp)
  simp [validJ, c1, c2, c3]
theorem refValid_cc (H : Hp) (V : List Nat) (s c : Int) : CC Tryz.prog 111 [.agg [iv s, iv c]] H V (Pu (cb (validJ s c)) H V) := by
  refine CC.of_swp Tryz.func111 rfl (by kernel_rfl) (by rw [Tryz.ntmps111]; exact len_le _ _ rfl) fun hok hokH => ?_
  clear hok
  refine SWp.seq (Wp.s ?_)
  simp -implicitDefEqProofs [go_sem, args0]
  by_cases c1 : 0 ≤ s
  case neg =>
    refine Wp.s ?_
    simp -implicitDefEqProofs [go_sem, c1]
    exact Fin.bool (((validJ_f s c).2 (by omega)).symm) hokH (by simp) (by simp)
  by_cases c2 : 20 ≤ c
  case neg =>
    refine Wp.s ?_
    simp -implicitDefEqProofs [go_sem, c1, c2]
    exact Fin.bool (((validJ_f s c).2 (by omega)).symm) hokH (by simp) (by simp)
  by_cases c3 : c ≤ 4096
  case neg =>
    refine Wp.s ?_
    simp -implicitDefEqProofs [go_sem, c1, c2, c3]
    exact Fin.bool (((validJ_f s c).2 (by omega)).symm) hokH (by simp) (by simp)
  have w1 : IntKind.i64.wrap (4096 - c) = 4096 - c := IntWalk.i64_in _ ⟨by omega, by omega⟩
  refine Wp.s ?_
  simp -implicitDefEqProofs [go_sem, c1, c2, c3, w1]
  refine Fin.bool ?_ hokH (by simp) (by simp)
  rw [Bool.eq_iff_iff, validJ_iff]
  simp
  omega
theorem length_cc (H : Hp) (V : List Nat) (s c : Int) (h : validJ s c = true) : CC Tryz.prog 107 [.agg [iv s, iv c]] H V (Pu (iv (c - 16)) H V) := by
  refine CC.of_swp Tryz.func107 rfl (by kernel_rfl) (by rw [Tryz.ntmps107]; exact len_le _ _ rfl) fun hok hokH => ?_
  clear hok
  have hv := (validJ_iff s c).1 h
  refine SWp.seq (Wp.s ?_)
  simp -implicitDefEqProofs [go_sem, args0]
  refine Wp.s ?_
  simp -implicitDefEqProofs [go_sem, IntWalk.i64_in (c - 16) ⟨by omega, by omega⟩]
  exact Fin.int rfl hokH (by simp) (by simp)
theorem sector_cc (H : Hp) (V : List Nat) (s c p : Int) (h : validJ s c = true) (h1 : 0 ≤ p) (h2 : p ≤ 1000000) : CC Tryz.prog 146 [.agg [iv s, iv c], iv p] H V (Pu (iv (s + 16 + p)) H V) := by
  refine CC.of_swp Tryz.func146 rfl (by kernel_rfl) (by rw [Tryz.ntmps146]; exact len_le _ _ rfl) fun hok hokH => ?_
  clear hok
  have hv := (validJ_iff s c).1 h
  refine SWp.seq (Wp.s ?_)
  simp -implicitDefEqProofs [go_sem, args0]
  refine Wp.s ?_
  simp -implicitDefEqProofs [go_sem, IntWalk.i64_in (s + 16) ⟨by omega, by omega⟩, IntWalk.i64_in (s + 16 + p) ⟨by omega, by omega⟩]
  exact Fin.int rfl hokH (by simp) (by simp)
theorem RSize_cc (H : Hp) (V : List Nat) (n : Int) : CC Tryz.prog 143 [iv n] H V (Pu (iv (szR n)) H V) := by
  refine CC.of_swp Tryz.func143 rfl (by kernel_rfl) (by rw [Tryz.ntmps143]; exact len_le _ _ rfl) fun hok hokH => ?_
  clear hok
  refine SWp.seq (Wp.s ?_)
  simp -implicitDefEqProofs [go_sem, args0]
  refine SWp.seq (SWp.seq (Wp.s ?_))
  by_cases c1 : n < 0
  · simp -implicitDefEqProofs [go_sem, c1]
    refine Wp.s ?_
    simp -implicitDefEqProofs [go_sem]
    exact Fin.int (by rw [szR, if_pos (.inl c1)]) hokH (by simp) (by simp)
  by_cases c2 : 4096 < n
  · simp -implicitDefEqProofs [go_sem, c1, c2]
    refine Wp.s ?_
    simp -implicitDefEqProofs [go_sem]
    exact Fin.int (by rw [szR, if_pos (.inr c2)]) hokH (by simp) (by simp)
  have w1 : IntKind.i64.wrap (3 + n) = 3 + n := IntWalk.i64_in _ ⟨by omega, by omega⟩
  have w2 : IntKind.i64.wrap (3 + n + 4) = 3 + n + 4 := IntWalk.i64_in _ ⟨by omega, by omega⟩
  have w3 : IntKind.i64.wrap (3 + n + 4 + 4) = 3 + n + 4 + 4 := IntWalk.i64_in _ ⟨by omega, by omega⟩
  have w4 : IntKind.i64.wrap (3 + n + 4 + 4 - 1) = n + 10 := (IntWalk.i64_in _ ⟨by omega, by omega⟩).trans (by omega)
  have w5 : IntKind.i64.wrap ((n + 10).tdiv 4) = (n + 10) / 4 := by rw [Int.tdiv_eq_ediv_of_nonneg (by omega)]; exact IntWalk.i64_in _ ⟨by omega, by omega⟩
  simp -implicitDefEqProofs [go_sem, c1, c2]
  refine Wp.s ?_
  simp -implicitDefEqProofs [go_sem]
  refine Wp.s ?_
  simp -implicitDefEqProofs [go_sem, w1, w2, w3, w4, w5]
  exact Fin.int (by rw [szR, if_neg (by omega)]) hokH (by simp) (by simp)
theorem refSize_cc (H : Hp) (V : List Nat) (n : Int) : CC Tryz.prog 131 [iv n] H V (Pu (iv (szR n)) H V) := by
  refine CC.of_swp Tryz.func131 rfl (by kernel_rfl) (by rw [Tryz.ntmps131]; exact len_le _ _ rfl) fun hok hokH => ?_
  clear hok
  refine SWp.seq (Wp.s ?_)
  simp -implicitDefEqProofs [go_sem, args0]
  refine SWp.seq (SWp.seq (Wp.s ?_))
  by_cases c1 : n < 0
  · simp -implicitDefEqProofs [go_sem, c1]
    refine Wp.s ?_
    simp -implicitDefEqProofs [go_sem]
    exact Fin.int (by rw [szR, if_pos (.inl c1)]) hokH (by simp) (by simp)
  by_cases c2 : 4096 < n
  · simp -implicitDefEqProofs [go_sem, c1, c2]
    refine Wp.s ?_
    simp -implicitDefEqProofs [go_sem]
    exact Fin.int (by rw [szR, if_pos (.inr c2)]) hokH (by simp) (by simp)
  have w1 : IntKind.i64.wrap (7 + n) = 7 + n := IntWalk.i64_in _ ⟨by omega, by omega⟩
  have w2 : IntKind.i64.wrap (7 + n + 3) = n + 10 := (IntWalk.i64_in _ ⟨by omega, by omega⟩).trans (by omega)
  have w5 : IntKind.i64.wrap ((n + 10).tdiv 4) = (n + 10) / 4 := by rw [Int.tdiv_eq_ediv_of_nonneg (by omega)]; exact IntWalk.i64_in _ ⟨by omega, by omega⟩
  simp -implicitDefEqProofs [go_sem, c1, c2]
  refine Wp.s ?_
  simp -implicitDefEqProofs [go_sem]
  refine Wp.s ?_
  simp -implicitDefEqProofs [go_sem, w1, w2, w5]
  exact Fin.int (by rw [szR, if_neg (by omega)]) hokH (by simp) (by simp)
def stJ (j : Jrn) (u : Int) : List CV := [iv j.start, iv j.count] ++ jrC j ++ [iv u]
@[go_sem, simp] theorem stJ_len (j : Jrn) (u : Int) : (stJ j u).length = 9 := by rw [stJ, jrC]; rfl
@[go_sem, simp] theorem stJ_take (j : Jrn) (u : Int) : (stJ j u).take 9 = stJ j u := rfl
@[go_sem, simp] theorem stJ_drop (j : Jrn) (u : Int) : (stJ j u).drop 9 = [] := rfl
@[go_sem, simp] theorem stJ_take2 (j : Jrn) (u : Int) : (stJ j u).take 2 = [iv j.start, iv j.count] := rfl
@[go_sem, simp] theorem stJ_mid (j : Jrn) (u : Int) : ((stJ j u).drop 2).take 6 = jrC j := rfl
@[go_sem, simp] theorem stJ_mid2 (j : Jrn) (u : Int) : ((stJ j u).take 8).drop 2 = jrC j := rfl
@[go_sem, simp] theorem stJ_all (j : Jrn) (u : Int) : allOne (stJ j u) = true := rfl
@[go_sem, simp] theorem stJ_1 (j : Jrn) (u : Int) (h : 1 < (stJ j u).length) : (stJ j u)[1] = iv j.count := rfl
@[go_sem, simp] theorem stJ_5 (j : Jrn) (u : Int) (h : 5 < (stJ j u).length) : (stJ j u)[5] = iv j.tail := rfl
@[go_sem, simp] theorem stJ_6 (j : Jrn) (u : Int) (h : 6 < (stJ j u).length) : (stJ j u)[6] = iv j.first := rfl
@[go_sem, simp] theorem stJ_7 (j : Jrn) (u : Int) (h : 7 < (stJ j u).length) : (stJ j u)[7] = .sl .sh 1 (j.sizes.map ic) := rfl
@[go_sem, simp] theorem stJ_8 (j : Jrn) (u : Int) (h : 8 < (stJ j u).length) : (stJ j u)[8] = iv u := rfl
@[go_sem] theorem okL_stJ (a b : Nat) (j : Jrn) (u : Int) : okL a b (stJ j u) = True := by simp [stJ, jrC, go_sem, okL, okV, okE_ints]
theorem next_cc (H : Hp) (V : List Nat) (j : Jrn) (u : Int) (h1 : 1 ≤ j.first) (h2 : j.first + j.sizes.length ≤ 1073741824) : CC Tryz.prog 116 [.agg (stJ j u)] H V (Pu (iv (nextJ j)) H V) := by
  refine CC.of_swp Tryz.func116 rfl (by kernel_rfl) (by rw [Tryz.ntmps116]; exact len_le _ _ rfl) fun hok hokH => ?_
  clear hok
  refine SWp.seq (Wp.s ?_)
  simp -implicitDefEqProofs [go_sem, args0]
  refine Wp.s ?_
  simp -implicitDefEqProofs [go_sem, IntWalk.i64_in (j.first + (j.sizes.length : Int)) ⟨by omega, by omega⟩]
  exact Fin.int rfl hokH (by simp) (by simp)
theorem free_cc (H : Hp) (V : List Nat) (j : Jrn) (u : Int) (h : validJ j.start j.count = true) (h1 : 0 ≤ u) (h2 : u ≤ 100000) : CC Tryz.prog 87 [.agg (stJ j u)] H V (Pu (iv (j.count - 16 - u)) H V) := by
  refine CC.of_swp Tryz.func87 rfl (by kernel_rfl) (by rw [Tryz.ntmps87]; exact len_le _ _ rfl) fun hok hokH => ?_
  clear hok
  have hv := (validJ_iff _ _).1 h
  refine SWp.seq (Wp.s ?_)
  simp -implicitDefEqProofs [go_sem, args0]
  refine SWp.seq (SWp.drawnT [] [] (.s 0 .pl <| .s 1 .pl <| .c 2 <| .s 3 .pl <| .s 4 .pl <| .s 5 .pl <| .s 6 .pl <| .n) (by kernel_rfl) (by kernel_rfl) ?_)
  simp -implicitDefEqProofs [go_sem]
  refine ⟨_, fun H V => length_cc H V j.start j.count h, ?_⟩
  simp -implicitDefEqProofs [go_sem]
  refine Wp.s ?_
  simp -implicitDefEqProofs [go_sem, IntWalk.i64_in (j.count - 16 - u) ⟨by omega, by omega⟩]
  exact Fin.int rfl hokH (by simp) (by simp)
end Go.Proofs.YtbnkggbpocaaiaaGreatDoor
namespace Go.Proofs.YtbnkggbpocaaiaaGreatDoor
open Go.Proofs
def dvP (n i : Nat) : Nat := n / 256 ^ i
theorem dvP_0 (n : Nat) : dvP n 0 = n := Nat.div_one n
theorem dvP_succ (n i : Nat) : dvP n (i + 1) = dvP n i / 256 := by unfold dvP; rw [Nat.pow_succ, Nat.div_div_eq_div_mul]
def leN (n : Nat) : Nat → List UInt8
  | 0 => []
  | k + 1 => leN n k ++ [byt (dvP n k : Nat)]
@[simp] theorem leN_len (n : Nat) : ∀ k, (leN n k).length = k
  | 0 => rfl
  | k + 1 => by rw [leN, List.length_append, leN_len n k]; rfl
theorem leN_4 (n : Nat) : leN n 4 = le4 n := by
  have e : ∀ m : Nat, byt (m : Int) = UInt8.ofNat (m % 256) := fun m => by
    apply UInt8.toNat_inj.1
    have := byt_toNat (m : Int)
    rw [UInt8.toNat_ofNat']; omega
  simp only [leN, e, List.nil_append, List.cons_append, le4, dvP]
  rw [show (256 : Nat) ^ 0 = 1 from rfl, Nat.div_one]
theorem shr8 (n i : Nat) : shr .i64 ((dvP n i : Nat) : Int) 8 = ((dvP n (i + 1) : Nat) : Int) := by
  rw [dvP_succ]
  unfold shr
  rw [show ((dvP n i : Nat) : Int).fdiv (2 ^ (min (8 : Int).toNat IntKind.i64.bits)) = ((dvP n i / 256 : Nat) : Int) by rw [Int.fdiv_eq_ediv_of_nonneg _ (by decide)]; show ((dvP n i : Nat) : Int) / 256 = _; omega]
theorem little_cc (H : Hp) (V : List Nat) (n k : Nat) (hk : k ≤ 8) : CC Tryz.prog 170 [ci n, ci k] H V (Fr 1 (bs (leN n k)) H V) := by
  refine CC.of_swp Tryz.func170 rfl (by kernel_rfl) (by rw [Tryz.ntmps170]; exact len_le _ _ rfl) fun hok hokH => ?_
  clear hok
  refine SWp.seq (Wp.s ?_)
  simp -implicitDefEqProofs [go_sem, args0]
  refine SWp.seq (Wp.s ?_)
  simp -implicitDefEqProofs [go_sem]
  refine SWp.join (α := Nat) (fun v => ([(5, .sl (.own V.length v) 1 (bs (leN n k)))], H, V ++ [v])) (fun _ => True) ?_ ?_
  · refine SWp.seq (Wp.s ?_)
    simp -implicitDefEqProofs [go_sem]
    refine SWp.block ?_
    refine SWp.loop (α := Nat × Nat) (fun x => ([(0, ci (dvP n x.1 : Nat)), (5, .sl (.own V.length x.2) 1 (bs (leN n x.1))), (6, ci k), (7, ci x.1)], H, V ++ [x.2])) (fun x => x.1 ≤ k) (fun x => k - x.1) (0, 0) (Nat.zero_le _) (Sh.tokT (by simp [go_sem, leN, dvP_0]) rfl rfl) ?_
    rintro ⟨i, v⟩ hi
    dsimp only at hi ⊢
    refine Wp.s ?_
    simp -implicitDefEqProofs [go_sem, shr8]
    refine ⟨fun h => ⟨by omega, i + 1, by omega, by omega, v + 1, Sh.forget ?_ rfl rfl⟩, fun h => ⟨v, Sh.forget ?_ rfl rfl⟩⟩
    · simp [go_sem, wrap_succ (show i ≤ 1000000000 by omega), leN]
    · obtain rfl : i = k := by omega
      simp [go_sem]
  · rintro v -
    refine Wp.s ?_
    simp -implicitDefEqProofs [go_sem]
    exact Fin.fresh rfl (okBs _ _ _) hokH (by simp)
end Go.Proofs.YtbnkggbpocaaiaaGreatDoor
namespace Go.Proofs.YtbnkggbpocaaiaaGreatDoor
open Go.Proofs
theorem sumI_snoc (l : List Int) (x : Int) : sumI (l ++ [x]) = sumI l + x := by rw [sumI, List.foldl_append]; rfl
theorem sumI_take (l : List Int) (i : Nat) (h : i < l.length) : sumI (l.take (i + 1)) = sumI (l.take i) + l[i] := by rw [List.take_succ_eq_append_getElem h, sumI_snoc]
theorem sumI_cons (x : Int) (l : List Int) : sumI (x :: l) = x + sumI l := by
  have : ∀ (l : List Int) (a : Int), l.foldl (· + ·) a = a + l.foldl (· + ·) 0 := fun l => by
    induction l with
    | nil => intro a; simp
    | cons y l ih => intro a; rw [List.foldl_cons, List.foldl_cons, ih (a + y), ih (0 + y)]; omega
  rw [sumI, List.foldl_cons, this]; simp [sumI]
theorem okSz_iff (n : Int) : okSz n = true ↔ 2 ≤ n ∧ n ≤ 1026 := by simp [okSz]
theorem sumI_app (a b : List Int) : sumI (a ++ b) = sumI a + sumI b := by
  induction a with
  | nil => simp [sumI]
  | cons x a ih => rw [List.cons_append, sumI_cons, sumI_cons, ih]; omega
theorem sumI_ge : ∀ l : List Int, l.all okSz = true → 2 * (l.length : Int) ≤ sumI l
  | [], _ => by decide
  | x :: l, h => by
    rw [List.all_cons, Bool.and_eq_true, okSz_iff] at h
    have := sumI_ge l h.2
    rw [sumI_cons, List.length_cons]; omega
theorem sumI_le : ∀ l : List Int, l.all okSz = true → sumI l ≤ 1026 * (l.length : Int)
  | [], _ => by decide
  | x :: l, h => by
    rw [List.all_cons, Bool.and_eq_true, okSz_iff] at h
    have := sumI_le l h.2
    rw [sumI_cons, List.length_cons]; omega
theorem sumI_mono (l : List Int) (i : Nat) (h : l.all okSz = true) : sumI (l.take i) ≤ sumI l := by
  have e := sumI_app (l.take i) (l.drop i)
  rw [List.take_append_drop] at e
  have h2 : (l.drop i).all okSz = true := by
    rw [List.all_eq_true] at h ⊢; exact fun x hx => h x (List.mem_of_mem_drop hx)
  have := sumI_ge _ h2
  omega
def preJ (j : Jrn) : Bool := decide (0 ≤ j.head) && decide (j.head < j.count - 16) && decide (1 ≤ j.first) && decide (j.first ≤ 1073741824) && decide ((j.sizes.length : Int) ≤ 1073741824 - j.first)
theorem preJ_iff (j : Jrn) : preJ j = true ↔ 0 ≤ j.head ∧ j.head < j.count - 16 ∧ 1 ≤ j.first ∧ j.first ≤ 1073741824 ∧ (j.sizes.length : Int) ≤ 1073741824 - j.first := by simp only [preJ, Bool.and_eq_true, decide_eq_true_eq, and_assoc]
theorem chkJ_iff (j : Jrn) : chkJ j = true ↔ validJ j.start j.count = true ∧ preJ j = true ∧ j.sizes.all okSz = true ∧ sumI j.sizes ≤ j.count - 16 ∧ j.tail = (j.head + sumI j.sizes) % (j.count - 16) := by
  rw [preJ_iff, chkJ]
  simp only [Bool.and_eq_true, decide_eq_true_eq, and_assoc]
  constructor
  · rintro ⟨h1, h2, h3, h4, h5, h6, h7, h8, h9⟩; exact ⟨h1, h2, h3, h4, h5, by omega, h6, h7, h8⟩
  · rintro ⟨h1, h2, h3, h4, h5, h6, h7, h8, h9⟩; exact ⟨h1, h2, h3, h4, h5, h7, h8, h9, by omega⟩
theorem chkJ_f {j : Jrn} (h : ¬ (validJ j.start j.count = true ∧ preJ j = true ∧ j.sizes.all okSz = true ∧ sumI j.sizes ≤ j.count - 16 ∧ j.tail = (j.head + sumI j.sizes) % (j.count - 16))) : chkJ j = false := by
  rw [← Bool.not_eq_true, chkJ_iff]; exact h
theorem sum_cc (H : Hp) (V : List Nat) (l : List Int) (hl : l.all okSz = true) (hn : l.length ≤ 4096) : CC Tryz.prog 132 [.sl .sh 1 (l.map ic)] H V (Pu (iv (sumI l)) H V) := by
  refine CC.of_swp Tryz.func132 rfl (by kernel_rfl) (by rw [Tryz.ntmps132]; exact len_le _ _ rfl) fun hok hokH => ?_
  clear hok
  refine SWp.seq (Wp.s ?_)
  simp -implicitDefEqProofs [go_sem, args0]
  refine SWp.seq (Wp.s ?_)
  simp -implicitDefEqProofs [go_sem]
  refine SWp.join (α := Unit) (fun _ => ([(3, iv (sumI l))], H, V)) (fun _ => True) ?_ ?_
  · refine SWp.seq (Wp.s ?_)
    simp -implicitDefEqProofs [go_sem]
    refine SWp.block ?_
    refine SWp.loop (α := Nat) (fun i => ([(0, .sl .sh 1 (l.map ic)), (3, iv (sumI (l.take i))), (4, ci i)], H, V)) (fun i => i ≤ l.length) (fun i => l.length - i) 0 (Nat.zero_le _) (Sh.forget (by simp [go_sem, sumI]) rfl rfl) ?_
    rintro i hi
    dsimp only at hi ⊢
    have hi2 : (l.take i).all okSz = true := by
      rw [List.all_eq_true] at hl ⊢; exact fun x hx => hl x (List.mem_of_mem_take hx)
    have g1 := sumI_ge _ hi2
    have g2 := sumI_le _ hi2
    rw [List.length_take] at g1 g2
    refine Wp.s ?_
    by_cases h : i < l.length
    · have g3 := (okSz_iff _).1 (List.all_eq_true.1 hl _ (List.getElem_mem h))
      have w1 : IntKind.i64.wrap (sumI (l.take i) + l[i]) = sumI (l.take (i + 1)) := by rw [sumI_take l i h]; exact IntWalk.i64_in _ ⟨by omega, by omega⟩
      simp -implicitDefEqProofs [go_sem, h, w1]
      refine ⟨i + 1, by omega, by omega, Sh.forget ?_ rfl rfl⟩
      simp [go_sem, wrap_succ (show i ≤ 1000000000 by omega)]
    · simp -implicitDefEqProofs [go_sem, h]
      refine Sh.forget ?_ rfl rfl
      rw [List.take_of_length_le (by omega)]
      simp [go_sem]
  · rintro _ -
    refine Wp.s ?_
    simp -implicitDefEqProofs [go_sem]
    exact Fin.int rfl hokH (by simp) (by simp)
end Go.Proofs.YtbnkggbpocaaiaaGreatDoor
namespace Go.Proofs.YtbnkggbpocaaiaaGreatDoor
open Go.Proofs
theorem stJ_raw (j : Jrn) : iv j.start :: iv j.count :: (jrC j ++ iv 0 :: List.drop 7 (jrC j ++ [iv 0])) = stJ j 0 := rfl
@[go_sem, simp] theorem stJ_drop9 (j : Jrn) (u : Int) (k : Nat) : (stJ j u).drop (9 + k) = [] := List.drop_eq_nil_of_le (by simp)
@[go_sem] theorem inA_v (S : List Nat) (u : Value) : inA S (.v u) = True := rfl
abbrev zst : List CV := [iv 0, iv 0, iv 0, iv 0, iv 0, iv 0, iv 0, .v (.slice none 0 0), iv 0]
theorem stJ_upd (j : Jrn) (u w : Int) : List.take 8 (stJ j u) ++ [iv w] = stJ j w := rfl
@[go_sem] theorem Kp_mid (H : Hp) (a x y c : Option (List CV)) : Kp [H.length, H.length + 2] (H ++ [a, x, c]) (H ++ [a, y, c]) = True := by
  refine eq_true (Kp.keep fun b hb => ?_)
  rcases List.mem_cons.1 hb with rfl | hb
  · simp
  · obtain rfl : b = H.length + 2 := by simpa using hb
    rw [hget, hget]; rfl
def XamP (j : Jrn) (H : Hp) (V : List Nat) : CV → Hp → List Nat → Prop := fun r H' V' => ∃ u, r = .tup [.agg (stJ j u), cb (chkJ j)] ∧ H = H' ∧ V = V' ∧ (chkJ j = true → u = sumI j.sizes)
def XL (j : Jrn) (i : Nat) : Prop := i ≤ j.sizes.length ∧ (j.sizes.take i).all okSz = true ∧ sumI (j.sizes.take i) ≤ j.count - 16
def bJ (j : Jrn) : Bool := preJ j && j.sizes.all okSz && decide (sumI j.sizes ≤ j.count - 16)
def XE (j : Jrn) (u : Int) : Prop := 0 ≤ u ∧ u ≤ j.count - 16 ∧ (bJ j = true → u = sumI j.sizes)
theorem XE.all {j : Jrn} {i : Nat} (h : XL j i) (hi : j.sizes.length ≤ i) : XE j (sumI (j.sizes.take i)) ∧ bJ j = preJ j := by
  obtain ⟨_, h2, h3⟩ := h
  have g := sumI_ge _ h2
  refine ⟨⟨by omega, h3, fun _ => by rw [List.take_of_length_le hi]⟩, ?_⟩
  rw [List.take_of_length_le hi] at h2 h3
  simp only [bJ, h2, h3, decide_true, Bool.and_true]
theorem XE.bad {j : Jrn} {i : Nat} (h : XL j i) (hi : i < j.sizes.length) (hb : ¬ (2 ≤ j.sizes[i] ∧ j.sizes[i] ≤ 1026 ∧ sumI (j.sizes.take i) + j.sizes[i] ≤ j.count - 16)) : XE j (sumI (j.sizes.take i)) ∧ bJ j = false := by
  obtain ⟨_, h2, h3⟩ := h
  have g := sumI_ge _ h2
  have hf : bJ j = false := by
    unfold bJ
    by_cases h : j.sizes.all okSz = true
    case neg =>
      have : j.sizes.all okSz = false := by simpa using h
      simp only [this, Bool.and_false, Bool.false_and]
    have g3 := (okSz_iff _).1 (List.all_eq_true.1 h _ (List.getElem_mem hi))
    have g4 := sumI_mono j.sizes (i + 1) h
    rw [sumI_take _ _ hi] at g4
    have : ¬ sumI j.sizes ≤ j.count - 16 := by omega
    simp only [this, decide_false, Bool.and_false]
  exact ⟨⟨by omega, h3, fun h => by rw [hf] at h; cases h⟩, hf⟩
theorem chkJ_bJ (j : Jrn) (h : validJ j.start j.count = true) : chkJ j = (bJ j && decide (j.tail = (j.head + sumI j.sizes) % (j.count - 16))) := by
  rw [Bool.eq_iff_iff, chkJ_iff]
  simp [bJ, h, and_assoc]
theorem XL.succ {j : Jrn} {i : Nat} (h : XL j i) (hi : i < j.sizes.length) (h1 : 2 ≤ j.sizes[i]) (h2 : j.sizes[i] ≤ 1026) (hb : sumI (j.sizes.take i) + j.sizes[i] ≤ j.count - 16) : XL j (i + 1) := by
  refine ⟨hi, ?_, by rw [sumI_take _ _ hi]; exact hb⟩
  rw [List.take_succ_eq_append_getElem hi, List.all_append, h.2.1]
  simp [okSz, h1, h2]
set_option maxRecDepth 8000 in
theorem examine_cc (H : Hp) (V : List Nat) (j : Jrn) (hl : j.sizes.length ≤ 1000000000) : CC Tryz.prog 86 [.agg (jrC j)] H V (XamP j H V) := by
  refine CC.of_swp Tryz.func86 rfl (by kernel_rfl) (by rw [Tryz.ntmps86]; exact len_le _ _ rfl) fun hok hokH => ?_
  clear hok
  refine SWp.seq (Wp.s ?_)
  simp -implicitDefEqProofs [go_sem, args0]
  refine SWp.scope ?_
  refine SWp.seq (Wp.s ?_)
  simp -implicitDefEqProofs [go_sem, stJ_raw]
  have fin : ∀ (L : Hp) (u : Int) (b : Bool), b = chkJ j → (chkJ j = true → u = sumI j.sizes) → Fin H.length V.length (XamP j H V) (.tup [.agg (stJ j u), cb b]) (H ++ L) V := fun L u b hb hu => by
    subst hb
    refine Fin.pure ⟨u, rfl, rfl, rfl, hu⟩ (by simp) (by simp) (.refl _) ?_ hokH
    rw [okV]
    simp [go_sem, okL, okV]
  refine SWp.join (α := Unit) (fun _ => ([(1, .ptr H.length 0), (2, .ptr (H.length + 1) 0), (4, .ptr (H.length + 2) 0)], H ++ [some (jrC j), some zst, some (stJ j 0)], V)) (fun _ => validJ j.start j.count = true) ?_ ?_
  · refine SWp.seq (Wp.s ?_)
    simp -implicitDefEqProofs [go_sem]
    refine CC.mono (valid_cc _ _ _ _) ?_
    rintro _ _ _ ⟨rfl, rfl, rfl⟩
    by_cases hv : validJ j.start j.count = true
    case neg =>
      simp -implicitDefEqProofs [go_sem, hv]
      refine Wp.s ?_
      simp -implicitDefEqProofs [go_sem]
      exact fin _ 0 false (chkJ_f (fun h => hv h.1)).symm fun h => absurd ((chkJ_iff j).1 h).1 hv
    simp -implicitDefEqProofs [go_sem, hv]
    refine Wp.s ?_
    simp -implicitDefEqProofs [go_sem]
    exact Sh.forget (by simp [go_sem]) rfl rfl
  rintro _ hv
  dsimp only
  have hvi := (validJ_iff _ _).1 hv
  have nf : ∀ b, (0 ≤ j.head ∧ j.head < j.count - 16 ∧ 1 ≤ j.first ∧ j.first ≤ 1073741824 ∧ (j.sizes.length : Int) ≤ 1073741824 - j.first ↔ b = true) → b = preJ j := fun b h => by
    rw [Bool.eq_iff_iff, preJ_iff, h]
  refine SWp.join (α := Unit) (fun _ => ([(1, .ptr H.length 0), (2, .ptr (H.length + 1) 0), (4, .ptr (H.length + 2) 0), (5, cb (preJ j))], H ++ [some (jrC j), some zst, some (stJ j 0)], V)) (fun _ => True) ?_ ?_
  · refine SWp.drawnT [] [] (.s 0 .pl <| .s 1 .pl <| .s 2 .pl <| .s 3 .pl <| .s 4 .pl <| .s 5 .pl <| .s 6 .pl <| .s 7 .pl <| .s 8 .pl <| .s 9 .pl <| .s 10 .pl <| .s 11 .pl <| .s 12 .pl <| .s 13 .pl <| .s 14 .pl <| .s 15 .pl <| .s 16 .pl <| .s 17 .pl <| .s 18 .pl <| .s 19 .pl <| .s 20 .pl <| .s 21 .pl <| .s 22 .pl <| .s 23 .pl <| .s 24 .pl <| .s 25 .pl <| .s 26 .pl <| .s 27 .pl <| .s 28 .pl <| .s 29 .pl <| .s 30 .pl <| .n) (by kernel_rfl) (by kernel_rfl) ?_
    by_cases c1 : 0 ≤ j.head
    case neg =>
      simp -implicitDefEqProofs [go_sem, c1]
      exact Sh.forget (by simp [go_sem, ← nf false (by simp; omega)]) rfl rfl
    simp -implicitDefEqProofs [go_sem, c1]
    refine CC.mono (length_cc _ _ _ _ hv) ?_
    rintro _ _ _ ⟨rfl, rfl, rfl⟩
    by_cases c2 : j.head < j.count - 16
    case neg =>
      simp -implicitDefEqProofs [go_sem, c1, c2]
      exact Sh.forget (by simp [go_sem, ← nf false (by simp; omega)]) rfl rfl
    by_cases c3 : 1 ≤ j.first
    case neg =>
      simp -implicitDefEqProofs [go_sem, c1, c2, c3]
      exact Sh.forget (by simp [go_sem, ← nf false (by simp; omega)]) rfl rfl
    by_cases c4 : j.first ≤ 1073741824
    case neg =>
      simp -implicitDefEqProofs [go_sem, c1, c2, c3, c4]
      exact Sh.forget (by simp [go_sem, ← nf false (by simp; omega)]) rfl rfl
    have w0 : IntKind.i64.wrap (1073741824 - j.first) = 1073741824 - j.first := IntWalk.i64_in _ ⟨by omega, by omega⟩
    by_cases c5 : (j.sizes.length : Int) ≤ 1073741824 - j.first
    case neg =>
      simp -implicitDefEqProofs [go_sem, c1, c2, c3, c4, c5, w0]
      exact Sh.forget (by simp [go_sem, ← nf false (by simp; omega)]) rfl rfl
    simp -implicitDefEqProofs [go_sem, c1, c2, c3, c4, c5, w0]
    exact Sh.forget (by simp [go_sem, ← nf true (by simp; omega)]) rfl rfl
  rintro _ -
  dsimp only
  refine SWp.seq (Wp.s ?_)
  simp -implicitDefEqProofs [go_sem]
  refine CC.mono (RSize_cc _ _ _) ?_
  rintro _ _ _ ⟨rfl, rfl, rfl⟩
  simp -implicitDefEqProofs [go_sem, show szR 4096 = 1026 from rfl]
  refine SWp.seq (Wp.s ?_)
  simp -implicitDefEqProofs [go_sem]
  refine SWp.join (α := Int) (fun u => ([(1, .ptr H.length 0), (2, .ptr (H.length + 1) 0), (4, .ptr (H.length + 2) 0), (5, cb (bJ j))], H ++ [some (jrC j), some zst, some (stJ j u)], V))
    (fun u => XE j u) ?_ ?_
  · refine SWp.seq (Wp.s ?_)
    simp -implicitDefEqProofs [go_sem]
    refine SWp.block ?_
    refine SWp.loop (α := Nat) (fun i => ([(1, .ptr H.length 0), (2, .ptr (H.length + 1) 0), (4, .ptr (H.length + 2) 0), (5, cb (preJ j)), (6, iv 1026), (51, .sl .sh 1 (j.sizes.map ic)), (52, ci j.sizes.length), (53, ci i)], H ++ [some (jrC j), some zst, some (stJ j (sumI (j.sizes.take i)))], V)) (fun i => XL j i) (fun i => j.sizes.length - i) 0 ⟨Nat.zero_le _, rfl, by show (0 : Int) ≤ _; omega⟩ (Sh.forget (by simp [go_sem, sumI]) rfl rfl) ?_
    rintro i hx
    dsimp only at hx ⊢
    have hi := hx.1
    have hs := hx.2.2
    have g1 := sumI_ge _ hx.2.1
    refine SWp.seq (Wp.s ?_)
    simp -implicitDefEqProofs [go_sem]
    refine SWp.seq (Wp.s ?_)
    simp -implicitDefEqProofs [go_sem]
    refine ⟨fun h => ?_, fun h => ⟨_, (XE.all hx h).1, Sh.forget (by simp [go_sem, (XE.all hx h).2]) rfl rfl⟩⟩
    refine SWp.seq (SWp.block (SWp.seq (Wp.s ?_)))
    simp -implicitDefEqProofs [go_sem, h]
    refine SWp.seq (SWp.seq (SWp.drawnT [] [] (.s 0 .pl <| .s 1 .pl <| .s 2 .pl <| .s 3 .pl <| .s 4 .pl <| .s 5 .pl <| .s 6 .pl <| .s 7 .pl <| .s 8 .pl <| .s 9 .pl <| .s 10 .pl <| .s 11 .pl <| .s 12 .pl <| .s 13 .pl <| .s 14 .pl <| .s 15 .pl <| .s 16 .pl <| .n) (by kernel_rfl) (by kernel_rfl) ?_))
    by_cases c1 : j.sizes[i] < 2
    · simp -implicitDefEqProofs [go_sem, c1]
      refine Wp.s ?_
      simp -implicitDefEqProofs [go_sem]
      exact ⟨_, (XE.bad hx h (by omega)).1, Sh.forget (by simp [go_sem, (XE.bad hx h (by omega)).2]) rfl rfl⟩
    by_cases c2 : 1026 < j.sizes[i]
    · simp -implicitDefEqProofs [go_sem, c1, c2]
      refine Wp.s ?_
      simp -implicitDefEqProofs [go_sem]
      exact ⟨_, (XE.bad hx h (by omega)).1, Sh.forget (by simp [go_sem, (XE.bad hx h (by omega)).2]) rfl rfl⟩
    have w1 : IntKind.i64.wrap (sumI (j.sizes.take i) + j.sizes[i]) = sumI (j.sizes.take i) + j.sizes[i] := IntWalk.i64_in _ ⟨by omega, by omega⟩
    simp -implicitDefEqProofs [go_sem, c1, c2, w1]
    refine CC.mono (length_cc _ _ _ _ hv) ?_
    rintro _ _ _ ⟨rfl, rfl, rfl⟩
    by_cases c3 : j.count - 16 < sumI (j.sizes.take i) + j.sizes[i]
    · simp -implicitDefEqProofs [go_sem, c3]
      refine Wp.s ?_
      simp -implicitDefEqProofs [go_sem]
      exact ⟨_, (XE.bad hx h (by omega)).1, Sh.forget (by simp [go_sem, (XE.bad hx h (by omega)).2]) rfl rfl⟩
    simp -implicitDefEqProofs [go_sem, c3]
    refine Wp.s ?_
    simp -implicitDefEqProofs [go_sem]
    refine Wp.s ?_
    simp -implicitDefEqProofs [go_sem, w1, stJ_upd]
    refine Wp.s ?_
    simp -implicitDefEqProofs [go_sem]
    refine ⟨i + 1, XL.succ hx h (by omega) (by omega) (by omega), by omega, Sh.forget ?_ ?_ rfl⟩
    · simp [go_sem, wrap_succ (show i ≤ 1000000000 by omega)]
    · rw [sumI_take _ _ h]
  rintro u hx
  dsimp only at hx ⊢
  obtain ⟨hu1, hu2, hu⟩ := hx
  refine SWp.seq (SWp.drawnT [H.length, H.length + 2] [16] (.s 0 .pl <| .s 1 .pl <| .s 2 .pl <| .s 3 .pl <| .s 4 .ld <| .s 5 .pl <| .s 6 .ld <| .s 7 .pl <| .s 8 .ld <| .s 9 .pl <| .s 10 .pl <| .s 11 .ld <| .s 12 .pl <| .s 13 .pl <| .s 14 .pl <| .s 15 .pl <| .s 16 .st <| .s 17 .pl <| .n) (by kernel_rfl) (by kernel_rfl) ?_)
  cases hb : bJ j with
  | false =>
    simp -implicitDefEqProofs [go_sem, hb]
    refine Wp.s ?_
    simp -implicitDefEqProofs [go_sem]
    exact fin _ u false (by rw [chkJ_bJ j hv, hb]; rfl) fun h => by rw [chkJ_bJ j hv, hb] at h; cases h
  | true =>
    have hpre : preJ j = true := by
      rw [bJ, Bool.and_eq_true, Bool.and_eq_true] at hb; exact hb.1.1
    have hp := (preJ_iff j).1 hpre
    have w1 : IntKind.i64.wrap (j.head + u) = j.head + u := IntWalk.i64_in _ ⟨by omega, by omega⟩
    have w2 : IntKind.i64.wrap ((j.head + u).tmod (j.count - 16)) = (j.head + u) % (j.count - 16) := by
      rw [Int.tmod_eq_emod_of_nonneg (by omega)]
      have := Int.emod_nonneg (j.head + u) (show j.count - 16 ≠ 0 by omega)
      have := Int.emod_lt_of_pos (j.head + u) (show 0 < j.count - 16 by omega)
      exact IntWalk.i64_in _ ⟨by omega, by omega⟩
    simp -implicitDefEqProofs [go_sem, hb, w1]
    refine CC.mono (length_cc _ _ _ _ hv) ?_
    rintro _ _ _ ⟨rfl, rfl, rfl⟩
    simp -implicitDefEqProofs [go_sem]
    have t1 := Int.tmod_eq_emod_of_nonneg (b := j.count - 16) (show 0 ≤ j.head + u by omega)
    refine ⟨by omega, Wp.s ?_⟩
    simp -implicitDefEqProofs [go_sem]
    refine fin _ u _ ?_ fun _ => hu hb
    rw [chkJ_bJ j hv, hb, t1, hu hb]; simp
end Go.Proofs.YtbnkggbpocaaiaaGreatDoor
namespace Go.Proofs.YtbnkggbpocaaiaaGreatDoor
open Go.Proofs
def ckE (j : Jrn) : Nat := if chkJ j then 0 else 3
def nxJ (j : Jrn) : Int := if chkJ j then nextJ j else 0
theorem chkJ_next {j : Jrn} (h : chkJ j = true) : 1 ≤ j.first ∧ j.first + j.sizes.length ≤ 1073741824 := by
  have := (preJ_iff j).1 ((chkJ_iff j).1 h).2.1
  omega
theorem chkJ_sum {j : Jrn} (h : chkJ j = true) : 0 ≤ sumI j.sizes ∧ sumI j.sizes ≤ j.count - 16 ∧ 2 * (j.sizes.length : Int) ≤ sumI j.sizes := by
  have h := (chkJ_iff j).1 h
  have := sumI_ge _ h.2.2.1
  omega
theorem chkJ_val {j : Jrn} (h : chkJ j = true) : validJ j.start j.count = true := ((chkJ_iff j).1 h).1
theorem JCheck_cc (H : Hp) (V : List Nat) (j : Jrn) (hl : j.sizes.length ≤ 1000000000) : CC Tryz.prog 72 [.agg (jrC j)] H V (Pu (er (ckE j)) H V) := by
  refine CC.of_swp Tryz.func72 rfl (by kernel_rfl) (by rw [Tryz.ntmps72]; exact len_le _ _ rfl) fun hok hokH => ?_
  clear hok
  refine SWp.seq (Wp.s ?_)
  simp -implicitDefEqProofs [go_sem, args0]
  refine SWp.seq (SWp.seq (Wp.s ?_))
  simp -implicitDefEqProofs [go_sem]
  refine CC.mono (examine_cc _ _ j hl) ?_
  rintro _ _ _ ⟨u, rfl, rfl, rfl, hu⟩
  simp -implicitDefEqProofs [go_sem]
  by_cases h : chkJ j = true
  · refine Wp.s ?_
    simp -implicitDefEqProofs [go_sem, h]
    refine Wp.s ?_
    simp -implicitDefEqProofs [go_sem]
    exact Fin.er (by rw [ckE, if_pos h]) hokH (by simp) (by simp)
  · refine Wp.s ?_
    simp -implicitDefEqProofs [go_sem, h]
    exact Fin.er (by rw [ckE, if_neg h]) hokH (by simp) (by simp)
theorem JNext_cc (H : Hp) (V : List Nat) (j : Jrn) (hl : j.sizes.length ≤ 1000000000) : CC Tryz.prog 59 [.agg (jrC j)] H V (Pu (iv (nxJ j)) H V) := by
  refine CC.of_swp Tryz.func59 rfl (by kernel_rfl) (by rw [Tryz.ntmps59]; exact len_le _ _ rfl) fun hok hokH => ?_
  clear hok
  refine SWp.seq (Wp.s ?_)
  simp -implicitDefEqProofs [go_sem, args0]
  refine SWp.seq (Wp.s ?_)
  simp -implicitDefEqProofs [go_sem]
  refine CC.mono (examine_cc _ _ j hl) ?_
  rintro _ _ _ ⟨u, rfl, rfl, rfl, hu⟩
  simp -implicitDefEqProofs [go_sem]
  refine SWp.seq (SWp.seq (Wp.s ?_))
  by_cases h : chkJ j = true
  · simp -implicitDefEqProofs [go_sem, h]
    refine Wp.s ?_
    simp -implicitDefEqProofs [go_sem]
    refine Wp.s ?_
    simp -implicitDefEqProofs [go_sem]
    refine CC.mono (next_cc _ _ j u (chkJ_next h).1 (chkJ_next h).2) ?_
    rintro _ _ _ ⟨rfl, rfl, rfl⟩
    simp -implicitDefEqProofs [go_sem]
    exact Fin.int (by rw [nxJ, if_pos h]) hokH (by simp) (by simp)
  · simp -implicitDefEqProofs [go_sem, h]
    refine Wp.s ?_
    simp -implicitDefEqProofs [go_sem]
    exact Fin.int (by rw [nxJ, if_neg h]) hokH (by simp) (by simp)
end Go.Proofs.YtbnkggbpocaaiaaGreatDoor
namespace Go.Proofs.YtbnkggbpocaaiaaGreatDoor
open Go.Proofs
theorem XL.ok {j : Jrn} (h : j.sizes.all okSz = true) {i : Nat} (hi : i < j.sizes.length) : 2 ≤ j.sizes[i] ∧ j.sizes[i] ≤ 1026 := (okSz_iff _).1 (List.all_eq_true.1 h _ (List.getElem_mem hi))
end Go.Proofs.YtbnkggbpocaaiaaGreatDoor
namespace Go.Proofs.YtbnkggbpocaaiaaGreatDoor
open Go.Proofs
theorem payload_cc (H : Hp) (V : List Nat) (h f : Int) : CC Tryz.prog 109 [iv h, iv f] H V (Pu (.sl .sh 1 (bs (superJ h f))) H V) := by
  refine CC.of_swp Tryz.func109 rfl (by kernel_rfl) (by rw [Tryz.ntmps109]; exact len_le _ _ rfl) fun hok hokH => ?_
  clear hok
  have l1 := enc_len h
  refine SWp.seq (Wp.s ?_)
  simp -implicitDefEqProofs [go_sem, args0]
  refine SWp.seq (Wp.s ?_)
  simp -implicitDefEqProofs [go_sem]
  refine CC.le (ys := [.sl .sh 1 (bs []), iv h]) (.cons (.nil 1 (by decide)) (.cons (.refl _) .nil)) ?_
  refine CC.mono (PutInt_cc _ _ .sh [] h (by simp)) ?_
  rintro _ _ _ ⟨v, rfl, rfl, rfl⟩
  simp -implicitDefEqProofs [go_sem]
  refine CC.mono (PutInt_cc _ _ _ (enc h) f (by omega)) ?_
  rintro _ _ _ ⟨v2, rfl, rfl, rfl⟩
  simp -implicitDefEqProofs [go_sem]
  refine Wp.s ?_
  simp -implicitDefEqProofs [go_sem]
  exact Fin.pu (.sh _ _ _) (by rw [okV]; exact ⟨trivial, okBs _ _ _⟩) hokH (by simp) (by simp)
end Go.Proofs.YtbnkggbpocaaiaaGreatDoor
namespace Go.Proofs.YtbnkggbpocaaiaaGreatDoor
open Go.Proofs
def kW (c p : Int) (l : List Sec) : Nat := min l.length (c - 16 - p).toNat
theorem wrapW_1 {s c p : Int} {l : List Sec} (h : kW c p l < l.length) : wrapW s c p l = [opW (s + 16 + p) (l.take (kW c p l)), opW (s + 16) (l.drop (kW c p l))] := by
  show opW _ _ :: (if kW c p l < l.length then _ else _) = _
  rw [if_pos h]; rfl
theorem wrapW_0 {s c p : Int} {l : List Sec} (h : ¬ kW c p l < l.length) : wrapW s c p l = [opW (s + 16 + p) (l.take (kW c p l))] := by
  show opW _ _ :: (if kW c p l < l.length then _ else _) = _
  rw [if_neg h]; rfl
theorem write_cc (H : Hp) (V : List Nat) (s c p : Int) (l : List Sec) (h : validJ s c = true) (h1 : 0 ≤ p) (h2 : p ≤ c - 16) (hl : l.length ≤ 1000000) : CC Tryz.prog 106 [.agg [iv s, iv c], iv p, secsV l] H V (Fr 3 ((wrapW s c p l).map opC) H V) := by
  refine CC.of_swp Tryz.func106 rfl (by kernel_rfl) (by rw [Tryz.ntmps106]; exact len_le _ _ rfl) fun hok hokH => ?_
  clear hok
  have hv := (validJ_iff s c).1 h
  obtain ⟨k, hk⟩ : ∃ k, k = kW c p l := ⟨_, rfl⟩
  have hkm : min (l.length : Int) (c - 16 - p) = (k : Int) := by rw [hk, kW]; omega
  have hkl : k ≤ l.length := by rw [hk, kW]; omega
  have w1 : IntKind.i64.wrap (c - 16 - p) = c - 16 - p := IntWalk.i64_in _ ⟨by omega, by omega⟩
  refine SWp.seq (Wp.s ?_)
  simp -implicitDefEqProofs [go_sem, args0]
  refine SWp.seq (Wp.s ?_)
  simp -implicitDefEqProofs [go_sem]
  refine CC.mono (length_cc _ _ _ _ h) ?_
  rintro _ _ _ ⟨rfl, rfl, rfl⟩
  simp -implicitDefEqProofs [go_sem, w1, hkm]
  refine SWp.seq (SWp.drawnT [] [] (.s 0 .pl <| .s 1 .pl <| .s 3 .pl <| .s 4 .pl <| .s 5 .pl <| .s 6 .pl <| .s 2 .pl <| .s 7 .pl <| .s 8 .pl <| .s 9 .pl <| .n) (by kernel_rfl) (by kernel_rfl) ?_)
  simp -implicitDefEqProofs [go_sem, hkl]
  refine CC.mono (sector_cc _ _ _ _ _ h h1 (by omega)) ?_
  rintro _ _ _ ⟨rfl, rfl, rfl⟩
  simp -implicitDefEqProofs [go_sem]
  by_cases hw : k < l.length
  case neg =>
    have hw' : ¬ (k : Int) < (l.length : Int) := by omega
    refine SWp.seq (SWp.seq (Wp.s ?_))
    simp -implicitDefEqProofs [go_sem, hw]
    refine Wp.s ?_
    simp -implicitDefEqProofs [go_sem]
    refine Wp.s ?_
    simp -implicitDefEqProofs [go_sem]
    rw [wrapW_0 (by rw [← hk]; exact hw), ← hk]
    refine Fin.ge (Ge.slk (ys := [opW (s + 16 + p) (l.take k)].map opC) (.cons (.cons (.refl _) (.cons (.refl _) (.cons (by rw [← List.map_take]; exact .sh _ _ _) .nil))) .nil)) ?_
    exact Fin.frtok (by decide) (.inr rfl) (by simp [go_sem, okE_ops]) hokH (by simp) (by simp)
  refine SWp.seq (SWp.seq (Wp.s ?_))
  simp -implicitDefEqProofs [go_sem, hw]
  refine SWp.condT (by simp [go_sem]) ?_
  refine SWp.drawnT [] [] (.s 0 .pl <| .s 1 .pl <| .s 3 .pl <| .s 4 .pl <| .s 5 .pl <| .s 2 .pl <| .s 6 .pl <| .s 7 .pl <| .s 8 .pl <| .s 9 .pl <| .n) (by kernel_rfl) (by kernel_rfl) ?_
  simp -implicitDefEqProofs [go_sem, hkl]
  refine CC.mono (sector_cc _ _ _ _ _ h (Int.le_refl 0) (by omega)) ?_
  rintro _ _ _ ⟨rfl, rfl, rfl⟩
  simp -implicitDefEqProofs [go_sem]
  refine Wp.s ?_
  simp -implicitDefEqProofs [go_sem]
  rw [wrapW_1 (by rw [← hk]; exact hw), ← hk]
  refine Fin.ge (Ge.slk (ys := [opW (s + 16 + p) (l.take k), opW (s + 16) (l.drop k)].map opC) (.cons (.cons (.refl _) (.cons (.refl _) (.cons (by rw [← List.map_take]; exact .sh _ _ _) .nil))) (.cons (.cons (.refl _) (.cons (.refl _) (.cons (by rw [← List.map_drop]; exact .refl _) .nil))) .nil))) ?_
  exact Fin.fresh rfl (by simp [go_sem, okE_ops]) hokH (by simp)
theorem jrC_take5 (j : Jrn) : List.take 5 (jrC j) = [iv j.start, iv j.count, iv j.head, iv j.tail, iv j.first] := rfl
theorem own_cc (H : Hp) (V : List Nat) (j : Jrn) (u : Int) (hl : j.sizes.length ≤ 1000000000) : CC Tryz.prog 118 [.agg (stJ j u)] H V (fun r H' V' => ∃ v, r = .agg [iv j.start, iv j.count, iv j.head, iv j.tail, iv j.first, .sl (.own V.length v) 1 (j.sizes.map ic)] ∧ H = H' ∧ V ++ [v] = V') := by
  refine CC.of_swp Tryz.func118 rfl (by kernel_rfl) (by rw [Tryz.ntmps118]; exact len_le _ _ rfl) fun hok hokH => ?_
  clear hok
  refine SWp.seq (Wp.s ?_)
  simp -implicitDefEqProofs [go_sem, args0]
  refine SWp.seq (Wp.s ?_)
  simp -implicitDefEqProofs [go_sem]
  refine SWp.seq (Wp.s ?_)
  simp -implicitDefEqProofs [go_sem, jrC_take5]
  refine ⟨by omega, ?_⟩
  refine SWp.seq (Wp.s ?_)
  simp -implicitDefEqProofs [go_sem]
  refine Wp.s ?_
  simp -implicitDefEqProofs [go_sem]
  refine Fin.cut H.length (V.length + 1) ⟨0, rfl, rfl, rfl⟩ (Nat.le_refl _) (by omega) (by simp) (by simp) (.refl _) ?_ fun b cs hb => okL_mono (Nat.le_refl _) (by omega) (hokH b cs hb)
  simp [go_sem, okL, okV, okE_ints]
end Go.Proofs.YtbnkggbpocaaiaaGreatDoor
namespace Go.Proofs.YtbnkggbpocaaiaaGreatDoor
open Go.Proofs
def jtV (x : Jrn × List Opn × Nat) : CV := .tup [.agg (jrC x.1), opsV x.2.1, er x.2.2]
theorem formatJ_no {s c : Int} (h : ¬ validJ s c = true) : formatJ s c = (zjr, [], 2) := by rw [formatJ, if_pos (by simpa using h)]
theorem superJ_01 : superJ 0 1 = [0, 1] := by rw [superJ, enc, enc, norm, norm, if_neg (by decide), if_neg (by decide), show (0 : Int).toNat = 0 from rfl, show (1 : Int).toNat = 1 from rfl, encN_lt (by decide), encN_lt (by decide)]; rfl
def fmtOps (s : Int) : List Opn := [opW s (List.replicate 16 sec0), opS, opW s (copyS 1 [0, 1]), opS]
theorem formatS_ok {s c : Int} (h : validJ s c = true) : formatS s (superJ 0 1) = (fmtOps s, 0) := by
  have hv := (validJ_iff s c).1 h
  rw [superJ_01, formatS, if_neg (by omega), if_neg (by decide)]; rfl
theorem formatJ_ok {s c : Int} (h : validJ s c = true) : formatJ s c = (⟨s, c, 0, 0, 1, []⟩, opW (s + 16) (List.replicate (c - 16).toNat sec0) :: opS :: fmtOps s, 0) := by
  rw [formatJ, if_neg (by simp [h]), formatS_ok h, if_neg (by simp)]
theorem fin_jt {H H' : Hp} {V V' : List Nat} {x : Jrn × List Opn × Nat} {a b : CV} {e : Nat} (h1 : Le a (.agg (jrC x.1))) (h2 : Le b (opsV x.2.1)) (h3 : e = x.2.2) (hokH : ∀ (b : Nat) cs, H[b]? = some (some cs) → okL H.length V.length cs) (hH : H'.take H.length = H) (hV : V'.take V.length = V) :
    Fin H.length V.length (Pu (jtV x) H V) (.tup [a, b, er e]) H' V' := by
  subst h3
  refine Fin.pu (.tup (.cons h1 (.cons h2 (.cons (.refl _) .nil)))) ?_ hokH hH hV
  rw [jtV, okV, okL, okL, okL, okL]
  simp [go_sem, okL, okV, okL_jrC, okE_ops]
abbrev zjC : List CV := [iv 0, iv 0, iv 0, iv 0, iv 0, .v (.slice none 0 0)]
theorem zj_le : Le (.agg zjC) (.agg (jrC zjr)) := .agg (.cons (.refl _) (.cons (.refl _) (.cons (.refl _) (.cons (.refl _) (.cons (.refl _) (.cons (.nil 1 (by decide)) .nil))))))
theorem LeE.app {a b : List (List CV)} {c d : List (List CV)} : LeE a b → LeE c d → LeE (a ++ c) (b ++ d)
  | .nil, h => h
  | .cons h t, g => .cons h (LeE.app t g)
theorem LeL.rfl' : ∀ l : List CV, LeL l l
  | [] => .nil
  | c :: l => .cons (.refl c) (LeL.rfl' l)
theorem LeE.rfl' : ∀ l : List (List CV), LeE l l
  | [] => .nil
  | c :: l => .cons (LeL.rfl' c) (LeE.rfl' l)
theorem LeE.sync : LeE [[iv 1, iv 0, .v (.slice none 0 0)]] ([opS].map opC) := .cons (.cons (.refl _) (.cons (.refl _) (.cons (.nil 8 (by decide)) .nil))) .nil
theorem ops_le (A B : List Opn) : LeE (A.map opC ++ [iv 1, iv 0, .v (.slice none 0 0)] :: B.map opC) ((A ++ opS :: B).map opC) := by
  rw [List.map_append, List.map_cons]
  exact LeE.app (LeE.rfl' _) (LeE.app LeE.sync (LeE.rfl' (B.map opC)))
theorem jr0_le (s c : Int) : Le (.agg [iv s, iv c, iv 0, iv 0, iv 1, .v (.slice none 0 0)]) (.agg (jrC ⟨s, c, 0, 0, 1, []⟩)) := .agg (.cons (.refl _) (.cons (.refl _) (.cons (.refl _) (.cons (.refl _) (.cons (.refl _) (.cons (.nil 1 (by decide)) .nil))))))
theorem wrapW_all {s c : Int} (h : validJ s c = true) : wrapW s c 0 (List.replicate (c - 16).toNat sec0) = [opW (s + 16) (List.replicate (c - 16).toNat sec0)] := by
  have hk : kW c 0 (List.replicate (c - 16).toNat sec0) = (c - 16).toNat := by rw [kW, List.length_replicate]; simp
  rw [wrapW_0 (by rw [hk, List.length_replicate]; omega), hk, List.take_of_length_le (by simp), Int.add_zero]
theorem call_zeros {f : FuncId} {H : Hp} {V : List Nat} {R : CV → Hp → List Nat → Prop} {xs : List CV} (b n : Nat) (hb : H[b]? = some (some (secsF (List.replicate n sec0)))) (hc : CC Tryz.prog f (xs ++ [secsV (List.replicate n sec0)]) (H.set b none) V R) : CC Tryz.prog f (xs ++ [.bsl b 0 n 8]) H V R := by
  have hch : chunks 8 n ((secsF (List.replicate n sec0)).drop 0) = (List.replicate n sec0).map secC := by
    have := chunks_secs (List.replicate n sec0)
    rwa [List.length_replicate] at this
  refine CC.let_go _ b _ hb ?_ hc
  have : ∀ xs : List CV, FyL b (secsF (List.replicate n sec0)) (xs ++ [.bsl b 0 n 8]) (xs ++ [secsV (List.replicate n sec0)]) := fun xs => by
    induction xs with
    | nil =>
      refine .cons ?_ .nil
      show Fy _ _ _ (.sl .sh 8 ((List.replicate n sec0).map secC))
      rw [← hch]
      exact .bsl _ _ _ (by simp [Nat.mul_comm])
    | cons x xs ih => exact .cons (.refl _) ih
  exact this xs
theorem Format_cc (H : Hp) (V : List Nat) (s c : Int) : CC Tryz.prog 45 [.agg [iv s, iv c]] H V (Pu (jtV (formatJ s c)) H V) := by
  refine CC.of_swp Tryz.func45 rfl (by kernel_rfl) (by rw [Tryz.ntmps45]; exact len_le _ _ rfl) fun hok hokH => ?_
  clear hok
  refine SWp.seq (Wp.s ?_)
  simp -implicitDefEqProofs [go_sem, args0]
  refine SWp.seq (Wp.s ?_)
  simp -implicitDefEqProofs [go_sem]
  refine SWp.seq (SWp.seq (Wp.s ?_))
  simp -implicitDefEqProofs [go_sem]
  refine CC.mono (valid_cc _ _ _ _) ?_
  rintro _ _ _ ⟨rfl, rfl, rfl⟩
  by_cases h : validJ s c = true
  case neg =>
    simp -implicitDefEqProofs [go_sem, h]
    refine Wp.s ?_
    simp -implicitDefEqProofs [go_sem]
    rw [formatJ_no h]
    exact fin_jt zj_le (.nil 3 (by decide)) rfl hokH (by simp) (by simp)
  have hv := (validJ_iff s c).1 h
  simp -implicitDefEqProofs [go_sem, h]
  refine Wp.s ?_
  simp -implicitDefEqProofs [go_sem]
  refine SWp.seq (SWp.drawnT [H.length + 2] [4] (.s 0 .pl <| .s 1 .ld <| .s 5 .pl <| .s 6 .pl <| .s 2 .pl <| .s 3 .pl <| .s 4 .st <| .s 7 .pl <| .s 8 .pl <| .n) (by kernel_rfl) (by kernel_rfl) ?_)
  simp -implicitDefEqProofs [go_sem]
  refine CC.mono (length_cc _ _ _ _ h) ?_
  rintro _ _ _ ⟨rfl, rfl, rfl⟩
  simp -implicitDefEqProofs [go_sem, -List.reduceReplicate]
  refine ⟨by omega, by omega, ?_⟩
  have hz := zeros_secs (c - 16).toNat
  simp only [List.map_cons, List.map_nil] at hz
  rw [hz]
  refine call_zeros (xs := [.agg [iv s, iv c], iv 0]) (H.length + 3) (c - 16).toNat (by simp) ?_
  refine CC.mono (write_cc _ _ s c 0 (List.replicate (c - 16).toNat sec0) h (Int.le_refl 0) (by omega) (by simp; omega)) ?_
  rintro _ _ _ ⟨v, rfl, rfl, rfl⟩
  rw [wrapW_all h]
  obtain ⟨A, hA⟩ : ∃ A, A = [opW (s + 16) (List.replicate (c - 16).toNat sec0)] := ⟨_, rfl⟩
  rw [← hA]
  simp -implicitDefEqProofs [go_sem]
  refine ⟨Kp.keep fun b hb => ?_, by subst hA; simp, ?_⟩
  · obtain rfl : b = H.length + 2 := by simpa using hb
    simp
  refine SWp.seq (SWp.drawnT [] [] (.s 0 .pl <| .s 1 .pl <| .s 2 .pl <| .s 3 .pl <| .s 4 .pl <| .s 5 .pl <| .s 6 .pl <| .s 7 .pl <| .s 8 .pl <| .n) (by kernel_rfl) (by kernel_rfl) ?_)
  simp -implicitDefEqProofs [go_sem]
  refine CC.mono (payload_cc _ _ _ _) ?_
  rintro _ _ _ ⟨rfl, rfl, rfl⟩
  simp -implicitDefEqProofs [go_sem]
  refine CC.mono (sFormat_cc _ _ s _ _) ?_
  rintro _ _ _ ⟨rfl, rfl, rfl⟩
  rw [formatS_ok h]
  simp -implicitDefEqProofs [go_sem, stV]
  refine SWp.seq (SWp.seq (Wp.s ?_))
  simp -implicitDefEqProofs [go_sem]
  refine Wp.s ?_
  simp -implicitDefEqProofs [go_sem]
  refine SWp.seq (SWp.drawnT [] [5] (.s 0 .pl <| .s 1 .pl <| .s 2 .pl <| .s 3 .pl <| .s 4 .pl <| .s 5 .st <| .s 6 .pl <| .s 7 .pl <| .n) (by kernel_rfl) (by kernel_rfl) ?_)
  simp -implicitDefEqProofs [go_sem]
  refine ⟨by subst hA; simp [fmtOps], ?_⟩
  refine Wp.s ?_
  simp -implicitDefEqProofs [go_sem]
  rw [formatJ_ok h]
  refine fin_jt (jr0_le s c) ?_ rfl hokH (by simp) (by simp)
  subst hA
  exact .sle _ _ (ops_le _ _)
theorem FyL.rfl' (b : Nat) (cs : List CV) : ∀ l : List CV, FyL b cs l l
  | [] => .nil
  | c :: l => .cons (.refl c) (FyL.rfl' b cs l)
theorem FyE.rfl' (b : Nat) (cs : List CV) : ∀ l : List (List CV), FyE b cs l l
  | [] => .nil
  | c :: l => .cons (FyL.rfl' b cs c) (FyE.rfl' b cs l)
theorem Fy.zeros (b n : Nat) : Fy b (secsF (List.replicate n sec0)) (.bsl b 0 n 8) (secsV (List.replicate n sec0)) := by
  have hch : chunks 8 n ((secsF (List.replicate n sec0)).drop 0) = (List.replicate n sec0).map secC := by
    have := chunks_secs (List.replicate n sec0)
    rwa [List.length_replicate] at this
  show Fy _ _ _ (.sl .sh 8 ((List.replicate n sec0).map secC))
  rw [← hch]
  exact .bsl _ _ _ (by simp [Nat.mul_comm])
end Go.Proofs.YtbnkggbpocaaiaaGreatDoor
namespace Go.Proofs.YtbnkggbpocaaiaaGreatDoor
open Go.Proofs
def encV : Except Nat (List Sec) → CV
  | .ok l => .tup [secsV l, er 0]
  | .error e => .tup [secsV [], er e]
theorem okV_encV (i j : Nat) (x : Except Nat (List Sec)) : okV i j (encV x) := by
  cases x <;> simp only [encV] <;> rw [okV, okL, okL, okL] <;> exact ⟨okV_secsV _ _ _, okV_er _ _ _, trivial⟩
theorem enc_bad {r : Rcd} (h : r.kind < 1 ∨ 255 < r.kind ∨ r.sq < 1 ∨ 4294967295 < r.sq) : encR r = .error 2 := by rw [encR, if_pos h]
theorem enc_long {r : Rcd} (h : ¬ (r.kind < 1 ∨ 255 < r.kind ∨ r.sq < 1 ∨ 4294967295 < r.sq)) (h2 : 4096 < r.pay.length) : encR r = .error 5 := by rw [encR, if_neg h, if_pos h2]
theorem enc_ok {r : Rcd} (h : ¬ (r.kind < 1 ∨ 255 < r.kind ∨ r.sq < 1 ∨ 4294967295 < r.sq)) (h2 : ¬ 4096 < r.pay.length) : encR r = .ok (secsR r.sq.toNat (strmR r.kind r.pay)) := by rw [encR, if_neg h, if_neg h2]
theorem leN_2 (n : Nat) : leN n 2 = [UInt8.ofNat (n % 256), UInt8.ofNat (n / 256 % 256)] := by
  have e : ∀ m : Nat, byt (m : Int) = UInt8.ofNat (m % 256) := fun m => by
    apply UInt8.toNat_inj.1
    have := byt_toNat (m : Int)
    rw [UInt8.toNat_ofNat']; omega
  simp only [leN, e, List.nil_append, List.cons_append, dvP]
  rw [show (256 : Nat) ^ 0 = 1 from rfl, Nat.div_one]
theorem body_eq (k : Int) (p : List UInt8) : bodyR k p = [byt k] ++ leN p.length 2 ++ p := by rw [leN_2]; rfl
theorem body_len (k : Int) (p : List UInt8) : (bodyR k p).length = p.length + 3 := rfl
theorem strm_len (k : Int) (p : List UInt8) : (strmR k p).length = p.length + 7 := by rw [strmR, List.length_append, body_len, le4_len]
theorem u8s_1 (x : Int) : [[CV.v (.int .u8 (IntKind.u8.wrap x))]] = bs [byt x] := by rw [wrap_u8]; rfl
theorem wrap_rn (r : Reg) : IntKind.i64.wrap (rn r) = ((r.toNat : Nat) : Int) := by
  have := r.isLt
  exact IntWalk.i64_in _ ⟨by unfold rn; omega, by unfold rn; omega⟩
theorem littleI_cc (H : Hp) (V : List Nat) (n : Int) (k : Nat) (hn : 0 ≤ n) (hk : k ≤ 8) : CC Tryz.prog 170 [iv n, ci k] H V (Fr 1 (bs (leN n.toNat k)) H V) := by
  have := little_cc H V n.toNat k hk
  rwa [Int.toNat_of_nonneg hn] at this
theorem ApS.more {j : Nat} {l : List Sec} {cv : CV} {V W : List Nat} (h : ApS j l cv V) : ApS j l cv (V ++ W) := by
  rcases h with h | ⟨k, v, h1, h2, h3⟩
  · exact .inl h
  · exact .inr ⟨k, v, h1, by rw [List.getElem?_append_left (List.getElem?_eq_some_iff.1 h2).1]; exact h2, h3⟩
theorem secR_val (sq : Nat) (st : List UInt8) (i : Nat) : (secR sq st i).val = le4 sq ++ (pcOf st 4 i ++ List.replicate (4 - (pcOf st 4 i).length) 0) := by
  refine mkSec_val ?_
  show (le4 sq ++ (pcOf st 4 i ++ List.replicate (4 - (pcOf st 4 i).length) 0)).length = 8
  have : (pcOf st 4 i).length ≤ 4 := by rw [pcOf, List.length_take]; omega
  rw [List.length_append, List.length_append, List.length_replicate, le4_len]; omega
theorem secR_cells (sq : Nat) (st : List UInt8) (i : Nat) : List.take 4 (fb (le4 sq ++ [0, 0, 0, 0])) ++ ((bs (pcOf st 4 i)).flatten ++ List.drop (4 + (pcOf st 4 i).length) (fb (le4 sq ++ [0, 0, 0, 0]))) = secC (secR sq st i) := by
  have hn : (pcOf st 4 i).length ≤ 4 := by rw [pcOf, List.length_take]; omega
  have e2 : ∀ n, n ≤ 4 → List.drop (4 + n) (fb (le4 sq ++ [0, 0, 0, 0])) = fb (List.replicate (4 - n) 0) := fun n hn => by
    have h : n = 0 ∨ n = 1 ∨ n = 2 ∨ n = 3 ∨ n = 4 := by omega
    rcases h with rfl | rfl | rfl | rfl | rfl <;> rfl
  rw [e2 _ hn, fb_flat, show List.take 4 (fb (le4 sq ++ [0, 0, 0, 0])) = fb (le4 sq) from rfl, fb_app, fb_app]
  show fb _ = fb (secR sq st i).val
  rw [secR_val]
abbrev HE (H : Hp) (r : Rcd) (st : List UInt8) (cv lp : CV) (W : Hp) : Hp :=
  H ++ (some (rcC r) :: some [cv] :: some [.sl .sh 1 (bs st)] :: some [ci 4] :: some [lp] :: W)
@[go_sem] theorem hbx_W5 (H W L : Hp) (a0 a1 a2 a3 a4 : Option (List CV)) (K : List CV → Prop) : hbx (H ++ (a0 :: a1 :: a2 :: a3 :: a4 :: (W ++ L))) (H.length + (W.length + 5)) K = hbx L 0 K := by
  unfold hbx
  have : (H ++ (a0 :: a1 :: a2 :: a3 :: a4 :: (W ++ L)))[H.length + (W.length + 5)]? = L[0]? := by
    rw [hget]
    simp only [List.getElem?_cons_succ]
    exact hget W L 0
  rw [this]
theorem secsR_n (sq : Nat) (st : List UInt8) : (List.range (nPc st.length 4)).map (secR sq st) = secsR sq st := rfl
set_option maxRecDepth 8000 in
theorem REncode_cc (H : Hp) (V : List Nat) (r : Rcd) (hl : r.pay.length ≤ 900000000) : CC Tryz.prog 117 [.agg (rcC r)] H V (Pu (encV (encR r)) H V) := by
  refine CC.of_swp0 Tryz.func117 rfl (by kernel_rfl) (by rw [Tryz.ntmps117]; exact len_le _ _ rfl) fun hok hokH => ?_
  refine SWp0.seq (SWp.s0 (Wp.s ?_))
  simp -implicitDefEqProofs [go_sem, args0]
  have bad : ∀ (e : Nat) {H' : Hp} {V' : List Nat}, encR r = .error e → H'.take H.length = H → V'.take V.length = V → Fin H.length V.length (Pu (encV (encR r)) H V) (.tup [.v (.slice none 0 0), er e]) H' V' := fun e H' V' h1 h2 h3 => by
    rw [h1]
    exact Fin.pu (.tup (.cons (.nil 8 (by decide)) (.cons (.refl _) .nil))) (okV_encV _ _ (.error e)) hokH h2 h3
  refine SWp0.seq (SWp.s0 (SWp.seq (Wp.s ?_)))
  by_cases c1 : r.kind < 1
  · simp -implicitDefEqProofs [go_sem, c1]
    refine Wp.s ?_
    simp -implicitDefEqProofs [go_sem]
    exact bad 2 (enc_bad (.inl c1)) (by simp) (by simp)
  by_cases c2 : 255 < r.kind
  · simp -implicitDefEqProofs [go_sem, c1, c2]
    refine Wp.s ?_
    simp -implicitDefEqProofs [go_sem]
    exact bad 2 (enc_bad (.inr (.inl c2))) (by simp) (by simp)
  by_cases c3 : r.sq < 1
  · simp -implicitDefEqProofs [go_sem, c1, c2, c3]
    refine Wp.s ?_
    simp -implicitDefEqProofs [go_sem]
    exact bad 2 (enc_bad (.inr (.inr (.inl c3)))) (by simp) (by simp)
  by_cases c4 : 4294967295 < r.sq
  · simp -implicitDefEqProofs [go_sem, c1, c2, c3, c4]
    refine Wp.s ?_
    simp -implicitDefEqProofs [go_sem]
    exact bad 2 (enc_bad (.inr (.inr (.inr c4)))) (by simp) (by simp)
  have hb : ¬ (r.kind < 1 ∨ 255 < r.kind ∨ r.sq < 1 ∨ 4294967295 < r.sq) := by omega
  simp -implicitDefEqProofs [go_sem, c1, c2, c3, c4]
  refine Wp.s ?_
  simp -implicitDefEqProofs [go_sem]
  refine SWp0.seq (SWp.s0 (SWp.seq (Wp.s ?_)))
  by_cases c5 : 4096 < r.pay.length
  · have c5' : 4096 < (r.pay.length : Int) := by omega
    simp -implicitDefEqProofs [go_sem, c5']
    refine Wp.s ?_
    simp -implicitDefEqProofs [go_sem]
    exact bad 5 (enc_long hb c5) (by simp) (by simp)
  have c5' : ¬ 4096 < (r.pay.length : Int) := by omega
  simp -implicitDefEqProofs [go_sem, c5']
  refine Wp.s ?_
  simp -implicitDefEqProofs [go_sem]
  have hE := enc_ok hb c5
  have hsl := strm_len r.kind r.pay
  refine SWp0.seq (SWp.s0 (SWp.drawnT [] [] (.s 0 .pl <| .s 1 .pl <| .s 2 .pl <| .s 3 .pl <| .s 4 .pl <| .s 5 .pl <| .s 6 .pl <| .s 7 .pl <| .s 8 .pl <| .s 9 .pl <| .n) (by kernel_rfl) (by kernel_rfl) ?_))
  simp -implicitDefEqProofs [go_sem]
  refine CC.mono (little_cc _ _ r.pay.length 2 (by decide)) ?_
  rintro _ _ _ ⟨v, rfl, rfl, rfl⟩
  simp -implicitDefEqProofs [go_sem, u8s_1]
  refine SWp0.seq (SWp.s0 (Wp.s ?_))
  simp -implicitDefEqProofs [go_sem]
  have eb : byt r.kind :: (leN r.pay.length 2 ++ r.pay) = bodyR r.kind r.pay := (body_eq _ _).symm
  refine ⟨by omega, ?_⟩
  rw [eb]
  refine SWp0.seq (SWp.s0 (Wp.s ?_))
  simp -implicitDefEqProofs [go_sem]
  refine CC.mono (Sum_cc _ _ _ (bodyR r.kind r.pay) (by rw [body_len]; omega)) ?_
  rintro _ _ _ ⟨rfl, rfl, rfl⟩
  simp -implicitDefEqProofs [go_sem, wrap_rn]
  refine CC.mono (little_cc _ _ (crc (bodyR r.kind r.pay)).toNat 4 (by decide)) ?_
  rintro _ _ _ ⟨v2, rfl, rfl, rfl⟩
  simp -implicitDefEqProofs [go_sem]
  refine ⟨by rw [body_len]; omega, ?_⟩
  rw [leN_4, show bodyR r.kind r.pay ++ le4 (crc (bodyR r.kind r.pay)).toNat = strmR r.kind r.pay from rfl]
  generalize hst : strmR r.kind r.pay = st at hE hsl ⊢
  refine SWp0.ghost (Sh.trim (T' := [(1, .ptr H.length 0), (4, .sl .sh 1 (bs st))]) (L := [some (rcC r)]) (V' := V) (by simp [go_sem]) (by simp [go_sem]) hokH (by rw [okH_some, okL_rcC]; exact ⟨trivial, trivial⟩) (Nat.le_refl _) (by simp) (by simp)) ?_
  refine SWp0.seq (SWp.s0 (Wp.s ?_))
  simp -implicitDefEqProofs [go_sem]
  refine SWp0.join (α := CV × List Nat) (fun x => ([(5, .ptr (H.length + 1) 0)], H ++ [some (rcC r), some [x.1]], x.2))
    (fun x => ApS V.length (secsR r.sq.toNat st) x.1 x.2 ∧ V.length ≤ x.2.length ∧ x.2.take V.length = V) ?_ ?_
  · refine SWp0.seq (SWp.s0 (Wp.s ?_))
    simp -implicitDefEqProofs [go_sem]
    refine CC.mono (Chunk_cc _ _ .sh st 4 (by decide) (by trivial)) ?_
    rintro _ _ _ ⟨rfl, rfl, rfl⟩
    simp -implicitDefEqProofs [go_sem]
    refine SWp0.block (SWp0.range [(1, .ptr H.length 0), (5, .ptr (H.length + 1) 0)] rfl (by simp [go_sem]) ?_)
    simp -implicitDefEqProofs [go_sem]
    generalize hbd : Code.block 1 _ = bd
    generalize has : Code.region 10 _ _ = asg
    refine CC.mono (chunk1_cc _ V _ _ _ .sh st 4 (by decide) (by decide) (by omega) (fun i G V' => ∃ cv W, ApS V.length ((List.range i).map (secR r.sq.toNat st)) cv V' ∧ V.length ≤ V'.length ∧ V'.take V.length = V ∧
      G = HE H r st cv (lpc 65 #[51] asg bd [(1, .ptr H.length 0), (5, .ptr (H.length + 1) 0)] .ready none) W)
      ⟨.v (.slice none 0 0), [], .inl ⟨rfl, rfl⟩, Nat.le_refl _, by simp, rfl⟩ ?_ ?_) ?_
    · rintro i _ V' ⟨cv, W, _, _, _, rfl⟩
      exact ⟨hget _ _ 2, hget _ _ 3⟩
    · rintro i hi _ V' ⟨cv, W, ha, hv1, hv2, rfl⟩
      refine YC.of_round (n := 65) (ps := #[51]) (bd := bd) (T := [(1, .ptr H.length 0), (5, .ptr (H.length + 1) 0)]) (hget _ _ 4) rfl (by decide) ?_
      subst hbd has
      refine Wp.s ?_
      simp -implicitDefEqProofs [go_sem, tps]
      refine SWp.block (SWp.seq (Wp.s ?_))
      simp -implicitDefEqProofs [go_sem]
      generalize hlp : lpc 65 #[51] _ _ _ LoopState.busy none = lp
      generalize hqq : RQ 65 #[51] _ _ _ _ _ = QQ
      refine SWp.seq (SWp.drawnT [H.length] [4] (.s 0 .pl <| .s 1 .pl <| .s 2 .ld <| .s 3 .pl <| .s 4 .st <| .n) (by kernel_rfl) (by kernel_rfl) ?_)
      simp -implicitDefEqProofs [go_sem]
      refine CC.mono (littleI_cc _ _ r.sq 4 (by omega) (by decide)) ?_
      rintro _ _ _ ⟨v3, rfl, rfl, rfl⟩
      simp -implicitDefEqProofs [go_sem, leN_4]
      have e1 : (bs (le4 r.sq.toNat)).flatten ++ List.drop (le4 r.sq.toNat).length [CV.v (.int .u8 0), CV.v (.int .u8 0), CV.v (.int .u8 0), CV.v (.int .u8 0), CV.v (.int .u8 0), CV.v (.int .u8 0), CV.v (.int .u8 0), CV.v (.int .u8 0)] = fb (le4 r.sq.toNat ++ [0, 0, 0, 0]) := by
        rw [fb_flat, le4_len]; rfl
      rw [e1]
      refine ⟨by rw [le4_len]; decide, by rw [fb_flat, fb_all], by rw [le4_len]; decide, ?_, ?_⟩
      · exact Kp.keep fun b hb => by
          obtain rfl : b = H.length := by simpa using hb
          simp
      refine SWp.seq (Wp.s ?_)
      simp -implicitDefEqProofs [go_sem]
      rw [secR_cells]
      refine ⟨by rw [pcOf, List.length_take]; omega, by rw [fb_flat, fb_all], by rw [le4_len, pcOf, List.length_take]; omega, ?_⟩
      have ha := ha.more (W := [v3])
      have hv1 : V.length ≤ (V' ++ [v3]).length := by simp; omega
      have hv2 : (V' ++ [v3]).take V.length = V := by rw [List.take_append_of_le_length (by omega)]; exact hv2
      generalize V' ++ [v3] = V2 at ha hv1 hv2 ⊢
      rcases ha with ⟨rfl, he⟩ | ⟨k, v, rfl, hv, hk⟩
      · refine Wp.s ?_
        simp -implicitDefEqProofs [go_sem]
        rw [← hqq, ← hlp]
        refine ⟨hget _ _ 4, rfl, .sl (.own V2.length 0) 8 [secC (secR r.sq.toNat st i)], .inr ⟨V2.length, 0, ?_, by simp, hv1⟩, by simp; omega, ?_, W ++ [some (secC (secR r.sq.toNat st i))], ?_⟩
        · rw [List.map_append, he]; rfl
        · rw [List.take_append_of_le_length hv1]; exact hv2
        · simp
      · refine Wp.s ?_
        simp -implicitDefEqProofs [go_sem, hv]
        rw [← hqq, ← hlp]
        have hkv := (List.getElem?_eq_some_iff.1 hv).1
        have hi2 := nPc_le (len := st.length) (n := 4) (by decide)
        refine ⟨by omega, hget _ _ 4, rfl, .sl (.own k (v + 1)) 8 (List.map (secC ∘ secR r.sq.toNat st) (List.range i) ++ [secC (secR r.sq.toNat st i)]), .inr ⟨k, v + 1, ?_, by rw [List.getElem?_set_self hkv], hk⟩, by simpa using hv1, ?_, W ++ [some (secC (secR r.sq.toNat st i))], ?_⟩
        · rw [List.map_append, List.map_map]; rfl
        · rw [List.take_set_of_le hk]; exact hv2
        · simp
    · rintro _ _ V' ⟨cv, W, ha, hv1, hv2, rfl⟩
      refine .inl ⟨hget _ _ 4, ?_⟩
      rw [secsR_n] at ha
      refine ⟨cv, V', ⟨ha, hv1, hv2⟩, ?_⟩
      refine Sh.trim (L := [some (rcC r), some [cv]]) ?_ ?_ hokH ?_ hv1 ?_ (List.take_of_length_le (Nat.le_refl _))
      · simp [go_sem]
      · simp [go_sem]
      · rw [okH_some, okH_some, okL_rcC, okL, okL]
        exact ⟨trivial, ⟨ha.ok, trivial⟩, trivial⟩
      · simp
  · rintro ⟨cv, V'⟩ ⟨h1, h2, h3⟩
    dsimp only
    refine SWp0.seq (SWp.s0 (Wp.s ?_))
    simp -implicitDefEqProofs [go_sem, h1.one]
    refine SWp.s0 (Wp.s ?_)
    simp -implicitDefEqProofs [go_sem]
    rw [hE]
    exact Fin.pu (.tup (.cons h1.le (.cons (.refl _) .nil))) (okV_encV _ _ (.ok _)) hokH (by simp) h3
end Go.Proofs.YtbnkggbpocaaiaaGreatDoor
namespace Go.Proofs.YtbnkggbpocaaiaaGreatDoor
open Go.Proofs
end Go.Proofs.YtbnkggbpocaaiaaGreatDoor
