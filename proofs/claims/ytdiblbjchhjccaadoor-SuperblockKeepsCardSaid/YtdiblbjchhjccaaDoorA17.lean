import Derived.Test.YtdiblbjchhjccaaDoorA16
set_option linter.unusedSimpArgs false
set_option linter.unusedVariables false
set_option linter.unusedSectionVars false
namespace Go.Proofs.YtdiblbjchhjccaaDoor
open Go.Proofs
theorem cloneI_cc (H : Hp) (V : List Nat) (tk : Tk) (l : List Int) (hx : l.length ≤ 1000000000) : CC Tryd.prog 52 [.sl tk 1 (l.map ic)] H V (Fr 1 (l.map ic) H V) := by
  refine CC.of_swp Tryd.func52 rfl (by kernel_rfl) (by rw [Tryd.ntmps52]; exact len_le _ _ rfl) fun hok hokH => ?_
  clear hok
  refine SWp.seq (Wp.s ?_)
  simp -implicitDefEqProofs [go_sem, args0]
  refine SWp.seq (Wp.s ?_)
  simp -implicitDefEqProofs [go_sem]
  refine ⟨Wp.s ?_, fun e => Fin.frtok (by decide) (.inl ⟨rfl, by rw [e]; rfl⟩) (by simp [go_sem, okE_ints]) hokH (by simp) (by simp)⟩
  simp -implicitDefEqProofs [go_sem]
  exact ⟨by omega, Fin.fr (by simp [go_sem, okE_ints]) hokH (by simp)⟩
/-- What a crash may leave. -/
def Mix (d d' : Dk) : Prop := d'.cache = [] ∧ d'.stable.length = d.stable.length ∧ ∀ (i : Nat) (h : i < d'.stable.length), (∃ h' : i < d.stable.length, d'.stable[i] = d.stable[i]) ∨ ∃ c ∈ d.cache, c.pos = (i : Int) ∧ d'.stable[i] = c.data
/-- The stable sectors of a mixed disk. -/
def MixS (d : Dk) (ss : List Sec) : Prop := ss.length = d.stable.length ∧ ∀ (i : Nat) (h : i < ss.length), (∃ h' : i < d.stable.length, ss[i] = d.stable[i]) ∨ ∃ c ∈ d.cache, c.pos = (i : Int) ∧ ss[i] = c.data
theorem MixS.put {d : Dk} {ss : List Sec} {c : Cach} {n : Nat} (h : MixS d ss) (hc : c ∈ d.cache) (hn : c.pos = (n : Int)) : MixS d (ss.set n c.data) := by
  obtain ⟨h1, h2⟩ := h
  refine ⟨by rw [List.length_set]; exact h1, fun i hi => ?_⟩
  rw [List.length_set] at hi
  rw [List.getElem_set]
  split
  · rename_i e; subst e; exact .inr ⟨c, hc, hn, rfl⟩
  · exact h2 i hi
/-- An entry of the map: the place, the token and its state, the versions. -/
structure Vrs where
  key : Int
  tok : Nat
  ver : Nat
  secs : List Sec
def entV (e : Vrs) : CV := .sl (.own e.tok e.ver) 8 (e.secs.map secC)
/-- The map, after some of the cached sectors. -/
def EOk (nv : Nat) (cs : List Cach) (es : List Vrs) (V : List Nat) : Prop :=
  (es.map Vrs.tok).Nodup ∧ (∀ e ∈ es, V[e.tok]? = some e.ver ∧ nv ≤ e.tok ∧ e.secs.length ≤ cs.length ∧ (∃ c ∈ cs, c.pos = e.key) ∧ ∀ s ∈ e.secs, ∃ c ∈ cs, c.pos = e.key ∧ c.data = s) ∧ es.length ≤ cs.length
theorem EOk.new {nv : Nat} {cs : List Cach} {es : List Vrs} {V : List Nat} {c : Cach} (he : EOk nv cs es V) (hv : nv ≤ V.length) : EOk nv (cs ++ [c]) (es ++ [⟨c.pos, V.length, 0, [c.data]⟩]) (V ++ [0]) := by
  obtain ⟨h1, h2, h3⟩ := he
  have hlt : ∀ e ∈ es, e.tok < V.length := fun e m => (List.getElem?_eq_some_iff.1 (h2 e m).1).1
  refine ⟨?_, ?_, by simp; omega⟩
  · rw [List.map_append, List.nodup_append]
    refine ⟨h1, by simp, ?_⟩
    intro a ha b hb
    simp only [List.map_cons, List.map_nil, List.mem_singleton] at hb
    obtain ⟨e, m, rfl⟩ := List.mem_map.1 ha
    have := hlt e m
    omega
  · intro e m
    rcases List.mem_append.1 m with m | m
    · obtain ⟨q1, q2, q3, ⟨c', q4, q5⟩, q6⟩ := h2 e m
      refine ⟨by rw [List.getElem?_append_left (hlt e m)]; exact q1, q2, by simp; omega, ⟨c', List.mem_append_left _ q4, q5⟩, fun s hs => ?_⟩
      obtain ⟨c2, r1, r2⟩ := q6 s hs
      exact ⟨c2, List.mem_append_left _ r1, r2⟩
    · rw [List.mem_singleton] at m
      subst m
      refine ⟨by simp, hv, by simp, ⟨c, by simp, rfl⟩, fun s hs => ⟨c, by simp, rfl, ?_⟩⟩
      simp only [List.mem_singleton] at hs
      exact hs.symm
theorem EOk.more {nv : Nat} {cs : List Cach} {es : List Vrs} {V : List Nat} {c : Cach} {j : Nat} (he : EOk nv cs es V) (hj : j < es.length) (hk : es[j].key = c.pos) : EOk nv (cs ++ [c]) (es.set j ⟨es[j].key, es[j].tok, es[j].ver + 1, es[j].secs ++ [c.data]⟩) (V.set es[j].tok (es[j].ver + 1)) := by
  obtain ⟨h1, h2, h3⟩ := he
  have hlt : ∀ e ∈ es, e.tok < V.length := fun e m => (List.getElem?_eq_some_iff.1 (h2 e m).1).1
  have hm : (es.set j ⟨es[j].key, es[j].tok, es[j].ver + 1, es[j].secs ++ [c.data]⟩).map Vrs.tok = es.map Vrs.tok := by
    rw [List.map_set]
    exact List.ext_getElem (by simp) fun n a b => by
      rw [List.getElem_set]
      split
      · rename_i e; subst e; simp
      · rfl
  refine ⟨by rw [hm]; exact h1, ?_, by simp; omega⟩
  intro e m
  obtain ⟨k, hk2, rfl⟩ := List.getElem_of_mem m
  simp only [List.length_set] at hk2
  rw [List.getElem_set]
  split
  · rename_i e; subst e
    obtain ⟨q1, q2, q3, ⟨c', q4, q5⟩, q6⟩ := h2 es[j] (List.getElem_mem hj)
    refine ⟨by rw [List.getElem?_set_self (hlt _ (List.getElem_mem hj))], q2, by simp; omega, ⟨c, by simp, hk.symm⟩, fun s hs => ?_⟩
    rcases List.mem_append.1 hs with hs | hs
    · obtain ⟨c2, r1, r2⟩ := q6 s hs
      exact ⟨c2, List.mem_append_left _ r1, r2⟩
    · simp only [List.mem_singleton] at hs
      exact ⟨c, by simp, hk.symm, hs.symm⟩
  · rename_i hne
    obtain ⟨q1, q2, q3, ⟨c', q4, q5⟩, q6⟩ := h2 es[k] (List.getElem_mem hk2)
    have hnt : es[j].tok ≠ es[k].tok := fun e => hne (by
      have hp := List.pairwise_iff_getElem.1 h1
      rcases Nat.lt_trichotomy j k with q | q | q
      · exact (hp j k (by simpa using hj) (by simpa using hk2) q (by simpa using e)).elim
      · exact q
      · exact (hp k j (by simpa using hk2) (by simpa using hj) q (by simpa using e.symm)).elim)
    refine ⟨by rw [List.getElem?_set_ne hnt]; exact q1, q2, by simp; omega, ⟨c', List.mem_append_left _ q4, q5⟩, fun s hs => ?_⟩
    obtain ⟨c2, r1, r2⟩ := q6 s hs
    exact ⟨c2, List.mem_append_left _ r1, r2⟩
theorem EOk.okL {nv nb : Nat} {cs : List Cach} {es : List Vrs} {V : List Nat} (he : EOk nv cs es V) : Go.Proofs.YtdiblbjchhjccaaDoor.okL nb V.length (es.map entV) := by
  rw [okL_iff]
  intro x hx
  obtain ⟨e, m, rfl⟩ := List.mem_map.1 hx
  have hlt : e.tok < V.length := (List.getElem?_eq_some_iff.1 (he.2.1 e m).1).1
  simp [go_sem, entV, hlt, okE_secs]
def CrR (d : Dk) (n : Nat) (H : Hp) (V : List Nat) : CV → Hp → List Nat → Prop := fun r H' V' => ∃ (d' : Dk) (l' : List Int), (Mix d d' ∧ l'.length ≤ n) ∧ r = .tup [.agg (dkC d'), .sl .sh 1 (l'.map ic)] ∧ H' = H ∧ V' = V
theorem Crash_cc (hs : SortOK) (H : Hp) (V : List Nat) (d : Dk) (tk : Tk) (l : List Int) (hd : DkS d) (hc : checkD d = 0) (hll : l.length ≤ 1000000) : CC Tryd.prog 37 [.agg (dkC d), .sl tk 1 (l.map ic)] H V (CrR d l.length H V) := by
  refine CC.of_swp Tryd.func37 rfl (by kernel_rfl) (by rw [Tryd.ntmps37]; exact len_le _ _ rfl) fun hok hokH => ?_
  have htk : ∀ {a b : Nat}, H.length ≤ a → V.length ≤ b → okV a b (.sl tk 1 (l.map ic)) := fun ha hb => okV_mono ha hb (okL_iff.1 hok _ (by simp))
  clear hok
  have hl1 := hd.1
  have hl2 := hd.2
  refine SWp.seq (Wp.s ?_)
  simp -implicitDefEqProofs [go_sem, args0]
  refine SWp.seq (Wp.s ?_)
  simp -implicitDefEqProofs [go_sem]
  refine CC.mono (Check_cc _ _ d hd) ?_
  rintro _ _ _ ⟨rfl, rfl, rfl⟩
  simp -implicitDefEqProofs [go_sem, hc]
  refine SWp.seq (Wp.s ?_)
  simp -implicitDefEqProofs [go_sem]
  refine SWp.join (α := List Vrs × List Nat) (fun x => ([(1, .sl tk 1 (l.map ic)), (2, .ptr H.length 0), (4, .ptr (H.length + 1) 0), (6, .mv (H.length + 2))], H ++ [some (dkC d), some [.v (.slice none 0 0), .v (.slice none 0 0)], some [.objm (x.1.map Vrs.key) (x.1.map entV)]], x.2))
    (fun x => EOk V.length d.cache x.1 x.2 ∧ V.length ≤ x.2.length ∧ x.2.take V.length = V) ?_ ?_
  · refine SWp.seq (Wp.s ?_)
    simp -implicitDefEqProofs [go_sem]
    refine SWp.block ?_
    refine SWp.loop (α := Nat × List Vrs × List Nat) (fun x => ([(1, .sl tk 1 (l.map ic)), (2, .ptr H.length 0), (4, .ptr (H.length + 1) 0), (6, .mv (H.length + 2)), (21, cachV d.cache), (22, ci d.cache.length), (23, ci x.1)], H ++ [some (dkC d), some [.v (.slice none 0 0), .v (.slice none 0 0)], some [.objm (x.2.1.map Vrs.key) (x.2.1.map entV)]], x.2.2))
      (fun x => x.1 ≤ d.cache.length ∧ EOk V.length (d.cache.take x.1) x.2.1 x.2.2 ∧ V.length ≤ x.2.2.length ∧ x.2.2.take V.length = V) (fun x => d.cache.length - x.1) (0, [], V) ⟨Nat.zero_le _, ⟨by simp, by simp, by simp⟩, Nat.le_refl _, by simp⟩ (Sh.forget (by simp [go_sem]) (by simp) rfl) ?_
    rintro ⟨i, es, V'⟩ ⟨hi, he, hv1, hv2⟩
    dsimp only at hi he hv1 hv2 ⊢
    refine SWp.seq (Wp.s ?_)
    simp -implicitDefEqProofs [go_sem]
    refine SWp.seq (Wp.s ?_)
    simp -implicitDefEqProofs [go_sem]
    refine ⟨fun h => ?_, fun h => ⟨es, V', ⟨by rw [List.take_of_length_le h] at he; exact he, hv1, hv2⟩, Sh.forget (by simp [go_sem]) rfl rfl⟩⟩
    refine SWp.seq (SWp.block (SWp.seq (Wp.s ?_)))
    simp -implicitDefEqProofs [go_sem, h]
    refine SWp.drawnT [H.length + 3] [11] (.s 0 .pl <| .s 1 .pl <| .s 2 .ld <| .s 3 .pl <| .s 4 .pl <| .s 5 .ld <| .s 7 .pl <| .s 8 .ld <| .s 9 .pl <| .s 6 .pl <| .s 10 .pl <| .s 11 .st <| .n) (by kernel_rfl) (by kernel_rfl) ?_
    simp -implicitDefEqProofs [go_sem]
    rw [hbm_some (hget H _ 2)]
    rcases hk : keyAt (es.map Vrs.key) d.cache[i].pos with _ | j
    · simp -implicitDefEqProofs only [mlook, hk]
      simp -implicitDefEqProofs [go_sem]
      rw [hbm_some (hget H _ 2)]
      simp -implicitDefEqProofs only [mput, hk]
      refine ⟨fun b hb cs q => by rw [List.mem_singleton] at hb; subst hb; rw [hget] at q ⊢; exact q, Wp.s ?_⟩
      simp -implicitDefEqProofs [go_sem, wrap_succ (show i ≤ 1000000000 by omega)]
      have hn := he.new (c := d.cache[i]) hv1
      refine ⟨i + 1, _, _, ⟨by omega, by rw [List.take_succ_eq_append_getElem h]; exact hn, by simp; omega, by rw [List.take_append_of_le_length hv1]; exact hv2⟩, by omega, Sh.trim (L := [some (dkC d), some [.v (.slice none 0 0), .v (.slice none 0 0)], some [.objm _ _]]) ?_ ?_ hokH ?_ (by simp; omega) ?_ (List.take_of_length_le (Nat.le_refl _))⟩
      · simp [go_sem]
      · exact ⟨htk (by simp) (by simp; omega), by simp [go_sem]; rw [okV]; omega⟩
      · rw [okH_some, okH_some, okH_some]
        refine ⟨by simp [go_sem], by simp [go_sem], ?_, trivial⟩
        rw [okL, okV, okL]
        exact ⟨hn.okL, trivial⟩
      · simp [List.take_append, entV]
        exact List.take_of_length_le (by simp)
    · obtain ⟨hj, hjn⟩ := keyAt_lt hk
      simp only [List.length_map] at hj
      have hje := he.2.1 es[j] (List.getElem_mem hj)
      simp -implicitDefEqProofs only [mlook, hk, List.getElem?_map, List.getElem?_eq_getElem hj, Option.map_some, Option.getD_some, entV]
      simp -implicitDefEqProofs [go_sem, hje.1]
      refine ⟨by have := hje.2.2.1; have := List.length_take_le i d.cache; omega, ?_⟩
      rw [hbm_some (hget H _ 2)]
      simp -implicitDefEqProofs only [mput, hk]
      refine ⟨fun b hb cs q => by rw [List.mem_singleton] at hb; subst hb; rw [hget] at q ⊢; exact q, Wp.s ?_⟩
      simp -implicitDefEqProofs [go_sem, wrap_succ (show i ≤ 1000000000 by omega)]
      have hkj : es[j].key = d.cache[i].pos := by
        rw [List.getElem?_map, List.getElem?_eq_getElem hj] at hjn
        exact Option.some.inj hjn
      have hn := he.more (c := d.cache[i]) hj hkj
      refine ⟨i + 1, _, _, ⟨by omega, by rw [List.take_succ_eq_append_getElem h]; exact hn, by simp; omega, by rw [List.take_set_of_le hje.2.1]; exact hv2⟩, by omega, Sh.trim (L := [some (dkC d), some [.v (.slice none 0 0), .v (.slice none 0 0)], some [.objm _ _]]) ?_ ?_ hokH ?_ (by simp; omega) ?_ (List.take_of_length_le (Nat.le_refl _))⟩
      · simp [go_sem]
      · exact ⟨htk (by simp) (by simp; omega), by simp [go_sem]; rw [okV]; omega⟩
      · rw [okH_some, okH_some, okH_some]
        refine ⟨by simp [go_sem], by simp [go_sem], ?_, trivial⟩
        rw [okL, okV, okL]
        exact ⟨hn.okL, trivial⟩
      · have ek : (es.set j ⟨es[j].key, es[j].tok, es[j].ver + 1, es[j].secs ++ [d.cache[i].data]⟩).map Vrs.key = es.map Vrs.key := by
          rw [List.map_set]
          exact List.ext_getElem (by simp) fun n a b => by
            rw [List.getElem_set]
            split
            · rename_i e; subst e; simp
            · rfl
        rw [ek, List.map_set]
        simp [List.take_append, entV]
        exact List.take_of_length_le (by simp)
  · rintro ⟨es, V1⟩ ⟨he, hv1, hv2⟩
    dsimp only at he hv1 hv2 ⊢
    by_cases h0 : d.stable = []
    · have hcc : d.cache = [] := by
        rcases hcl : d.cache with _ | ⟨c0, cs⟩
        · rfl
        · have := (checkD_0 hc).2 c0 (by rw [hcl]; simp)
          rw [h0] at this
          simp at this
      have hes : es = [] := by
        have := he.2.2
        rw [hcc] at this
        exact List.eq_nil_of_length_eq_zero (by simpa using this)
      subst hes
      refine SWp.seq (Wp.s ?_)
      simp -implicitDefEqProofs [go_sem]
      refine CC.mono (cloneS_cc _ _ .sh _ (by omega)) ?_
      rintro _ _ _ ⟨v, rfl, rfl, rfl⟩
      simp -implicitDefEqProofs [go_sem]
      refine SWp.seq (Wp.s ?_)
      simp -implicitDefEqProofs [go_sem]
      refine SWp.seq (SWp.seq (Wp.s ?_))
      simp -implicitDefEqProofs [go_sem]
      refine CC.mono (Keys_cc _ _ (H.length + 2) (by simp)) ?_
      rintro _ _ _ ⟨rfl, rfl, rfl⟩
      simp -implicitDefEqProofs [go_sem]
      refine CC.mono (Sorted_cc hs _ _ (H.length + 4) (H.length + 2) [] [] (hget H _ 4) (hget H _ 2) (by simp)) ?_
      rintro _ _ V9 ⟨ys, hy, hyl, rfl, rfl, eV⟩
      obtain rfl := eV.symm
      have hys : ys = [] := by
        rcases ys with _ | ⟨y, ys⟩
        · rfl
        · have := hy y (by simp)
          simp at this
      subst hys
      simp -implicitDefEqProofs [go_sem]
      refine SWp.block ?_
      refine SWp.loop (α := Unit) (fun _ => ([(4, .ptr (H.length + 1) 0), (9, .ptr (H.length + 3) 0), (10, .sl tk 1 (l.map ic)), (47, ci 0), (48, ci 0)], H ++ [some (dkC d), some [.v (.slice none 0 0), .v (.slice none 0 0)], some [.objm [] []], some [.sl (.own V1.length v) 8 (d.stable.map secC), .v (.slice none 0 0)], some [.mv (H.length + 2)]], V1 ++ [v]))
        (fun _ => True) (fun _ => 0) () trivial (Sh.forget (by simp [go_sem]) (by simp) rfl) ?_
      rintro - -
      dsimp only
      refine SWp.seq (Wp.s ?_)
      simp -implicitDefEqProofs [go_sem]
      refine SWp.seq (Wp.s ?_)
      simp -implicitDefEqProofs [go_sem]
      refine SWp.seq ?_
      refine SWp.drawnT [H.length + 3] [3] (.s 0 .ld <| .s 1 .pl <| .s 2 .pl <| .s 3 .st <| .s 4 .pl <| .n) (by kernel_rfl) (by kernel_rfl) ?_
      simp -implicitDefEqProofs [go_sem]
      refine CC.mono (cloneI_cc _ _ tk l (by omega)) ?_
      rintro _ _ _ ⟨v2, rfl, rfl, rfl⟩
      simp -implicitDefEqProofs [go_sem]
      refine ⟨fun b hb cs q => by rw [List.mem_singleton] at hb; subst hb; rw [hget] at q ⊢; exact q, Wp.s ?_⟩
      simp -implicitDefEqProofs [go_sem]
      refine Fin.pure (r' := .tup [.agg (dkC ⟨d.stable, []⟩), .sl .sh 1 (l.map ic)]) ⟨⟨d.stable, []⟩, l, ⟨⟨rfl, rfl, fun i h => .inl ⟨h, rfl⟩⟩, Nat.le_refl _⟩, rfl, rfl, rfl⟩ (by simp) ?_ (.tup (.cons (.agg (.cons (.sh _ _ _) (.cons (.nil 9 (by decide)) .nil))) (.cons (.sh _ _ _) .nil))) ?_ hokH
      · rw [List.take_append_of_le_length hv1]; exact hv2
      · simp [go_sem, dkC, okE_secs, okE_ints, okE_cach]
    refine SWp.seq (Wp.s ?_)
    simp -implicitDefEqProofs [go_sem]
    refine CC.mono (cloneB_cc _ _ .sh _ h0 (by omega)) ?_
    rintro _ _ _ ⟨rfl, rfl, rfl⟩
    simp -implicitDefEqProofs [go_sem]
    refine SWp.seq (Wp.s ?_)
    simp -implicitDefEqProofs [go_sem]
    refine SWp.seq (SWp.seq (Wp.s ?_))
    simp -implicitDefEqProofs [go_sem]
    refine CC.mono (Keys_cc _ _ (H.length + 2) (by simp)) ?_
    rintro _ _ _ ⟨rfl, rfl, rfl⟩
    simp -implicitDefEqProofs [go_sem]
    refine CC.mono (Sorted_cc hs _ _ (H.length + 5) (H.length + 2) (es.map Vrs.key) (es.map entV) (hget H _ 5) (hget H _ 2) (by have := he.2.2; simp; omega)) ?_
    rintro _ _ V9 ⟨ys, hy, hyl, rfl, rfl, eV⟩
    obtain rfl := eV.symm
    simp -implicitDefEqProofs [go_sem]
    refine SWp.block ?_
    refine SWp.loop (α := Nat × (Tk × List Int) × List Sec) (fun x => ([(4, .ptr (H.length + 1) 0), (6, .mv (H.length + 2)), (9, .ptr (H.length + 4) 0), (10, .sl x.2.1.1 1 (x.2.1.2.map ic)), (46, .sl .sh 1 (ys.map ic)), (47, ci ys.length), (48, ci x.1)], H ++ [some (dkC d), some [.v (.slice none 0 0), .v (.slice none 0 0)], some [.objm (es.map Vrs.key) (es.map entV)], some (secsF x.2.2), some [.bsl (H.length + 3) 0 d.stable.length 8, .v (.slice none 0 0)], some [.mv (H.length + 2)]], V1))
      (fun x => x.1 ≤ ys.length ∧ MixS d x.2.2 ∧ (x.2.1.1 = tk ∨ x.2.1.1 = .sh) ∧ x.2.1.2.length ≤ l.length) (fun x => ys.length - x.1) (0, (tk, l), d.stable) ⟨Nat.zero_le _, ⟨rfl, fun i h => .inl ⟨h, rfl⟩⟩, .inl rfl, Nat.le_refl _⟩ (Sh.forget (by simp [go_sem]) (by simp) rfl) ?_
    rintro ⟨i, ⟨tk', l'⟩, ss⟩ ⟨hi, hm, ht, hll'⟩
    dsimp only at hi hm ht hll' ⊢
    refine SWp.seq (Wp.s ?_)
    simp -implicitDefEqProofs [go_sem]
    refine SWp.seq (Wp.s ?_)
    simp -implicitDefEqProofs [go_sem]
    refine ⟨fun h => ?_, fun h => ?_⟩
    · refine SWp.join (α := List Int × List Sec) (fun q => ([(4, .ptr (H.length + 1) 0), (6, .mv (H.length + 2)), (9, .ptr (H.length + 4) 0), (10, .sl .sh 1 (q.1.map ic)), (46, .sl .sh 1 (ys.map ic)), (47, ci ys.length), (48, ci i)], H ++ [some (dkC d), some [.v (.slice none 0 0), .v (.slice none 0 0)], some [.objm (es.map Vrs.key) (es.map entV)], some (secsF q.2), some [.bsl (H.length + 3) 0 d.stable.length 8, .v (.slice none 0 0)], some [.mv (H.length + 2)]], V1)) (fun q => MixS d q.2 ∧ q.1.length ≤ l.length) ?_ (by
        rintro ⟨l2, ss'⟩ ⟨hm', hl2'⟩
        dsimp only at hm' hl2' ⊢
        refine Wp.s ?_
        simp -implicitDefEqProofs [go_sem, wrap_succ (show i ≤ 1000000000 by omega)]
        exact ⟨i + 1, .sh, l2, ss', ⟨by omega, hm', .inr rfl, hl2'⟩, by omega, Sh.forget (by simp [go_sem]) rfl rfl⟩)
      refine SWp.block (SWp.seq (Wp.s ?_))
      simp -implicitDefEqProofs [go_sem, h]
      refine SWp.seq (Wp.s ?_)
      simp -implicitDefEqProofs [go_sem]
      refine SWp.seq (Wp.s ?_)
      simp -implicitDefEqProofs [go_sem]
      rw [hbm_some (hget H _ 2)]
      obtain ⟨j, hk⟩ : ∃ j, keyAt (es.map Vrs.key) ys[i] = some j := by
        rcases hk : keyAt (es.map Vrs.key) ys[i] with _ | j
        · have hm := hy _ (List.getElem_mem h)
          unfold keyAt at hk
          rw [List.findIdx?_eq_none_iff] at hk
          exact absurd (hk _ hm) (by simp)
        · exact ⟨j, rfl⟩
      obtain ⟨hj, hjn⟩ := keyAt_lt hk
      simp only [List.length_map] at hj
      have hje := he.2.1 es[j] (List.getElem_mem hj)
      have hjl : es[j].secs.length ≤ 1000000 := by have := hje.2.2.1; omega
      have hkj : es[j].key = ys[i] := by
        rw [List.getElem?_map, List.getElem?_eq_getElem hj] at hjn
        exact Option.some.inj hjn
      simp -implicitDefEqProofs only [mlook, hk, List.getElem?_map, List.getElem?_eq_getElem hj, Option.map_some, Option.getD_some, entV]
      simp -implicitDefEqProofs [go_sem, wrap_succ (show es[j].secs.length ≤ 1000000000 by omega)]
      refine CC.mono (decide_cc _ _ tk' l' (es[j].secs.length + 1) (by omega) (by omega)) ?_
      rintro _ H9 V9 ⟨k, l2, ⟨hk2, hl2'⟩, rfl, eH, eV⟩
      subst eH eV
      simp -implicitDefEqProofs [go_sem]
      refine SWp.seq (Wp.s ?_)
      simp -implicitDefEqProofs [go_sem]
      refine Wp.s ?_
      simp -implicitDefEqProofs [go_sem]
      refine ⟨fun h2 => ?_, fun h2 => ⟨l2, ss, ⟨hm, by omega⟩, Sh.forget (by simp [go_sem]) rfl rfl⟩⟩
      refine SWp.drawnT [H.length + 4] [11] (.s 0 .pl <| .s 1 .pl <| .s 2 .pl <| .s 3 .pl <| .s 4 .pl <| .s 6 .pl <| .s 7 .pl <| .s 5 .pl <| .s 8 .pl <| .s 9 .pl <| .s 10 .pl <| .s 11 .st <| .n) (by kernel_rfl) (by kernel_rfl) ?_
      simp -implicitDefEqProofs [go_sem]
      rw [hbm_some (hget H _ 2)]
      have hwk : IntKind.i64.wrap ((k : Int) - 1) = ((k - 1 : Nat) : Int) := by rw [IntWalk.i64_in _ ⟨by omega, by omega⟩]; omega
      have hk1 : k - 1 < es[j].secs.length := by omega
      obtain ⟨c0, hc0, hcp⟩ := hje.2.2.2.1
      have hpos := (checkD_0 hc).2 c0 hc0
      rw [hcp, hkj] at hpos
      simp -implicitDefEqProofs only [mlook, hk, List.getElem?_map, List.getElem?_eq_getElem hj, Option.map_some, Option.getD_some, entV, hwk]
      simp -implicitDefEqProofs [go_sem, hk1, hpos.1]
      obtain ⟨c1, hc1, hcp1, hcd1⟩ := hje.2.2.2.2 _ (List.getElem_mem hk1)
      refine ⟨by omega, by have := hm.1; omega, fun b hb cs q => by rw [List.mem_singleton] at hb; subst hb; rw [hget] at q ⊢; exact q, l2, ss.set ys[i].toNat es[j].secs[k - 1], ⟨?_, by omega⟩, Sh.forget (by simp [go_sem]) ?_ rfl⟩
      · rw [← hcd1]; exact hm.put hc1 (by rw [hcp1, hkj]; omega)
      · rw [secsF_set' (by have := hm.1; omega)]
    · refine SWp.seq ?_
      refine SWp.drawnT [H.length + 4] [3] (.s 0 .ld <| .s 1 .pl <| .s 2 .pl <| .s 3 .st <| .s 4 .pl <| .n) (by kernel_rfl) (by kernel_rfl) ?_
      simp -implicitDefEqProofs [go_sem]
      refine CC.mono (cloneI_cc _ _ tk' l' (by omega)) ?_
      rintro _ _ _ ⟨v, rfl, rfl, rfl⟩
      simp -implicitDefEqProofs [go_sem]
      refine ⟨fun b hb cs q => by rw [List.mem_singleton] at hb; subst hb; rw [hget] at q ⊢; exact q, Wp.s ?_⟩
      simp -implicitDefEqProofs [go_sem]
      refine Fin.frozG (b := H.length + 3) (cs := secsF ss) (r1 := .tup [.agg [.bsl (H.length + 3) 0 d.stable.length 8, cachV []], .sl .sh 1 (l'.map ic)]) (r2 := .tup [.agg (dkC ⟨ss, []⟩), .sl .sh 1 (l'.map ic)]) ⟨⟨ss, []⟩, l', ⟨⟨rfl, hm.1, hm.2⟩, hll'⟩, rfl, rfl, rfl⟩ (.tup (.cons (.agg (.cons (.refl _) (.cons (.nil 9 (by decide)) .nil))) (.cons (.sh _ _ _) .nil))) (by rw [hget]; rfl) ?_ (by omega) ?_ hokH (by simp) ?_
      · have hz := Fz.bsl (b := H.length + 3) (cs := secsF ss) 0 d.stable.length 8 (by have := hm.1; simp; omega)
        rw [List.drop_zero, ← hm.1, chunks_secs] at hz
        rw [← hm.1]
        exact .tup (.cons (.agg (.cons hz (.cons (.refl _) .nil))) (.cons (.refl _) .nil))
      · simp [go_sem, dkC, okE_secs, okE_ints, okE_cach]
      · rw [List.take_append_of_le_length hv1]; exact hv2
end Go.Proofs.YtdiblbjchhjccaaDoor
