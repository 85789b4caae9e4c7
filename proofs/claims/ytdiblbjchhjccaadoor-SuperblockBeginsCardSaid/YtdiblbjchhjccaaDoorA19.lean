import Derived.Test.YtdiblbjchhjccaaDoorA17
set_option linter.unusedSimpArgs false
set_option linter.unusedVariables false
set_option linter.unusedSectionVars false
namespace Go.Proofs.YtdiblbjchhjccaaDoor
open Go.Proofs
theorem stepD_inv {d d' : Dk} {o : Opn} (hc : checkD d = 0) (h : stepD d o = .ok d') : checkD d' = 0 ∧ d'.stable.length = d.stable.length ∧ d'.cache.length ≤ d.cache.length + o.data.length := by
  unfold stepD at h
  split at h
  · cases h
  · split at h
    · cases hw : writeD d o.pos o.data with
      | none => rw [hw] at h; cases h
      | some d2 =>
        rw [hw] at h; cases h
        unfold writeD at hw
        split at hw
        · rename_i hi
          cases hw
          exact ⟨check_wr hc hi, rfl, by simp⟩
        · cases hw
    · cases h
      exact ⟨check_sy hc, newestD_len _, by simp⟩
theorem runD_inv : ∀ (ops : List Opn) {d d' : Dk} {i n : Nat}, checkD d = 0 → runD d ops i = .ok (d', n) → checkD d' = 0 ∧ d'.stable.length = d.stable.length ∧ d'.cache.length ≤ d.cache.length + tot ops
  | [], d, d', i, n, hc, h => by cases h; exact ⟨hc, rfl, by simp [tot]⟩
  | o :: ops, d, d', i, n, hc, h => by
    rw [runD] at h
    cases hs : stepD d o with
    | error e => rw [hs] at h; cases h
    | ok d2 =>
      rw [hs] at h
      obtain ⟨h1, h2, h3⟩ := stepD_inv hc hs
      obtain ⟨g1, g2, g3⟩ := runD_inv ops h1 h
      refine ⟨g1, g2.trans h2, ?_⟩
      have : tot (o :: ops) = o.data.length + tot ops := by simp [tot]
      omega
theorem runR_inv {d : Dk} {ops : List Opn} (h : (runR d ops).2.2 = 0) : checkD d = 0 ∧ checkD (runR d ops).1 = 0 ∧ (runR d ops).1.stable.length = d.stable.length ∧ (runR d ops).1.cache.length ≤ d.cache.length + tot ops := by
  unfold runR at h ⊢
  split at h
  · rename_i hc; exact absurd h hc
  · rename_i hc
    have hc : checkD d = 0 := Classical.not_not.1 hc
    rw [if_neg (by simp [hc])]
    cases hr : runD d ops 0 with
    | error x =>
      obtain ⟨i, e⟩ := x
      rw [hr] at h
      exact absurd h (runD_err _ _ _ _ _ hr)
    | ok x =>
      obtain ⟨d', n⟩ := x
      exact ⟨hc, runD_inv _ hc hr⟩
theorem tot_take (ops : List Opn) (n : Nat) : tot (ops.take n) ≤ tot ops := by
  have h : tot ops = tot (ops.take n) + tot (ops.drop n) := by
    conv => lhs; rw [← List.take_append_drop n ops]
    rw [tot, List.map_append, List.sum_append]; rfl
  omega
/-- What Interrupt may return. -/
def ItrS (d : Dk) (ops : List Opn) (a : Int) (d' : Dk) (e : Nat) : Prop :=
  if checkD d ≠ 0 then e = checkD d ∧ d' = dk0
  else if a < 0 ∨ (ops.length : Int) < a then e = 2 ∧ d' = dk0
  else if (runR d (ops.take a.toNat)).2.2 ≠ 0 then e = (runR d (ops.take a.toNat)).2.2 ∧ d' = dk0
  else e = 0 ∧ Mix (runR d (ops.take a.toNat)).1 d'
def ItrR (d : Dk) (ops : List Opn) (a : Int) (n : Nat) (H : Hp) (V : List Nat) : CV → Hp → List Nat → Prop := fun r H' V' => ∃ (d' : Dk) (l' : List Int) (e : Nat), (ItrS d ops a d' e ∧ l'.length ≤ n) ∧ r = .tup [.agg (dkC d'), .sl .sh 1 (l'.map ic), er e] ∧ H' = H ∧ V' = V
theorem Interrupt_cc (H : Hp) (V : List Nat) (d : Dk) (ops : List Opn) (a : Int) (tk : Tk) (l : List Int) (hl : d.stable.length ≤ 1000000) (hl2 : d.cache.length + tot ops ≤ 1000000) (hl3 : ops.length ≤ 1000000) (hll : l.length ≤ 1000000) (hs : SortOK) :
    CC Tryd.prog 23 [.agg (dkC d), opsV ops, ci a, .sl tk 1 (l.map ic)] H V (ItrR d ops a l.length H V) := by
  refine CC.of_swp Tryd.func23 rfl (by kernel_rfl) (by rw [Tryd.ntmps23]; exact len_le _ _ rfl) fun hok hokH => ?_
  clear hok
  have hd : DkS d := ⟨hl, by omega⟩
  have bad : ∀ (e : Nat) {H' : Hp} {V' : List Nat}, ItrS d ops a dk0 e → H'.take H.length = H → V'.take V.length = V → Fin H.length V.length (ItrR d ops a l.length H V) (.tup [.agg [.v (.slice none 0 0), .v (.slice none 0 0)], .v (.slice none 0 0), er e]) H' V' := fun e H' V' h1 h2 h3 =>
    Fin.pure (r' := .tup [.agg (dkC dk0), .sl .sh 1 (([] : List Int).map ic), er e]) ⟨dk0, [], e, ⟨h1, Nat.zero_le _⟩, rfl, rfl, rfl⟩ h2 h3 (.tup (.cons (.agg (.cons (.nil 8 (by decide)) (.cons (.nil 9 (by decide)) .nil))) (.cons (.nil 1 (by decide)) (.cons (.refl _) .nil)))) (by simp [go_sem, dkC, okE_secs, okE_ints, okE_cach]) hokH
  refine SWp.seq (Wp.s ?_)
  simp -implicitDefEqProofs [go_sem, args0]
  refine SWp.seq (Wp.s ?_)
  simp -implicitDefEqProofs [go_sem]
  refine CC.mono (Check_cc _ _ d hd) ?_
  rintro _ _ _ ⟨rfl, rfl, rfl⟩
  simp -implicitDefEqProofs [go_sem]
  refine ⟨fun hc => ?_, fun hc => ?_⟩
  case refine_1 => exact bad _ (by rw [ItrS, if_pos hc]; exact ⟨rfl, rfl⟩) (by simp) (by simp)
  refine SWp.seq (Wp.s ?_)
  simp -implicitDefEqProofs [go_sem]
  refine ⟨fun h1 => ⟨fun h2 => ?_, fun h2 => ?_⟩, fun h1 => ?_⟩
  case refine_2.refine_1 => exact bad 2 (by rw [ItrS, if_neg (by simp [hc]), if_pos (.inr h2)]; exact ⟨rfl, rfl⟩) (by simp) (by simp)
  case refine_2.refine_3 => exact bad 2 (by rw [ItrS, if_neg (by simp [hc]), if_pos (.inl h1)]; exact ⟨rfl, rfl⟩) (by simp) (by simp)
  obtain ⟨a, rfl⟩ := Int.eq_ofNat_of_zero_le h1
  have h2' : a ≤ ops.length := by omega
  refine SWp.seq (SWp.drawnT [] [10] (.s 0 .pl <| .s 1 .pl <| .s 2 .pl <| .s 3 .pl <| .c 4 <| .s 5 .pl <| .s 6 .pl <| .s 7 .pl <| .s 8 .pl <| .s 9 .pl <| .s 10 .st <| .s 11 .pl <| .s 12 .pl <| .n) (by kernel_rfl) (by kernel_rfl) ?_)
  simp -implicitDefEqProofs [go_sem, h2']
  have htt := tot_take ops a
  refine ⟨runV (runR d (ops.take a)), fun H V => ?_, ?_⟩
  · show CC Tryd.prog 25 [.agg (dkC d), .sl .sh 3 ((ops.map opC).take a)] H V _
    rw [← List.map_take]
    exact Run_cc H V d (ops.take a) hl (by omega) (by rw [List.length_take]; omega)
  have hI : ∀ d' e, ItrS d ops a d' e = if (runR d (ops.take a)).2.2 ≠ 0 then e = (runR d (ops.take a)).2.2 ∧ d' = dk0 else e = 0 ∧ Mix (runR d (ops.take a)).1 d' := fun d' e => by
    rw [ItrS, if_neg (by simp [hc]), if_neg (by omega)]; rfl
  have hinv := fun h => runR_inv (d := d) (ops := ops.take a) h
  generalize hr : runR d (ops.take a) = r at *
  obtain ⟨d2, n2, e2⟩ := r
  simp -implicitDefEqProofs [go_sem, runV]
  refine SWp.seq (Wp.s ?_)
  simp -implicitDefEqProofs [go_sem]
  refine ⟨fun he => bad e2 (by rw [hI, if_pos he]; exact ⟨rfl, rfl⟩) (by simp) (by simp), fun he => ?_⟩
  obtain ⟨i1, i2, i3, i4⟩ := hinv he
  dsimp only at i2 i3 i4
  refine SWp.seq (Wp.s ?_)
  simp -implicitDefEqProofs [go_sem]
  refine CC.mono (Crash_cc hs _ _ d2 tk l ⟨by omega, by omega⟩ i2 hll) ?_
  rintro _ _ _ ⟨d3, l3, ⟨hm, hl3'⟩, rfl, rfl, rfl⟩
  simp -implicitDefEqProofs [go_sem]
  refine SWp.seq (Wp.s ?_)
  simp -implicitDefEqProofs [go_sem]
  refine Wp.s ?_
  simp -implicitDefEqProofs [go_sem]
  exact Fin.pure (r' := .tup [.agg (dkC d3), .sl .sh 1 (l3.map ic), er 0]) ⟨d3, l3, 0, ⟨by rw [hI, if_neg (by simp [he])]; exact ⟨rfl, hm⟩, hl3'⟩, rfl, rfl, rfl⟩ (by simp) (by simp) (.refl _) (by simp [go_sem, dkC, okE_secs, okE_ints, okE_cach]) hokH
/-- What a step may return. -/
def StpS (d : Dk) (s : Stp) (d' : Dk) (done right : Bool) : Prop :=
  if (storeS d 5 s.payload).2 ≠ 0 then d' = d ∧ done = false ∧ right = false
  else if 2 < s.after.toNat then d' = (runR d (storeS d 5 s.payload).1).1 ∧ done = true ∧ right = decide ((runR d (storeS d 5 s.payload).1).2.2 = 0)
  else ∃ e, ItrS d (storeS d 5 s.payload).1 s.after.toNat d' e ∧ done = decide ((storeS d 5 s.payload).1.length ≤ s.after.toNat) ∧ right = decide (e = 0)
def StpR (d : Dk) (s : Stp) (H : Hp) (V : List Nat) : CV → Hp → List Nat → Prop := fun r H' V' => ∃ (d' : Dk) (done right : Bool), StpS d s d' done right ∧ r = .tup [.agg (dkC d'), cb done, cb right] ∧ H' = H ∧ V' = V
theorem sto_tot {d : Dk} {a : Int} {p : List UInt8} : tot (storeS d a p).1 ≤ 8 ∧ (storeS d a p).1.length ≤ 2 := by
  unfold storeS
  split
  · exact ⟨by simp [tot], by simp⟩
  · split
    · exact ⟨by simp [tot], by simp⟩
    · split
      · exact ⟨by simp [tot], by simp⟩
      · split
        · exact ⟨by simp [tot], by simp⟩
        · exact ⟨by simp [tot, opW, opS, copyS_len], by simp⟩
theorem step_cc (H : Hp) (V : List Nat) (d : Dk) (s : Stp) (hl : d.stable.length ≤ 100000) (hl2 : d.cache.length ≤ 100000) (hll : s.choices.length ≤ 1000000) (hs : SortOK) :
    CC Tryd.prog 22 [.agg (dkC d), .agg (stpC s)] H V (StpR d s H V) := by
  refine CC.of_swp Tryd.func22 rfl (by kernel_rfl) (by rw [Tryd.ntmps22]; exact len_le _ _ rfl) fun hok hokH => ?_
  clear hok
  have hd : DkS d := ⟨by omega, by omega⟩
  have ht := sto_tot (d := d) (a := 5) (p := s.payload)
  have hS : ∀ d' done right, StpS d s d' done right = (if (storeS d 5 s.payload).2 ≠ 0 then d' = d ∧ done = false ∧ right = false
  else if 2 < s.after.toNat then d' = (runR d (storeS d 5 s.payload).1).1 ∧ done = true ∧ right = decide ((runR d (storeS d 5 s.payload).1).2.2 = 0)
  else ∃ e, ItrS d (storeS d 5 s.payload).1 s.after.toNat d' e ∧ done = decide ((storeS d 5 s.payload).1.length ≤ s.after.toNat) ∧ right = decide (e = 0)) := fun _ _ _ => rfl
  refine SWp.seq (Wp.s ?_)
  simp -implicitDefEqProofs [go_sem, args0]
  refine SWp.seq (Wp.s ?_)
  simp -implicitDefEqProofs [go_sem]
  refine CC.mono (Store_cc _ _ d 5 _ s.payload hd) ?_
  rintro _ _ _ ⟨rfl, rfl, rfl⟩
  simp -implicitDefEqProofs [go_sem, stV]
  generalize storeS d 5 s.payload = w at *
  obtain ⟨ops, e⟩ := w
  dsimp only at ht hS ⊢
  refine SWp.seq (Wp.s ?_)
  simp -implicitDefEqProofs [go_sem]
  have fin : ∀ (d' : Dk) (done right : Bool) {H' : Hp} {V' : List Nat}, StpS d s d' done right → H'.take H.length = H → V'.take V.length = V → Fin H.length V.length (StpR d s H V) (.tup [.agg (dkC d'), cb done, cb right]) H' V' := fun d' done right H' V' h1 h2 h3 =>
    Fin.pure ⟨d', done, right, h1, rfl, rfl, rfl⟩ h2 h3 (.refl _) (by simp [go_sem, dkC, okE_secs, okE_ints, okE_cach]) hokH
  refine ⟨fun he => fin d false false (by rw [hS, if_pos he]; exact ⟨rfl, rfl, rfl⟩) (by simp) (by simp), fun he => ?_⟩
  subst he
  refine SWp.seq (Wp.s ?_)
  simp -implicitDefEqProofs [go_sem]
  refine ⟨fun h2 => ?_, fun h2 => ?_⟩
  · refine CC.mono (Run_cc _ _ d ops (by omega) (by omega) (by omega)) ?_
    rintro _ _ _ ⟨rfl, rfl, rfl⟩
    simp -implicitDefEqProofs [go_sem, runV]
    exact fin _ _ _ (by rw [hS, if_neg (by simp), if_pos (by omega)]; exact ⟨rfl, rfl, by simp⟩) (by simp) (by simp)
  have haf := s.after.toNat_lt
  have hwa : IntKind.i64.wrap (s.after.toNat : Int) = (s.after.toNat : Int) := IntWalk.i64_in _ ⟨by omega, by omega⟩
  refine SWp.seq (Wp.s ?_)
  simp -implicitDefEqProofs [go_sem, hwa]
  refine CC.mono (Interrupt_cc _ _ d ops s.after.toNat .sh s.choices (by omega) (by omega) (by omega) hll hs) ?_
  rintro _ _ _ ⟨d2, l2, e, ⟨hI, _⟩, rfl, rfl, rfl⟩
  simp -implicitDefEqProofs [go_sem]
  refine SWp.seq (SWp.drawnT [H.length + 1] [9] (.s 0 .pl <| .s 1 .pl <| .s 2 .ld <| .s 3 .pl <| .s 4 .pl <| .s 5 .pl <| .s 6 .pl <| .s 7 .pl <| .s 8 .pl <| .s 9 .st <| .s 10 .pl <| .s 11 .pl <| .n) (by kernel_rfl) (by kernel_rfl) ?_)
  simp -implicitDefEqProofs [go_sem]
  refine ⟨fun b hb cs q => by rw [List.mem_singleton] at hb; subst hb; rw [hget] at q ⊢; exact q, Wp.s ?_⟩
  rw [hwa]
  simp -implicitDefEqProofs [go_sem]
  exact fin _ _ _ (by rw [hS, if_neg (by simp), if_neg (by omega)]; exact ⟨e, hI, rfl, rfl⟩) (by simp) (by simp)
end Go.Proofs.YtdiblbjchhjccaaDoor
namespace Go.Proofs.YtdiblbjchhjccaaDoor
open Go.Proofs
theorem gn_eq (s : Sec) : gn s = ((sb s 3 * 256 + sb s 2) * 256 + sb s 1) * 256 + sb s 0 := by
  simp [gn, gi]
theorem gn_secOf {n : Nat} {p : List UInt8} (hn : n < 4294967296) (hp : p.length ≤ 31) {i : Nat} (hi : i < 8) : gn (secOf n p i) = n := by
  have h : ∀ j, j < 4 → sb (secOf n p i) j = n / 256 ^ j % 256 := fun j hj => by
    rw [sb, secOf_val n hp hi]
    rcases j with _ | _ | _ | _ | j
    · simp [le4]
    · simp [le4]
    · simp [le4]
    · simp [le4]
    · omega
  rw [gn_eq, h 3 (by omega), h 2 (by omega), h 1 (by omega), h 0 (by omega)]
  omega
theorem copyS_get (n : Nat) (p : List UInt8) (j : Nat) (h : j < 8) : (copyS n p)[j]? = some (secOf n p j) := by
  rw [copyS, List.getElem?_map, List.getElem?_range h]; rfl
theorem parts_take (D : List UInt8) : ∀ k, (List.range k).flatMap (fun i => (D.drop (4 * i)).take 4) = D.take (4 * k)
  | 0 => rfl
  | k + 1 => by
    rw [List.range_succ, List.flatMap_append, parts_take D k, Nat.mul_succ, List.take_add]
    simp
theorem dataS_copy {n : Nat} {p : List UInt8} (hp : p.length ≤ 31) : dataS (copyS n p) = dataOf p := by
  have h : dataS (copyS n p) = (List.range 8).flatMap (fun i => ((dataOf p).drop (4 * i)).take 4) := by
    rw [dataS, copyS, List.flatMap_map, List.flatMap_def, List.flatMap_def]
    congr 1
    refine List.map_congr_left fun i hi => ?_
    rw [List.mem_range] at hi
    rw [secOf_val n hp hi, List.drop_append_of_le_length (by rw [le4_len]; exact Nat.le_refl _), List.drop_of_length_le (by rw [le4_len]; exact Nat.le_refl _), List.nil_append]
    rfl
  rw [h, parts_take, List.take_of_length_le (by rw [dataOf_len hp]; decide)]
theorem dataOf_0 {p : List UInt8} (hp : p.length ≤ 31) : ((dataOf p).getD 0 0).toNat = p.length := by
  simp [dataOf]; omega
theorem okData_of {p : List UInt8} (hp : p.length ≤ 31) : okData (dataOf p) = true := by
  rw [okData, dataOf_0 hp]
  simp only [Bool.and_eq_true, decide_eq_true_eq]
  refine ⟨hp, ?_⟩
  rw [dataOf, List.cons_append, List.drop_succ_cons, List.drop_append_of_le_length (Nat.le_refl _), List.drop_length, List.nil_append]
  simp
theorem g0_copy {n : Nat} {p : List UInt8} (hn : n < 4294967296) (hp : p.length ≤ 31) : g0 (copyS n p) = n := by
  rw [g0, List.getD_eq_getElem?_getD, copyS_get n p 0 (by decide)]
  exact gn_secOf hn hp (by decide)
theorem parse_copy {n : Nat} {p : List UInt8} (hn : n < 4294967296) (hp : p.length ≤ 31) : parseS (copyS n p) = (n, p) := by
  have hv : valid (copyS n p) = true := by
    rw [valid, g0_copy hn hp, dataS_copy hp, okData_of hp, Bool.and_true, List.all_eq_true]
    intro s hs
    obtain ⟨i, hi, rfl⟩ := List.mem_map.1 hs
    rw [List.mem_range] at hi
    simp [gn_secOf hn hp hi]
  rw [parseS, if_pos hv, g0_copy hn hp, pay, dataS_copy hp, dataOf_0 hp, dataOf, List.cons_append, List.drop_succ_cons, List.drop_zero, List.take_append_of_le_length (Nat.le_refl _), List.take_length]
/-! ### Disks with no cache -/
theorem puts_get (a : Nat) (l s : List Sec) : ∀ i, i ≤ l.length → a + l.length ≤ s.length → ∀ j, ((puts a (l.take i)).foldl setC s)[j]? = if a ≤ j ∧ j < a + i then l[j - a]? else s[j]?
  | 0, _, _, j => by
    rw [if_neg (by omega)]; rfl
  | i + 1, h1, h2, j => by
    have ih := puts_get a l s i (by omega) h2 j
    rw [puts_succ _ _ _ (by omega), List.foldl_append, List.foldl_cons, List.foldl_nil, setC]
    have hp : ((a : Int) + (i : Int)).toNat = a + i := by omega
    dsimp only
    rw [hp, List.getElem?_set]
    by_cases e : a + i = j
    · subst e
      rw [if_pos rfl, if_pos (by rw [foldl_setC_len]; omega), if_pos (by omega), Nat.add_sub_cancel_left, List.getElem?_eq_getElem (by omega)]
    · rw [if_neg e, ih]
      by_cases h : a ≤ j ∧ j < a + i
      · rw [if_pos h, if_pos (by omega)]
      · rw [if_neg h, if_neg (by omega)]
/-- Sectors written over. -/
def patS (s : List Sec) (a : Nat) (l : List Sec) : List Sec := (puts a l).foldl setC s
theorem patS_len (s : List Sec) (a : Nat) (l : List Sec) : (patS s a l).length = s.length := foldl_setC_len _ _
theorem patS_get {s : List Sec} {a : Nat} {l : List Sec} (h : a + l.length ≤ s.length) (j : Nat) : (patS s a l)[j]? = if a ≤ j ∧ j < a + l.length then l[j - a]? else s[j]? := by
  have := puts_get a l s l.length (Nat.le_refl _) h j
  rwa [List.take_length] at this
theorem inside_ok {s : List Sec} {c : List Cach} {a : Nat} {l : List Sec} (h : a + l.length ≤ s.length) : insideB ⟨s, c⟩ a l.length = true := by
  simp only [insideB, Bool.and_eq_true, decide_eq_true_eq]; omega
theorem runD_w {s : List Sec} {a : Nat} {l : List Sec} (h : a + l.length ≤ s.length) (r : List Opn) (i : Nat) : runD ⟨s, []⟩ (opW a l :: r) i = runD ⟨s, puts a l⟩ r (i + 1) := by
  rw [runD]
  have : stepD ⟨s, []⟩ (opW a l) = .ok ⟨s, puts a l⟩ := by
    rw [stepD, if_neg (by simp [opW]), if_pos (by rfl)]
    show (match writeD ⟨s, []⟩ a l with | some d' => Except.ok d' | none => Except.error 2) = _
    rw [writeD, if_pos (inside_ok h)]; rfl
  rw [this]
theorem runD_s {s : List Sec} {c : List Cach} (r : List Opn) (i : Nat) : runD ⟨s, c⟩ (opS :: r) i = runD ⟨newestD ⟨s, c⟩, []⟩ r (i + 1) := by
  rw [runD, stepD, if_neg (by simp [opS]), if_neg (by simp [opS])]
theorem runD_ws {s : List Sec} {a : Nat} {l : List Sec} (h : a + l.length ≤ s.length) (r : List Opn) (i : Nat) : runD ⟨s, []⟩ (opW a l :: opS :: r) i = runD ⟨patS s a l, []⟩ r (i + 2) := by
  rw [runD_w h, runD_s]; rfl
theorem chk_nil {s : List Sec} (h : s.length ≤ 4096) : checkD ⟨s, []⟩ = 0 := by
  rw [checkD_iff]; exact ⟨h, fun c hc => by cases hc⟩
/-- Some of the sectors l have come to place a. -/
structure Mx (s s' : List Sec) (a : Nat) (l : List Sec) : Prop where
  len : s'.length = s.length
  get : ∀ j : Nat, s'[j]? = s[j]? ∨ (a ≤ j ∧ j < a + l.length ∧ s'[j]? = l[j - a]?)
theorem Mx.refl (s : List Sec) (a : Nat) (l : List Sec) : Mx s s a l := ⟨rfl, fun _ => .inl rfl⟩
theorem Mx.pat {s : List Sec} {a : Nat} {l : List Sec} (h : a + l.length ≤ s.length) : Mx s (patS s a l) a l :=
  ⟨patS_len _ _ _, fun j => by
    rw [patS_get h]
    by_cases hj : a ≤ j ∧ j < a + l.length
    · rw [if_pos hj]; exact .inr ⟨hj.1, hj.2, rfl⟩
    · rw [if_neg hj]; exact .inl rfl⟩
theorem mix_nil {s : List Sec} {d' : Dk} (h : Mix ⟨s, []⟩ d') : d' = ⟨s, []⟩ := by
  obtain ⟨h1, h2, h3⟩ := h
  obtain ⟨s', c'⟩ := d'
  dsimp only at h1 h2 h3
  subst h1
  congr 1
  refine List.ext_getElem h2 fun i a b => ?_
  rcases h3 i a with ⟨_, h⟩ | ⟨c, hc, _⟩
  · exact h
  · cases hc
theorem mix_puts {s : List Sec} {a : Nat} {l : List Sec} {d' : Dk} (h : Mix ⟨s, puts a l⟩ d') : d'.cache = [] ∧ Mx s d'.stable a l := by
  obtain ⟨h1, h2, h3⟩ := h
  refine ⟨h1, h2, fun j => ?_⟩
  rcases Nat.lt_or_ge j d'.stable.length with hj | hj
  · rcases h3 j hj with ⟨h', h⟩ | ⟨c, hc, hp, hd⟩
    · left; rw [List.getElem?_eq_getElem hj, List.getElem?_eq_getElem h', h]
    · right
      simp only [puts, List.mem_map] at hc
      obtain ⟨⟨x, q⟩, hm, rfl⟩ := hc
      dsimp only at hp hd
      have hq := List.mem_zipIdx hm
      simp only [Nat.zero_add, Nat.sub_zero] at hq
      have e : j = a + q := by omega
      subst e
      refine ⟨by omega, by omega, ?_⟩
      rw [List.getElem?_eq_getElem hj, hd, Nat.add_sub_cancel_left, List.getElem?_eq_getElem (by omega)]
      exact congrArg some hq.2.2
  · left
    rw [List.getElem?_eq_none hj, List.getElem?_eq_none (by rw [← h2]; exact hj)]
end Go.Proofs.YtdiblbjchhjccaaDoor
namespace Go.Proofs.YtdiblbjchhjccaaDoor
open Go.Proofs
theorem valid_gn {l : List Sec} (h : valid l = true) : ∀ s ∈ l, gn s = g0 l := fun s hs => by
  rw [valid, Bool.and_eq_true, List.all_eq_true] at h
  simpa using h.1 s hs
theorem parse_bad {l : List Sec} {s t : Sec} (hs : s ∈ l) (ht : t ∈ l) (h : gn s ≠ gn t) : (parseS l).1 = 0 := by
  by_cases hv : valid l = true
  · exact absurd ((valid_gn hv s hs).trans (valid_gn hv t ht).symm) h
  · rw [parseS, if_neg hv]
theorem parse_gn {l : List Sec} (h : 1 ≤ (parseS l).1) : ∀ s ∈ l, gn s = (parseS l).1 := fun s hs => by
  by_cases hv : valid l = true
  · rw [parseS, if_pos hv]; exact valid_gn hv s hs
  · rw [parseS, if_neg hv] at h; cases h
/-- A half, some of whose sectors are those of a newer copy. -/
theorem half {h h' : List Sec} {n : Nat} {p : List UInt8} (hn : n < 4294967296) (hp : p.length ≤ 31) (l1 : h.length = 8) (l2 : h'.length = 8) (hg : ∀ s ∈ h, gn s < n) (hx : ∀ j, j < 8 → h'[j]? = h[j]? ∨ h'[j]? = some (secOf n p j)) :
    parseS h' = (n, p) ∨ parseS h' = parseS h ∨ (parseS h').1 = 0 := by
  by_cases a : ∀ j, j < 8 → h'[j]? = h[j]?
  · right; left
    congr 1
    refine List.ext_getElem? fun j => ?_
    rcases Nat.lt_or_ge j 8 with hj | hj
    · exact a j hj
    · rw [List.getElem?_eq_none (by omega), List.getElem?_eq_none (by omega)]
  by_cases b : ∀ j, j < 8 → h'[j]? = some (secOf n p j)
  · left
    have : h' = copyS n p := by
      refine List.ext_getElem? fun j => ?_
      rcases Nat.lt_or_ge j 8 with hj | hj
      · rw [b j hj, copyS_get n p j hj]
      · rw [List.getElem?_eq_none (by omega), List.getElem?_eq_none (by rw [copyS_len]; exact hj)]
    rw [this, parse_copy hn hp]
  · right; right
    obtain ⟨i, hi⟩ := Classical.not_forall.1 a
    obtain ⟨hi8, hi⟩ := Classical.not_imp.1 hi
    obtain ⟨j, hj⟩ := Classical.not_forall.1 b
    obtain ⟨hj8, hj⟩ := Classical.not_imp.1 hj
    have e1 : h'[i]? = some (secOf n p i) := (hx i hi8).resolve_left hi
    have e2 : h'[j]? = h[j]? := (hx j hj8).resolve_right hj
    rw [List.getElem?_eq_getElem (by omega : j < h.length)] at e2
    refine parse_bad (List.mem_of_getElem? e1) (List.mem_of_getElem? e2) ?_
    rw [gn_secOf hn hp hi8]
    have := hg _ (List.getElem_mem (by omega : j < h.length))
    omega
/-- A half that was written whole. -/
theorem half_full {h' : List Sec} {n : Nat} {p : List UInt8} (hn : n < 4294967296) (hp : p.length ≤ 31) (l2 : h'.length = 8) (b : ∀ j, j < 8 → h'[j]? = some (secOf n p j)) : parseS h' = (n, p) := by
  have : h' = copyS n p := by
    refine List.ext_getElem? fun j => ?_
    rcases Nat.lt_or_ge j 8 with hj | hj
    · rw [b j hj, copyS_get n p j hj]
    · rw [List.getElem?_eq_none (by omega), List.getElem?_eq_none (by rw [copyS_len]; exact hj)]
  rw [this, parse_copy hn hp]
/-! ### The window -/
def win (s : List Sec) : List Sec := (s.drop 5).take 16
def hA (s : List Sec) : List Sec := (s.drop 5).take 8
def hB (s : List Sec) : List Sec := (s.drop 13).take 8
theorem win_A (s : List Sec) : (win s).take 8 = hA s := by rw [win, hA, List.take_take]; rfl
theorem win_B (s : List Sec) : (win s).drop 8 = hB s := by rw [win, hB, List.drop_take, List.drop_drop]
theorem hA_len {s : List Sec} (h : 21 ≤ s.length) : (hA s).length = 8 := by rw [hA, List.length_take, List.length_drop]; omega
theorem hB_len {s : List Sec} (h : 21 ≤ s.length) : (hB s).length = 8 := by rw [hB, List.length_take, List.length_drop]; omega
theorem hA_get (s : List Sec) (j : Nat) (h : j < 8) : (hA s)[j]? = s[5 + j]? := by rw [hA, List.getElem?_take, if_pos h, List.getElem?_drop]
theorem hB_get (s : List Sec) (j : Nat) (h : j < 8) : (hB s)[j]? = s[13 + j]? := by rw [hB, List.getElem?_take, if_pos h, List.getElem?_drop]
def pA (s : List Sec) : Nat × List UInt8 := parseS (hA s)
def pB (s : List Sec) : Nat × List UInt8 := parseS (hB s)
theorem bestw_eq (s : List Sec) : best (win s) = if (pA s).1 < (pB s).1 then pB s else pA s := by
  rw [best, cA, cB, win_A, win_B]; rfl
theorem new1_eq (s : List Sec) : new1 (win s) = if (pA s).1 < (pB s).1 then 1 else 0 := by
  rw [new1, cA, cB, win_A, win_B]; rfl
theorem mem_win {s : List Sec} {x : Sec} : x ∈ win s ↔ ∃ j, 5 ≤ j ∧ j < 21 ∧ s[j]? = some x := by
  constructor
  · intro h
    obtain ⟨i, hi, rfl⟩ := List.getElem_of_mem h
    have hi2 := hi
    rw [win, List.length_take, List.length_drop] at hi2
    refine ⟨5 + i, by omega, by omega, ?_⟩
    rw [List.getElem?_eq_getElem (by omega)]
    simp [win]
  · rintro ⟨j, h1, h2, h3⟩
    refine List.mem_of_getElem? (i := j - 5) ?_
    rw [win, List.getElem?_take, if_pos (by omega), List.getElem?_drop, ← h3]
    congr 1; omega
theorem mxS_le : ∀ (l : List Sec) (m k : Nat), mxS m l ≤ k ↔ m ≤ k ∧ ∀ s ∈ l, gn s ≤ k
  | [], m, k => by simp [mxS]
  | a :: l, m, k => by
    have := mxS_le l (max m (gn a)) k
    rw [mxS] at this ⊢
    rw [List.foldl_cons, this]
    simp only [List.mem_cons, forall_eq_or_imp, Nat.max_le, and_assoc]
theorem top_le (l : List Sec) (k : Nat) : topS l ≤ k ↔ ∀ s ∈ l, gn s ≤ k := by
  rw [topS_eq, mxS_le]; simp
theorem mem_hA {s : List Sec} {x : Sec} (h : x ∈ hA s) : x ∈ win s := by rw [← win_A] at h; exact List.mem_of_mem_take h
theorem mem_hB {s : List Sec} {x : Sec} (h : x ∈ hB s) : x ∈ win s := by rw [← win_B] at h; exact List.mem_of_mem_drop h
/-- A disk with a superblock at sector 5. -/
structure Gd (s : List Sec) (g : Nat) (v : List UInt8) (T : Nat) : Prop where
  l1 : 21 ≤ s.length
  l2 : s.length ≤ 4096
  bst : best (win s) = (g, v)
  pos : 1 ≤ g
  top : topS (win s) ≤ T
theorem find_nil {s : List Sec} (h1 : 21 ≤ s.length) (h2 : s.length ≤ 4096) : findE ⟨s, []⟩ 5 = 0 ∧ findL ⟨s, []⟩ 5 = win s := by
  have hc := chk_nil h2
  have hi : insideB ⟨s, []⟩ 5 16 = true := by simp only [insideB, Bool.and_eq_true, decide_eq_true_eq]; omega
  have : readD ⟨s, []⟩ 5 16 = (win s, 0) := by
    rw [readD, if_neg (by simp [hc]), if_neg (by simp [hi])]; rfl
  rw [findE, findL, this]; exact ⟨rfl, rfl⟩
theorem Gd.load {s : List Sec} {g : Nat} {v : List UInt8} {T : Nat} (h : Gd s g v T) : loadS ⟨s, []⟩ 5 = (v, g, 0) := by
  obtain ⟨f1, f2⟩ := find_nil h.l1 h.l2
  have := h.pos
  rw [loadS, if_neg (by simp [f1]), f2, h.bst, if_neg (by dsimp only; omega)]
theorem Gd.store {s : List Sec} {g : Nat} {v p : List UInt8} {T : Nat} (h : Gd s g v T) (hp : p.length ≤ 31) (hT : T < 4294967295) :
    storeS ⟨s, []⟩ 5 p = ([opW ((if (pA s).1 < (pB s).1 then 5 else 13 : Nat) : Int) (copyS (topS (win s) + 1) p), opS], 0) := by
  obtain ⟨f1, f2⟩ := find_nil h.l1 h.l2
  have h1 := h.pos
  have h2 := h.top
  rw [storeS, if_neg (by simp [f1]), f2, h.bst, if_neg (by dsimp only; omega), if_neg (by omega), if_neg (by omega), new1_eq]
  split <;> rfl
/-- A newer copy has come, or not, or in part, to the place of the elder one. -/
theorem Gd.mx {s s' : List Sec} {g : Nat} {v p : List UInt8} {T : Nat} (h : Gd s g v T) (hp : p.length ≤ 31) (hT : T < 4294967295)
    (hm : Mx s s' (if (pA s).1 < (pB s).1 then 5 else 13) (copyS (topS (win s) + 1) p)) :
    (Gd s' g v (T + 1) ∨ Gd s' (topS (win s) + 1) p (T + 1)) ∧ (∀ x, x = pA s' ∨ x = pB s' → x.1 = 0 ∨ x = pA s ∨ x = pB s ∨ x.2 = p) ∧ (∀ j, j < 5 ∨ 21 ≤ j → s'[j]? = s[j]?) ∧ g < topS (win s) + 1 ∧
    ((∀ j, (if (pA s).1 < (pB s).1 then 5 else 13) ≤ j → j < (if (pA s).1 < (pB s).1 then 5 else 13) + 8 → s'[j]? = (copyS (topS (win s) + 1) p)[j - (if (pA s).1 < (pB s).1 then 5 else 13)]?) → Gd s' (topS (win s) + 1) p (T + 1)) := by
  have h1 := h.l1
  have h2 := h.l2
  have hl := hm.len
  have hpos := h.pos
  have hb := h.bst
  rw [bestw_eq] at hb
  have htop := h.top
  have hall := (top_le (win s) (topS (win s))).1 (Nat.le_refl _)
  generalize hn : topS (win s) + 1 = n at *
  have hn32 : n < 4294967296 := by omega
  have hget := hm.get
  rw [copyS_len] at hget
  have htop' : topS (win s') ≤ T + 1 := by
    rw [top_le]
    intro x hx
    obtain ⟨j, a1, a2, a3⟩ := mem_win.1 hx
    rcases hget j with e | ⟨e1, e2, e3⟩
    · rw [e] at a3
      have := hall x (mem_win.2 ⟨j, a1, a2, a3⟩)
      omega
    · rw [a3, copyS_get _ _ _ (by omega)] at e3
      rw [Option.some.inj e3, gn_secOf hn32 hp (by omega)]
      omega
  have hout : ∀ j, j < 5 ∨ 21 ≤ j → s'[j]? = s[j]? := fun j hj => by
    rcases hget j with e | ⟨e1, e2, e3⟩
    · exact e
    · split at e1 <;> split at e2 <;> omega
  by_cases hlt : (pA s).1 < (pB s).1
  · simp only [if_pos hlt] at hget hb ⊢
    have hBe : pB s' = pB s := by
      rw [pB, pB]; congr 1
      refine List.ext_getElem? fun j => ?_
      rcases Nat.lt_or_ge j 8 with hj | hj
      · rw [hB_get _ _ hj, hB_get _ _ hj]
        rcases hget (13 + j) with e | ⟨e1, e2, e3⟩
        · exact e
        · omega
      · rw [List.getElem?_eq_none (by rw [hB_len (by omega)]; exact hj), List.getElem?_eq_none (by rw [hB_len (by omega)]; exact hj)]
    have hgn : g < n := by
      have h0l : 0 < (hB s).length := by rw [hB_len h1]; decide
      have hm0 : (hB s)[0] ∈ hB s := List.getElem_mem h0l
      have h1g : 1 ≤ (parseS (hB s)).1 := by show 1 ≤ (pB s).1; rw [hb]; exact hpos
      have e1 := parse_gn h1g _ hm0
      have e2 := hall _ (mem_hB hm0)
      have e3 : (parseS (hB s)).1 = g := by show (pB s).1 = g; rw [hb]
      omega
    have hAh := half (h := hA s) (h' := hA s') (n := n) (p := p) hn32 hp (hA_len h1) (hA_len (by omega)) (fun x hx => by have := hall x (mem_hA hx); omega) (fun j hj => by
      rw [hA_get _ _ hj, hA_get _ _ hj]
      rcases hget (5 + j) with e | ⟨e1, e2, e3⟩
      · exact .inl e
      · right; rw [e3, Nat.add_sub_cancel_left, copyS_get _ _ _ hj])
    refine ⟨?_, ?_, hout, hgn, fun hf => ⟨by omega, by omega, ?_, by omega, htop'⟩⟩
    · rcases hAh with e | e | e
      · right; refine ⟨by omega, by omega, ?_, by omega, htop'⟩
        rw [bestw_eq, hBe, hb, pA, e, if_neg (by dsimp only; omega)]
      · left; refine ⟨by omega, by omega, ?_, by omega, htop'⟩
        rw [bestw_eq, hBe, pA, e]
        show (if (pA s).1 < (pB s).1 then pB s else pA s) = _
        rw [if_pos hlt, hb]
      · left; refine ⟨by omega, by omega, ?_, by omega, htop'⟩
        rw [bestw_eq, hBe, hb, pA, e, if_pos (by dsimp only; omega)]
    · rintro x (rfl | rfl)
      · rcases hAh with e | e | e
        · right; right; right; rw [pA, e]
        · right; left; exact e
        · left; exact e
      · right; right; left; exact hBe
    · have := half_full (h' := hA s') (n := n) (p := p) hn32 hp (hA_len (by omega)) (fun j hj => by
        rw [hA_get _ _ hj, hf (5 + j) (by omega) (by omega), Nat.add_sub_cancel_left, copyS_get _ _ _ hj])
      rw [bestw_eq, hBe, hb, pA, this, if_neg (by dsimp only; omega)]
  · simp only [if_neg hlt] at hget hb ⊢
    have hAe : pA s' = pA s := by
      rw [pA, pA]; congr 1
      refine List.ext_getElem? fun j => ?_
      rcases Nat.lt_or_ge j 8 with hj | hj
      · rw [hA_get _ _ hj, hA_get _ _ hj]
        rcases hget (5 + j) with e | ⟨e1, e2, e3⟩
        · exact e
        · omega
      · rw [List.getElem?_eq_none (by rw [hA_len (by omega)]; exact hj), List.getElem?_eq_none (by rw [hA_len (by omega)]; exact hj)]
    have hgn : g < n := by
      have h0l : 0 < (hA s).length := by rw [hA_len h1]; decide
      have hm0 : (hA s)[0] ∈ hA s := List.getElem_mem h0l
      have h1g : 1 ≤ (parseS (hA s)).1 := by show 1 ≤ (pA s).1; rw [hb]; exact hpos
      have e1 := parse_gn h1g _ hm0
      have e2 := hall _ (mem_hA hm0)
      have e3 : (parseS (hA s)).1 = g := by show (pA s).1 = g; rw [hb]
      omega
    have hBh := half (h := hB s) (h' := hB s') (n := n) (p := p) hn32 hp (hB_len h1) (hB_len (by omega)) (fun x hx => by have := hall x (mem_hB hx); omega) (fun j hj => by
      rw [hB_get _ _ hj, hB_get _ _ hj]
      rcases hget (13 + j) with e | ⟨e1, e2, e3⟩
      · exact .inl e
      · right; rw [e3, Nat.add_sub_cancel_left, copyS_get _ _ _ hj])
    refine ⟨?_, ?_, hout, hgn, fun hf => ⟨by omega, by omega, ?_, by omega, htop'⟩⟩
    · rcases hBh with e | e | e
      · right; refine ⟨by omega, by omega, ?_, by omega, htop'⟩
        rw [bestw_eq, hAe, hb, pB, e, if_pos (by dsimp only; omega)]
      · left; refine ⟨by omega, by omega, ?_, by omega, htop'⟩
        rw [bestw_eq, hAe, pB, e]
        show (if (pA s).1 < (pB s).1 then pB s else pA s) = _
        rw [if_neg hlt, hb]
      · left; refine ⟨by omega, by omega, ?_, by omega, htop'⟩
        rw [bestw_eq, hAe, hb, pB, e, if_neg (by dsimp only; omega)]
    · rintro x (rfl | rfl)
      · right; left; exact hAe
      · rcases hBh with e | e | e
        · right; right; right; rw [pB, e]
        · right; right; left; exact e
        · left; exact e
    · have := half_full (h' := hB s') (n := n) (p := p) hn32 hp (hB_len (by omega)) (fun j hj => by
        rw [hB_get _ _ hj, hf (13 + j) (by omega) (by omega), Nat.add_sub_cancel_left, copyS_get _ _ _ hj])
      rw [bestw_eq, hAe, hb, pB, this, if_pos (by dsimp only; omega)]
end Go.Proofs.YtdiblbjchhjccaaDoor
