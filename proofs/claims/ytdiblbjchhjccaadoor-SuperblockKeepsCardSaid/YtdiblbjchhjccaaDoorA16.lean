import Derived.Test.YtdiblbjchhjccaaDoorA14
set_option linter.unusedSimpArgs false
set_option linter.unusedVariables false
set_option linter.unusedSectionVars false
namespace Go.Proofs.YtdiblbjchhjccaaDoor
open Go.Proofs
@[go_sem] theorem azTy3 : azTy Tryd.prog 3 = true := by kernel_rfl
/-- A step of the laws with crashes. -/
structure Stp where
  payload : List UInt8
  after : UInt8
  choices : List Int
def stpC (x : Stp) : List CV := [.sl .sh 1 (bs x.payload), .v (.int .u8 (x.after.toNat : Int)), .sl .sh 1 (x.choices.map ic)]
@[go_sem, simp] theorem stpC_len (x : Stp) : (stpC x).length = 3 := by rw [stpC]; rfl
@[go_sem, simp] theorem stpC_take (x : Stp) : (stpC x).take 3 = stpC x := rfl
@[go_sem, simp] theorem stpC_all (x : Stp) : allOne (stpC x) = true := rfl
@[go_sem, simp] theorem stpC_0 (x : Stp) (h : 0 < (stpC x).length) : (stpC x)[0] = CV.sl .sh 1 (bs x.payload) := rfl
@[go_sem, simp] theorem stpC_1 (x : Stp) (h : 1 < (stpC x).length) : (stpC x)[1] = CV.v (.int .u8 (x.after.toNat : Int)) := rfl
@[go_sem, simp] theorem stpC_2 (x : Stp) (h : 2 < (stpC x).length) : (stpC x)[2] = CV.sl .sh 1 (x.choices.map ic) := rfl
def bigS (x : Stp) : Bool := decide (31 < x.payload.length) || decide (40 < x.choices.length)
def smallL (l : List Stp) : Bool := !l.any bigS && decide (l.length ≤ 12)
theorem wrap_big {i : Nat} (h : i < 9223372036854775807) : IntKind.i64.wrap ((i : Int) + 1) = ((i + 1 : Nat) : Int) := by
  rw [IntWalk.i64_in _ ⟨by omega, by omega⟩]; rfl
theorem small_cc (H : Hp) (V : List Nat) (tk : Tk) (l : List Stp) (hl : l.length ≤ 9223372036854775807) : CC Tryd.prog 20 [.sl tk 3 (l.map stpC)] H V (Pu (cb (smallL l)) H V) := by
  refine CC.of_swp Tryd.func20 rfl (by kernel_rfl) (by rw [Tryd.ntmps20]; exact len_le _ _ rfl) fun hok hokH => ?_
  clear hok
  refine SWp.seq (Wp.s ?_)
  simp -implicitDefEqProofs [go_sem, args0]
  refine SWp.join (α := Unit) (fun _ => ([(0, .sl tk 3 (l.map stpC))], H, V)) (fun _ => l.any bigS = false) ?_ ?_
  · refine SWp.seq (Wp.s ?_)
    simp -implicitDefEqProofs [go_sem]
    refine SWp.block ?_
    refine SWp.loop (α := Nat) (fun i => ([(0, .sl tk 3 (l.map stpC)), (3, ci i)], H, V)) (fun i => i ≤ l.length ∧ (l.take i).any bigS = false) (fun i => l.length - i) 0 ⟨Nat.zero_le _, rfl⟩ (Sh.forget (by simp [go_sem]) rfl rfl) ?_
    rintro i ⟨hi, hp⟩
    dsimp only
    refine SWp.seq (Wp.s ?_)
    simp -implicitDefEqProofs [go_sem]
    refine ⟨fun h => ?_, fun h => ⟨?_, Sh.forget (by simp [go_sem]) rfl rfl⟩⟩
    case refine_2 => rw [List.take_of_length_le h] at hp; simpa using hp
    refine SWp.seq (SWp.block (SWp.seq (Wp.s ?_)))
    by_cases h1 : 31 < l[i].payload.length
    · simp -implicitDefEqProofs [go_sem, h, show (31 : Int) < l[i].payload.length by omega]
      refine Wp.s ?_
      simp -implicitDefEqProofs [go_sem]
      exact Fin.bool (by rw [smallL, any_at h (by simp [bigS, h1])]; rfl) hokH (by simp) (by simp)
    by_cases h2 : 40 < l[i].choices.length
    · simp -implicitDefEqProofs [go_sem, h, show ¬ (31 : Int) < l[i].payload.length by omega, show (40 : Int) < l[i].choices.length by omega]
      refine Wp.s ?_
      simp -implicitDefEqProofs [go_sem]
      exact Fin.bool (by rw [smallL, any_at h (by simp [bigS, h2])]; rfl) hokH (by simp) (by simp)
    simp -implicitDefEqProofs [go_sem, h, show ¬ (31 : Int) < l[i].payload.length by omega, show ¬ (40 : Int) < l[i].choices.length by omega]
    refine Wp.s ?_
    simp -implicitDefEqProofs [go_sem]
    refine Wp.s ?_
    simp -implicitDefEqProofs [go_sem, wrap_big (show i < 9223372036854775807 by omega)]
    exact ⟨i + 1, ⟨by omega, by simpa using any_take h hp (by simp [bigS, h1, h2])⟩, by omega, Sh.forget (by simp [go_sem]) rfl rfl⟩
  · rintro _ hq
    dsimp only
    refine Wp.s ?_
    simp -implicitDefEqProofs [go_sem]
    refine Fin.bool ?_ hokH (by simp) (by simp)
    rw [smallL, hq]
    by_cases h : l.length ≤ 12 <;> simp [h] <;> omega
def beginR (l : List Sec) (p : List UInt8) : Dk × Bool :=
  ((runR ⟨l ++ List.replicate 30 sec0, []⟩ (formatS 5 p).1).1, decide ((formatS 5 p).2 = 0) && decide ((runR ⟨l ++ List.replicate 30 sec0, []⟩ (formatS 5 p).1).2.2 = 0))
theorem fmt_tot (a : Int) (p : List UInt8) : tot (formatS a p).1 ≤ 24 ∧ (formatS a p).1.length ≤ 4 := by
  unfold formatS
  split
  · exact ⟨by simp [tot], by simp⟩
  · split
    · exact ⟨by simp [tot], by simp⟩
    · exact ⟨by simp [tot, opW, opS, copyS_len], by simp⟩
theorem begin_cc (H : Hp) (V : List Nat) (t1 t2 : Tk) (l : List Sec) (p : List UInt8) (hl : l.length ≤ 100000) : CC Tryd.prog 21 [.sl t1 8 (l.map secC), .sl t2 1 (bs p)] H V (Pu (.tup [.agg (dkC (beginR l p).1), cb (beginR l p).2]) H V) := by
  refine CC.of_swp Tryd.func21 rfl (by kernel_rfl) (by rw [Tryd.ntmps21]; exact len_le _ _ rfl) fun hok hokH => ?_
  clear hok
  refine SWp.seq (Wp.s ?_)
  simp -implicitDefEqProofs [go_sem, args0]
  refine SWp.seq (Wp.s ?_)
  simp -implicitDefEqProofs [go_sem, -List.reduceReplicate]
  refine ⟨by omega, by omega, ?_⟩
  have hz : List.map secC l ++ List.replicate 30 [CV.v (.int .u8 0), CV.v (.int .u8 0), CV.v (.int .u8 0), CV.v (.int .u8 0), CV.v (.int .u8 0), CV.v (.int .u8 0), CV.v (.int .u8 0), CV.v (.int .u8 0)] = (l ++ List.replicate 30 sec0).map secC := by
    rw [List.map_append, List.map_replicate]; rfl
  rw [hz]
  have ht := fmt_tot 5 p
  have hlen : (l ++ List.replicate 30 sec0).length ≤ 1000000 := by rw [List.length_append, List.length_replicate]; omega
  have hb : beginR l p = ((runR ⟨l ++ List.replicate 30 sec0, []⟩ (formatS 5 p).1).1, decide ((formatS 5 p).2 = 0) && decide ((runR ⟨l ++ List.replicate 30 sec0, []⟩ (formatS 5 p).1).2.2 = 0)) := rfl
  clear hz
  generalize l ++ List.replicate 30 sec0 = L at *
  refine SWp.seq (Wp.s ?_)
  simp -implicitDefEqProofs [go_sem, -List.reduceReplicate]
  refine CC.mono (Format_cc _ _ 5 _ p) ?_
  rintro _ _ _ ⟨rfl, rfl, rfl⟩
  simp -implicitDefEqProofs [go_sem, stV, -List.reduceReplicate]
  refine SWp.seq (Wp.s ?_)
  simp -implicitDefEqProofs [go_sem]
  refine CC.le (.cons (.agg (.cons (.sh _ _ _) (.cons (.nil 9 (by decide)) .nil))) (.cons (.refl _) .nil)) (CC.mono (Run_cc _ _ ⟨L, []⟩ (formatS 5 p).1 hlen (by simp only [List.length_nil]; omega) (by omega)) ?_)
  rintro _ _ _ ⟨rfl, rfl, rfl⟩
  generalize hr : runR ⟨L, []⟩ (formatS 5 p).1 = r at *
  simp -implicitDefEqProofs [go_sem, runV]
  refine SWp.seq (Wp.s ?_)
  rw [hb]
  by_cases e1 : (formatS 5 p).2 = 0
  · simp -implicitDefEqProofs [go_sem, e1]
    refine Wp.s ?_
    simp -implicitDefEqProofs [go_sem]
    exact Fin.tup2 (.refl _) (.refl _) (by simp [go_sem]) (by simp [go_sem]) hokH (by simp) (by simp)
  · simp -implicitDefEqProofs [go_sem, e1]
    refine Wp.s ?_
    simp -implicitDefEqProofs [go_sem]
    exact Fin.tup2 (.refl _) (.refl _) (by simp [go_sem]) (by simp [go_sem]) hokH (by simp) (by simp)
/-- A decision, and the rest of the choices. -/
def DecR (len n : Nat) (H : Hp) (V : List Nat) : CV → Hp → List Nat → Prop := fun r H' V' => ∃ (k : Nat) (l' : List Int), (k < n ∧ l'.length ≤ len) ∧ r = .tup [ci k, .sl .sh 1 (l'.map ic)] ∧ H = H' ∧ V = V'
/-- The rest of the choices, and a decision. -/
theorem decide_cc (H : Hp) (V : List Nat) (tk : Tk) (l : List Int) (n : Nat) (h0 : 0 < n) (hn : n ≤ 2000000) : CC Tryd.prog 51 [.sl tk 1 (l.map ic), ci n] H V (DecR l.length n H V) := by
  refine CC.of_swp Tryd.func51 rfl (by kernel_rfl) (by rw [Tryd.ntmps51]; exact len_le _ _ rfl) fun hok hokH => ?_
  clear hok
  have fin : ∀ (k : Nat) (l' : List Int) (c : CV) {H' : Hp} {V' : List Nat}, k < n ∧ l'.length ≤ l.length → Le c (.sl .sh 1 (l'.map ic)) → H'.take H.length = H → V'.take V.length = V → Fin H.length V.length (DecR l.length n H V) (.tup [ci k, c]) H' V' := fun k l' c H' V' hk hc h1 h2 =>
    Fin.pure ⟨k, l', hk, rfl, rfl, rfl⟩ h1 h2 (.tup (.cons (.refl _) (.cons hc .nil))) (by rw [okV]; simp [go_sem, okE_ints]) hokH
  refine SWp.seq (Wp.s ?_)
  simp -implicitDefEqProofs [go_sem, args0]
  refine SWp.seq (Wp.s ?_)
  by_cases hl : l = []
  · subst hl
    simp -implicitDefEqProofs [go_sem]
    exact fin 0 [] _ ⟨h0, Nat.le_refl _⟩ (.nil 1 (by decide)) (by simp) (by simp)
  have hlp : 0 < l.length := List.length_pos_iff.2 hl
  simp -implicitDefEqProofs [go_sem, hl, show ¬ l.length = 0 by omega]
  refine SWp.seq (SWp.drawnL (List.range 13) (by kernel_rfl) (by kernel_rfl) rfl ?_)
  simp -implicitDefEqProofs [go_sem, List.range, List.range.loop, hlp]
  have hn0 : (0 : Int) < n := by omega
  have x1 := Int.tmod_lt_of_pos l[0] hn0
  have x2 : -(n : Int) < l[0].tmod n := by
    have := Int.lt_tmod_of_pos l[0] hn0
    omega
  have hw : IntKind.i64.wrap (l[0].tmod n + n) = l[0].tmod n + n := IntWalk.i64_in _ ⟨by omega, by omega⟩
  have y1 := Int.tmod_lt_of_pos (l[0].tmod n + n) hn0
  have y2 : 0 ≤ (l[0].tmod n + n).tmod n := Int.tmod_nonneg _ (by omega)
  rw [hw]
  generalize (l[0].tmod n + n).tmod n = y at *
  obtain ⟨k, rfl⟩ := Int.eq_ofNat_of_zero_le y2
  refine ⟨by omega, by omega, Wp.s ?_⟩
  simp -implicitDefEqProofs [go_sem]
  exact fin k (l.drop 1) _ ⟨by omega, by rw [List.length_drop]; omega⟩ (.trans (.sh _ _ _) (.of_eq (by rw [List.map_drop, List.drop_one]))) (by simp) (by simp)
end Go.Proofs.YtdiblbjchhjccaaDoor
namespace Go.Proofs.YtdiblbjchhjccaaDoor
open Go.Proofs
theorem Keys_cc (H : Hp) (V : List Nat) (b : Nat) (hb : b < H.length) : CC Tryd.prog 50 [.mv b] H V (fun r H' V' => r = .fn 64 [.ptr H.length 0] ∧ H' = H ++ [some [.mv b]] ∧ V = V') := by
  refine CC.of_swp Tryd.func50 rfl (by kernel_rfl) (by rw [Tryd.ntmps50]; exact len_le _ _ rfl) fun hok hokH => ?_
  refine SWp.seq (Wp.s ?_)
  simp -implicitDefEqProofs [go_sem, args0]
  refine Wp.s ?_
  simp -implicitDefEqProofs [go_sem]
  refine Fin.cut (H.length + 1) V.length ⟨rfl, rfl, rfl⟩ (by omega) (Nat.le_refl _) (List.take_of_length_le (by simp)) (List.take_of_length_le (Nat.le_refl _)) (.refl _) (by simp [go_sem]) ?_
  intro c cs hb'
  rw [List.getElem?_append] at hb'
  split at hb'
  · exact okL_mono (by omega) (Nat.le_refl _) (hokH c cs hb')
  · exact okH_get (i := H.length + 1) (j := V.length) (L := [some [.mv b]]) (by rw [okH_some, okL, okL, okV]; exact ⟨⟨by omega, trivial⟩, trivial⟩) _ _ hb'
/-- How many are not seen. -/
def uns (s l : List Nat) : Nat := (l.filter fun x => !s.contains x).length
theorem uns_le (s : List Nat) (i : Nat) : ∀ l : List Nat, uns (s ++ [i]) l ≤ uns s l
  | [] => Nat.le_refl _
  | x :: l => by
    have ih := uns_le s i l
    unfold uns at *
    rw [List.filter_cons, List.filter_cons]
    by_cases h : x ∈ s
    · have h1 : (!(s ++ [i]).contains x) = false := by simp [h]
      have h2 : (!s.contains x) = false := by simp [h]
      rw [h1, h2]; exact ih
    · have h2 : (!s.contains x) = true := by simp [h]
      rw [h2]
      split
      · rw [if_pos rfl, List.length_cons, List.length_cons]; omega
      · rw [if_pos rfl, List.length_cons]; omega
theorem uns_lt (s : List Nat) (i : Nat) (hs : i ∉ s) : ∀ l : List Nat, i ∈ l → uns (s ++ [i]) l < uns s l
  | x :: l, hi => by
    by_cases hx : x = i
    · subst hx
      have := uns_le s x l
      unfold uns at *
      rw [List.filter_cons, List.filter_cons]
      have h1 : (!(s ++ [x]).contains x) = false := by simp
      have h2 : (!s.contains x) = true := by simp [hs]
      rw [h1, h2, if_neg (by decide), if_pos rfl, List.length_cons]; omega
    · have ih := uns_lt s i hs l (by rcases List.mem_cons.1 hi with h | h; exact absurd h.symm hx; exact h)
      unfold uns at *
      rw [List.filter_cons, List.filter_cons]
      by_cases h : x ∈ s
      · have h1 : (!(s ++ [i]).contains x) = false := by simp [h]
        have h2 : (!s.contains x) = false := by simp [h]
        rw [h1, h2]; exact ih
      · have h1 : (!(s ++ [i]).contains x) = true := by simp [h, hx]
        have h2 : (!s.contains x) = true := by simp [h]
        rw [h1, h2, if_pos rfl, if_pos rfl, List.length_cons, List.length_cons]; omega
theorem keys1_cc (H : Hp) (V : List Nat) (L b2 b : Nat) (ks : List Int) (vs : List CV) (I : List Nat → Hp → List Nat → Prop)
    (hb2 : H[b2]? = some (some [.mv b])) (hb : H[b]? = some (some [.objm ks vs]))
    (h0 : I [] (H ++ [some [.obji b ks.length []]]) V)
    (hI : ∀ s G W, I s G W → G[H.length]? = some (some [.obji b ks.length s]) ∧ G[b]? = some (some [.objm ks vs]) ∧ ∀ i ∈ s, i < ks.length)
    (hy : ∀ s i G W, I s G W → (h : i < ks.length) → i ∉ s → YC Tryd.prog L [ci (ks[i])] (G.set H.length (some [.obji b ks.length (s ++ [i])])) W (fun r G' W' => r = .v (.bool true) ∧ I (s ++ [i]) G' W')) :
    CC Tryd.prog 64 [.yl L, .ptr b2 0] H V (fun _ H' V' => ∃ s, I s H' V') := by
  refine CC.of_swp Tryd.func64 rfl (by kernel_rfl) (by rw [Tryd.ntmps64]; exact len_le _ _ rfl) fun hok hokH => ?_
  clear hok
  refine SWp.seq (Wp.s ?_)
  simp -implicitDefEqProofs [go_sem, args0, hbx_of hb2, hbm_some hb]
  refine SWp.block ?_
  refine SWp.loop (α := List Nat × Hp × List Nat) (fun x => ([(0, .yl L), (5, .it H.length)], x.2.1, x.2.2)) (fun x => I x.1 x.2.1 x.2.2) (fun x => uns x.1 (List.range ks.length)) ([], _, V) h0 (Sh.forget (by simp [go_sem]) rfl rfl) ?_
  rintro ⟨s, G, W⟩ hi
  dsimp only at hi ⊢
  obtain ⟨g1, g2, g3⟩ := hI _ _ _ hi
  refine SWp.seq (Wp.s ?_)
  simp -implicitDefEqProofs [go_sem]
  unfold cnext
  dsimp only
  refine ⟨rfl, b, ks.length, s, ks, vs, g1, g2, rfl, g3, fun hall => ?_, fun i hil hni => ?_⟩
  · simp -implicitDefEqProofs [go_sem]
    refine SWp.seq (Wp.s ?_)
    simp -implicitDefEqProofs [go_sem]
    exact Fin.self ⟨s, hi⟩
  · have hbl : b < H.length := by
      rcases Nat.lt_or_ge b H.length with h | h
      · exact h
      · rw [List.getElem?_eq_none h] at hb; cases hb
    have hql : H.length < G.length := (List.getElem?_eq_some_iff.1 g1).1
    have q1 : (G.set H.length (some [.obji b ks.length (s ++ [i])]))[H.length]? = some (some [.obji b ks.length (s ++ [i])]) := List.getElem?_set_self hql
    have q2 : (G.set H.length (some [.obji b ks.length (s ++ [i])]))[b]? = some (some [.objm ks vs]) := by rw [List.getElem?_set_ne (by omega)]; exact g2
    simp -implicitDefEqProofs [go_sem]
    refine SWp.seq (Wp.s ?_)
    simp -implicitDefEqProofs [go_sem]
    refine SWp.block (SWp.seq (Wp.s ?_))
    simp -implicitDefEqProofs [go_sem]
    unfold centry
    dsimp only
    refine ⟨b, ks.length, s, i, ks, vs, q1, q2, rfl, hil, ?_⟩
    rw [List.getElem?_eq_getElem hil, Option.getD_some]
    simp -implicitDefEqProofs [go_sem]
    refine SWp.seq (Wp.s ?_)
    simp -implicitDefEqProofs [go_sem]
    refine YC.mono (hy s i G W hi hil hni) ?_
    rintro _ G2 W2 ⟨rfl, hi2⟩
    simp -implicitDefEqProofs [go_sem]
    refine Wp.s ?_
    simp -implicitDefEqProofs [go_sem]
    exact ⟨s ++ [i], G2, W2, hi2, uns_lt s i hni _ (by simpa using hil), Sh.forget (by simp [go_sem]) rfl rfl⟩
/-- Numbers that are collected: nothing yet, or all of a box. -/
def Cl (h : Nat) (ks : List Int) (cv : CV) (xs : List Int) (W : Hp) : Prop :=
  (∀ x ∈ xs, x ∈ ks) ∧ ((cv = .sl .ti 1 [] ∧ xs = []) ∨ ∃ j, cv = .bsa (h + (j + 3)) xs.length 1 ∧ W[j]? = some (some (xs.map ci)))
theorem Cl.one {h : Nat} {ks : List Int} {cv : CV} {xs : List Int} {W : Hp} (h : Cl h ks cv xs W) : cv.one = true := by
  rcases h.2 with ⟨rfl, _⟩ | ⟨b, rfl, _⟩ <;> rfl
def ColR (ks : List Int) (H : Hp) (V : List Nat) : CV → Hp → List Nat → Prop := fun r H' V' => ∃ (xs : List Int) (W : Hp), H' = H ++ W ∧ V' = V ∧ (∀ x ∈ xs, x ∈ ks) ∧ xs.length ≤ ks.length ∧ ((r = .sl .ti 1 [] ∧ xs = []) ∨ ∃ j, r = .bsa (H.length + j) xs.length 1 ∧ W[j]? = some (some (xs.map ci)))
@[go_sem] theorem hbx_W3 (H W : Hp) (a0 a1 a2 : Option (List CV)) (j : Nat) (K : List CV → Prop) : hbx (H ++ (a0 :: a1 :: a2 :: W)) (H.length + (j + 3)) K = hbx W j K := by
  unfold hbx
  have : (H ++ (a0 :: a1 :: a2 :: W))[H.length + (j + 3)]? = W[j]? := by
    rw [hget]; simp only [List.getElem?_cons_succ]
  rw [this]
theorem set_W3 (H W : Hp) (a0 a1 a2 : Option (List CV)) (j : Nat) (y : Option (List CV)) : (H ++ (a0 :: a1 :: a2 :: W)).set (H.length + (j + 3)) y = H ++ (a0 :: a1 :: a2 :: W.set j y) := by
  rw [List.set_append_right _ _ (by omega), Nat.add_sub_cancel_left]; rfl
theorem AppendSeq_cc (H : Hp) (V : List Nat) (b2 b : Nat) (ks : List Int) (vs : List CV) (hb2 : H[b2]? = some (some [.mv b])) (hb : H[b]? = some (some [.objm ks vs])) (hkl : ks.length ≤ 1000000) :
    CC Tryd.prog 69 [.sl .ti 1 [], .fn 64 [.ptr b2 0]] H V (ColR ks H V) := by
  refine CC.of_swp0 Tryd.func69 rfl (by kernel_rfl) (by rw [Tryd.ntmps69]; exact len_le _ _ rfl) fun hok hokH => ?_
  have hb2l := (List.getElem?_eq_some_iff.1 hb2).1
  have hbl := (List.getElem?_eq_some_iff.1 hb).1
  refine SWp0.seq (SWp.s0 (Wp.s ?_))
  simp -implicitDefEqProofs [go_sem, args0]
  refine SWp0.join (α := CV × List Int × Option (List CV) × Hp) (fun x => ([(2, .ptr H.length 0)], H ++ (some [x.1] :: none :: x.2.2.1 :: x.2.2.2), V)) (fun x => Cl H.length ks x.1 x.2.1 x.2.2.2 ∧ x.2.1.length ≤ ks.length) ?_ ?_
  · refine SWp0.seq (SWp.s0 (Wp.s ?_))
    simp -implicitDefEqProofs [go_sem]
    refine SWp0.block (SWp0.range [(2, .ptr H.length 0)] rfl (by simp [go_sem]) ?_)
    simp -implicitDefEqProofs [go_sem]
    generalize hbd : Code.block 1 _ = bd
    generalize has : Code.region 2 _ _ = asg
    refine CC.mono (keys1_cc _ V _ b2 b ks vs (fun s G W => W = V ∧ ∃ cv xs Wg, G = H ++ (some [cv] :: some [lpc 13 #[7] asg bd [(2, .ptr H.length 0)] .ready none] :: some [.obji b ks.length s] :: Wg) ∧ Cl H.length ks cv xs Wg ∧ (∀ i ∈ s, i < ks.length) ∧ xs.length + uns s (List.range ks.length) ≤ ks.length) ?_ ?_ ?_ ?_ ?_) ?_
    · rw [List.getElem?_append_left hb2l]; exact hb2
    · rw [List.getElem?_append_left hbl]; exact hb
    · exact ⟨rfl, .sl .ti 1 [], [], [], by simp, ⟨by simp, .inl ⟨rfl, rfl⟩⟩, by simp, by have := List.length_filter_le (fun x => !([] : List Nat).contains x) (List.range ks.length); rw [List.length_range] at this; simpa [uns] using this⟩
    · rintro s _ _ ⟨rfl, cv, xs, Wg, rfl, hc, hs, hu⟩
      exact ⟨by rw [List.length_append]; exact hget H _ 2, by rw [List.getElem?_append_left hbl]; exact hb, hs⟩
    · rintro s i _ V1 ⟨rfl, cv, xs, Wg, rfl, hc, hs, hu⟩ hil hni
      have e : List.set (H ++ (some [cv] :: some [lpc 13 #[7] asg bd [(2, .ptr H.length 0)] .ready none] :: some [.obji b ks.length s] :: Wg)) (H ++ [some [.sl .ti 1 []], some [lpc 13 #[7] asg bd [(2, .ptr H.length 0)] .ready none]]).length (some [.obji b ks.length (s ++ [i])]) =
          H ++ (some [cv] :: some [lpc 13 #[7] asg bd [(2, .ptr H.length 0)] .ready none] :: some [.obji b ks.length (s ++ [i])] :: Wg) := by
        rw [List.length_append, List.set_append_right _ _ (by omega), Nat.add_sub_cancel_left]; rfl
      rw [e]
      have hsi : ∀ j ∈ s ++ [i], j < ks.length := by
        intro j hj
        rcases List.mem_append.1 hj with hj | hj
        · exact hs j hj
        · rw [List.mem_singleton.1 hj]; exact hil
      have hsi' : ∀ j, j ∈ s ∨ j = i → j < ks.length := fun j hj => hsi j (by simpa using hj)
      have hlt := uns_lt s i hni (List.range ks.length) (by simpa using hil)
      have hki : ks[i] ∈ ks := List.getElem_mem hil
      refine YC.of_round (n := 13) (ps := #[7]) (bd := bd) (T := [(2, .ptr H.length 0)]) (hget _ _ 1) rfl (by decide) ?_
      subst hbd has
      refine Wp.s ?_
      simp -implicitDefEqProofs [go_sem, tps]
      generalize hlp : lpc 13 #[7] _ _ _ LoopState.busy none = lp
      generalize hqq : RQ 13 #[7] _ _ _ _ _ = QQ
      rcases hc with ⟨hx0, ⟨rfl, rfl⟩ | ⟨j, rfl, hj⟩⟩
      · refine SWp.block (SWp.opx (pre := [_, _, _]) (post := [_]) rfl (by intro c e; cases e) ?_)
        simp -implicitDefEqProofs [go_sem]
        refine ⟨_, _, _, appbox (sz := 1) (tk := .ti) (ys := [[ci ks[i]]]) slTy52 slTy52 rfl rfl (by simp) (by simp), ?_⟩
        simp -implicitDefEqProofs [go_sem]
        rw [← hqq, ← hlp]
        refine ⟨hget _ _ 1, rfl, rfl, .bsa (H.length + (Wg.length + 3)) 1 1, [ks[i]], Wg ++ [some [ci ks[i]]], ?_, ⟨fun x hx => by rw [List.mem_singleton.1 hx]; exact hki, .inr ⟨Wg.length, rfl, by simp⟩⟩, hsi', by simp at hu ⊢; omega⟩
        rw [List.set_append_right _ _ (by omega), Nat.add_sub_cancel_left]
        simp
      · refine SWp.block (Wp.s ?_)
        simp -implicitDefEqProofs [go_sem, hbx_of hj, set_W3]
        rw [← hqq, ← hlp]
        refine ⟨by omega, hget _ _ 1, rfl, rfl, .bsa (H.length + (Wg.length + 3)) (xs ++ [ks[i]]).length 1, xs ++ [ks[i]], Wg.set j none ++ [some ((xs ++ [ks[i]]).map ci)], ?_, ⟨fun x hx => ?_, .inr ⟨Wg.length, rfl, by simp⟩⟩, hsi', by simp; omega⟩
        · rw [List.set_append_right _ _ (by omega), Nat.add_sub_cancel_left]
          simp
        · rcases List.mem_append.1 hx with hx | hx'
          · exact hx0 x hx
          · rw [List.mem_singleton.1 hx']; exact hki
    · rintro _ _ _ ⟨s, rfl, cv, xs, Wg, rfl, hc, hs, hu⟩
      refine .inl ⟨hget _ _ 1, ?_⟩
      refine ⟨cv, xs, some [.obji b ks.length s], Wg, ⟨hc, by omega⟩, Sh.forget (by simp [go_sem]) ?_ rfl⟩
      rw [List.set_append_right _ _ (by omega), Nat.add_sub_cancel_left]; rfl
  · rintro ⟨cv, xs, ob, Wg⟩ ⟨hc, hxl⟩
    dsimp only at hc hxl ⊢
    refine SWp0.seq (SWp.s0 (Wp.s ?_))
    simp -implicitDefEqProofs [go_sem]
    refine SWp.s0 (Wp.s ?_)
    simp -implicitDefEqProofs [go_sem]
    refine Fin.self ⟨xs, _, rfl, rfl, hc.1, hxl, ?_⟩
    rcases hc.2 with ⟨rfl, rfl⟩ | ⟨j, rfl, hj⟩
    · exact .inl ⟨rfl, rfl⟩
    · exact .inr ⟨j + 3, rfl, hj⟩
end Go.Proofs.YtdiblbjchhjccaaDoor
namespace Go.Proofs.YtdiblbjchhjccaaDoor
open Go.Proofs
theorem Collect_cc (H : Hp) (V : List Nat) (b2 b : Nat) (ks : List Int) (vs : List CV) (hb2 : H[b2]? = some (some [.mv b])) (hb : H[b]? = some (some [.objm ks vs])) (hkl : ks.length ≤ 1000000) :
    CC Tryd.prog 62 [.fn 64 [.ptr b2 0]] H V (ColR ks H V) := by
  refine CC.of_swp Tryd.func62 rfl (by kernel_rfl) (by rw [Tryd.ntmps62]; exact len_le _ _ rfl) fun hok hokH => ?_
  clear hok
  refine SWp.seq (Wp.s ?_)
  simp -implicitDefEqProofs [go_sem, args0]
  refine SWp.seq (Wp.s ?_)
  simp -implicitDefEqProofs [go_sem]
  refine CC.le (.cons (.nilti 1 (by decide)) (.cons (.refl _) .nil)) (CC.mono (AppendSeq_cc _ _ b2 b ks vs hb2 hb hkl) ?_)
  rintro r _ _ ⟨xs, W, rfl, rfl, h1, hxl, h2⟩
  simp -implicitDefEqProofs [go_sem]
  refine Wp.s ?_
  simp -implicitDefEqProofs [go_sem]
  exact Fin.self ⟨xs, W, rfl, rfl, h1, hxl, h2⟩
/-- What slices.Sort does, as far as it is asked here: to be shown. -/
structure SortOK : Prop where
  box : ∀ (H : Hp) (V : List Nat) (b : Nat) (xs : List Int), H[b]? = some (some (xs.map ci)) → xs.length ≤ 1000000 →
    CC Tryd.prog 63 [.bsa b xs.length 1] H V (fun _ H' V' => ∃ ys : List Int, (∀ y ∈ ys, y ∈ xs) ∧ ys.length = xs.length ∧ H' = H.set b (some (ys.map ci)) ∧ V' = V)
  none : ∀ (H : Hp) (V : List Nat), CC Tryd.prog 63 [.sl .ti 1 []] H V (fun _ H' V' => H' = H ∧ V' = V)
def SrtR (ks : List Int) (H : Hp) (V : List Nat) : CV → Hp → List Nat → Prop := fun r H' V' => ∃ ys : List Int, (∀ y ∈ ys, y ∈ ks) ∧ ys.length ≤ 1000000 ∧ r = .sl .sh 1 (ys.map ic) ∧ H' = H ∧ V' = V
theorem chunks_ci : ∀ ys : List Int, chunks 1 ys.length (ys.map ci) = ys.map ic
  | [] => rfl
  | y :: ys => by
    rw [List.length_cons, chunks]
    exact congrArg (_ :: ·) (chunks_ci ys)
theorem Sorted_cc (hs : SortOK) (H : Hp) (V : List Nat) (b2 b : Nat) (ks : List Int) (vs : List CV) (hb2 : H[b2]? = some (some [.mv b])) (hb : H[b]? = some (some [.objm ks vs])) (hkl : ks.length ≤ 1000000) :
    CC Tryd.prog 49 [.fn 64 [.ptr b2 0]] H V (SrtR ks H V) := by
  refine CC.of_swp Tryd.func49 rfl (by kernel_rfl) (by rw [Tryd.ntmps49]; exact len_le _ _ rfl) fun hok hokH => ?_
  clear hok
  refine SWp.seq (Wp.s ?_)
  simp -implicitDefEqProofs [go_sem, args0]
  refine SWp.seq (Wp.s ?_)
  simp -implicitDefEqProofs [go_sem]
  refine CC.mono (Collect_cc _ _ b2 b ks vs hb2 hb hkl) ?_
  rintro r _ _ ⟨xs, W, rfl, rfl, h1, hxl, ⟨rfl, rfl⟩ | ⟨j, rfl, hj⟩⟩
  · simp -implicitDefEqProofs [go_sem]
    refine SWp.seq (Wp.s ?_)
    simp -implicitDefEqProofs [go_sem]
    refine CC.mono (hs.none _ _) ?_
    rintro _ _ _ ⟨rfl, rfl⟩
    simp -implicitDefEqProofs [go_sem]
    refine Wp.s ?_
    simp -implicitDefEqProofs [go_sem]
    exact Fin.pure (r' := .sl .sh 1 []) ⟨[], by simp, by simp, rfl, rfl, rfl⟩ (by simp) (by simp) (.sh _ _ _) (by simp [go_sem]) hokH
  · simp -implicitDefEqProofs [go_sem]
    refine SWp.seq (Wp.s ?_)
    simp -implicitDefEqProofs [go_sem]
    have hj' : (H ++ W)[H.length + j]? = some (some (xs.map ci)) := by rw [hget]; exact hj
    refine CC.mono (hs.box _ _ _ xs hj' (by omega)) ?_
    rintro _ _ _ ⟨ys, hy1, hy2, rfl, rfl⟩
    simp -implicitDefEqProofs [go_sem]
    refine Wp.s ?_
    simp -implicitDefEqProofs [go_sem]
    have hjl := (List.getElem?_eq_some_iff.1 hj').1
    refine Fin.froz (b := H.length + j) (o := 0) (n := xs.length) (sz := 1) (cs := ys.map ci) (xs := ys.map ic) ⟨ys, fun y hy => h1 y (hy1 y hy), ?_, rfl, rfl, rfl⟩ (.bsa _ _ _) (by rw [hget]; exact List.getElem?_set_self (List.getElem?_eq_some_iff.1 hj).1) ?_ ?_ (by omega) (by rw [okE_ints]; trivial) hokH ?_ (by simp)
    · omega
    · rw [List.drop_zero, ← hy2, chunks_ci]
    · rw [List.length_map]; omega
    · simp
end Go.Proofs.YtdiblbjchhjccaaDoor
