import Derived.Test.YtdiblbjchhjccaaDoorA8
set_option linter.unusedSimpArgs false
set_option linter.unusedVariables false
set_option linter.unusedSectionVars false
namespace Go.Proofs.YtdiblbjchhjccaaDoor
open Go.Proofs
theorem Fin.tup2 {H H' : Hp} {V V' : List Nat} {a b a' b' : CV} (h1 : Le a a') (h2 : Le b b') (o1 : okV H.length V.length a') (o2 : okV H.length V.length b') (hokH : ∀ (b : Nat) cs, H[b]? = some (some cs) → okL H.length V.length cs) (hH : H'.take H.length = H) (hV : V'.take V.length = V) : Fin H.length V.length (Pu (.tup [a', b']) H V) (.tup [a, b]) H' V' :=
  Fin.pu (.tup (.cons h1 (.cons h2 .nil))) (by rw [okV]; simp [go_sem, o1, o2]) hokH hH hV
theorem okV_secsV (i j : Nat) (l : List Sec) : okV i j (secsV l) := by rw [secsV, okV_sh, okE_secs]; trivial
theorem okV_er (i j : Nat) (e : Nat) : okV i j (er e) := by rw [er, okV]; trivial
theorem inside_f {d : Dk} {a n : Int} (h : a < 0 ∨ n < 0 ∨ (d.stable.length : Int) < n ∨ (d.stable.length : Int) - n < a) : insideB d a n = false := by
  rw [← Bool.not_eq_true]
  intro hq
  simp only [insideB, Bool.and_eq_true, decide_eq_true_eq] at hq
  omega
theorem Read_cc (H : Hp) (V : List Nat) (d : Dk) (e : Ext2) (hl : DkS d) : CC Tryd.prog 41 [.agg (dkC d), .agg (extC e)] H V (Pu (.tup [secsV (readD d e.start e.count).1, er (readD d e.start e.count).2]) H V) := by
  refine CC.of_swp Tryd.func41 rfl (by kernel_rfl) (by rw [Tryd.ntmps41]; exact len_le _ _ rfl) fun hok hokH => ?_
  clear hok
  have hl1 := hl.1
  have hl2 := hl.2
  refine SWp.seq (Wp.s ?_)
  simp -implicitDefEqProofs [go_sem, args0]
  refine SWp.seq (Wp.s ?_)
  simp -implicitDefEqProofs [go_sem]
  refine CC.mono (Check_cc _ _ d hl) ?_
  rintro _ _ _ ⟨rfl, rfl, rfl⟩
  simp -implicitDefEqProofs [go_sem]
  refine ⟨fun hc => ?_, fun hc => ?_⟩
  case refine_1 =>
    have hr : readD d e.start e.count = ([], checkD d) := by rw [readD, if_pos hc]
    rw [hr]
    exact Fin.tup2 (by exact .nil 8 (by decide)) (.refl _) (by simp [go_sem]) (by simp [go_sem]) hokH (by simp) (by simp)
  refine SWp.seq (Wp.s ?_)
  simp -implicitDefEqProofs [go_sem]
  refine CC.mono (inside_cc _ _ d e.start e.count (by omega)) ?_
  rintro _ _ _ ⟨rfl, rfl, rfl⟩
  simp -implicitDefEqProofs [go_sem]
  rcases hq : insideB d e.start e.count with - | -
  · simp -implicitDefEqProofs [go_sem]
    have hr : readD d e.start e.count = ([], 2) := by rw [readD, if_neg (by simp [hc]), if_pos hq]
    rw [hr]
    exact Fin.tup2 (by exact .nil 8 (by decide)) (.refl _) (by simp [go_sem]) (by simp [go_sem]) hokH (by simp) (by simp)
  have hi : 0 ≤ e.start ∧ 0 ≤ e.count ∧ e.count ≤ (d.stable.length : Int) ∧ e.start ≤ (d.stable.length : Int) - e.count := by
    simpa [insideB, and_assoc] using hq
  have hr : readD d e.start e.count = (((newestD d).drop e.start.toNat).take e.count.toNat, 0) := by rw [readD, if_neg (by simp [hc]), if_neg (by simp [hq])]
  rw [hr]
  obtain ⟨i1, i2, i3, i4⟩ := hi
  simp -implicitDefEqProofs [go_sem]
  refine SWp.seq (SWp.drawnL [0, 2, 3, 4, 5, 6, 7, 8, 9, 10, 11, 12, 13, 1, 14, 15, 16] (by kernel_rfl) (by kernel_rfl) rfl ?_)
  simp -implicitDefEqProofs [go_sem, IntWalk.i64_in (e.start + e.count) ⟨by omega, by omega⟩]
  refine CC.mono (newest_cc _ _ d hl hc) ?_
  rintro _ _ _ ⟨rfl, rfl, rfl⟩
  simp -implicitDefEqProofs [go_sem]
  have hn := newestD_len d
  refine ⟨i1, by omega, by omega, by omega, Wp.s ?_⟩
  simp -implicitDefEqProofs [go_sem]
  refine Fin.tup2 ?_ (.refl _) (okV_secsV _ _ _) (okV_er _ _ _) hokH (by simp) (by simp)
  have e1 : (e.start + e.count).toNat = e.start.toNat + e.count.toNat := by omega
  refine .trans (.sh _ _ _) (.of_eq ?_)
  rw [secsV, e1, List.drop_take, Nat.add_sub_cancel_left, List.map_take, List.map_drop]
theorem rRead_cc (H : Hp) (V : List Nat) (d : Dk) (e : Ext2) (hl : DkS d) : CC Tryd.prog 44 [.agg (dkC d), .agg (extC e)] H V (Pu (.tup [secsV (readD d e.start e.count).1, er (readD d e.start e.count).2]) H V) := by
  refine CC.of_swp Tryd.func44 rfl (by kernel_rfl) (by rw [Tryd.ntmps44]; exact len_le _ _ rfl) fun hok hokH => ?_
  clear hok
  have hl1 := hl.1
  have hl2 := hl.2
  refine SWp.seq (Wp.s ?_)
  simp -implicitDefEqProofs [go_sem, args0]
  refine SWp.seq (Wp.s ?_)
  simp -implicitDefEqProofs [go_sem]
  refine CC.mono (rCheck_cc _ _ d hl) ?_
  rintro _ _ _ ⟨rfl, rfl, rfl⟩
  simp -implicitDefEqProofs [go_sem]
  refine ⟨fun hc => ?_, fun hc => ?_⟩
  case refine_1 =>
    have hr : readD d e.start e.count = ([], checkD d) := by rw [readD, if_pos hc]
    rw [hr]
    exact Fin.tup2 (by exact .nil 8 (by decide)) (.refl _) (by simp [go_sem]) (by simp [go_sem]) hokH (by simp) (by simp)
  refine SWp.seq (Wp.s ?_)
  have bad : ∀ {T : Tm} {H' : Hp} {V' : List Nat}, insideB d e.start e.count = false → H'.take H.length = H → V'.take V.length = V → Fin H.length V.length (Pu (.tup [secsV (readD d e.start e.count).1, er (readD d e.start e.count).2]) H V) (.tup [.v (.slice none 0 0), .v (.int .i64 2)]) H' V' := fun hq h1 h2 => by
    have hr : readD d e.start e.count = ([], 2) := by rw [readD, if_neg (by simp [hc]), if_pos hq]
    rw [hr]
    exact Fin.tup2 (by exact .nil 8 (by decide)) (.refl _) (by simp [go_sem]) (by simp [go_sem]) hokH h1 h2
  by_cases i1 : e.start < 0
  · simp -implicitDefEqProofs [go_sem, i1]
    exact bad (T := []) (inside_f (by omega)) (by simp) (by simp)
  by_cases i2 : e.count < 0
  · simp -implicitDefEqProofs [go_sem, i1, i2]
    exact bad (T := []) (inside_f (by omega)) (by simp) (by simp)
  by_cases i3 : (d.stable.length : Int) < e.count
  · simp -implicitDefEqProofs [go_sem, i1, i2, i3]
    exact bad (T := []) (inside_f (by omega)) (by simp) (by simp)
  by_cases i4 : (d.stable.length : Int) - e.count < e.start
  · simp -implicitDefEqProofs [go_sem, i1, i2, i3, i4, IntWalk.i64_in ((d.stable.length : Int) - e.count) ⟨by omega, by omega⟩]
    exact bad (T := []) (inside_f (by omega)) (by simp) (by simp)
  have hq : insideB d e.start e.count = true := by simp only [insideB, Bool.and_eq_true, decide_eq_true_eq]; omega
  have hr : readD d e.start e.count = (((newestD d).drop e.start.toNat).take e.count.toNat, 0) := by rw [readD, if_neg (by simp [hc]), if_neg (by simp [hq])]
  rw [hr]
  simp -implicitDefEqProofs [go_sem, i1, i2, i3, i4, IntWalk.i64_in ((d.stable.length : Int) - e.count) ⟨by omega, by omega⟩]
  refine SWp.seq (SWp.drawnL [0, 2, 3, 4, 5, 6, 7, 8, 1, 9, 10, 11] (by kernel_rfl) (by kernel_rfl) rfl ?_)
  simp -implicitDefEqProofs [go_sem, IntWalk.i64_in (e.start + e.count) ⟨by omega, by omega⟩]
  refine CC.mono (rNewest_cc _ _ d hl hc) ?_
  rintro _ _ _ ⟨rfl, rfl, rfl⟩
  simp -implicitDefEqProofs [go_sem]
  have hn := newestD_len d
  refine ⟨by omega, by omega, by omega, by omega, Wp.s ?_⟩
  simp -implicitDefEqProofs [go_sem]
  refine Fin.tup2 ?_ (.refl _) (okV_secsV _ _ _) (okV_er _ _ _) hokH (by simp) (by simp)
  have e1 : (e.start + e.count).toNat = e.start.toNat + e.count.toNat := by omega
  refine .trans (.sh _ _ _) (.of_eq ?_)
  rw [secsV, e1, List.drop_take, Nat.add_sub_cancel_left, List.map_take, List.map_drop]
end Go.Proofs.YtdiblbjchhjccaaDoor
namespace Go.Proofs.YtdiblbjchhjccaaDoor
open Go.Proofs
theorem CC.le {P : Program} {f : FuncId} {xs ys : List CV} {H : Hp} {V : List Nat} {R : CV → Hp → List Nat → Prop} (h : LeL xs ys) (hc : CC P f ys H V R) : CC P f xs H V R :=
  ⟨hc.1, fun m w us hi hu => hc.2 m w us hi (h.rel hu)⟩
@[go_sem] theorem hbx_sa {H L : Hp} {X : Nat} {c : List CV} (h : X < H.length) (K : List CV → Prop) : hbx (H.set X (some c) ++ L) X K = K c := by
  unfold hbx; rw [List.getElem?_append_left (by simpa using h), List.getElem?_set_self h]
@[go_sem] theorem hbx_s {H : Hp} {X : Nat} {c : List CV} (h : X < H.length) (K : List CV → Prop) : hbx (H.set X (some c)) X K = K c := by
  unfold hbx; rw [List.getElem?_set_self h]
@[go_sem] theorem set_sa {H L : Hp} {X : Nat} {c c' : Option (List CV)} (h : X < H.length) : (H.set X c ++ L).set X c' = H.set X c' ++ L := by
  rw [List.set_append_left _ _ (by simpa using h), List.set_set]
/-- Cached sectors that may be appended to. -/
def Ap (j : Nat) (l : List Cach) (cv : CV) (V : List Nat) : Prop := (cv = .v (.slice none 0 0) ∧ l = []) ∨ ∃ k v, cv = .sl (.own k v) 9 (l.map cachC) ∧ V[k]? = some v ∧ j ≤ k
theorem Ap.le {j : Nat} {l : List Cach} {cv : CV} {V : List Nat} (h : Ap j l cv V) : Le cv (cachV l) := by
  rcases h with ⟨rfl, rfl⟩ | ⟨k, v, rfl, _⟩
  · exact .nil 9 (by decide)
  · exact .sh _ _ _
theorem Ap.one {j : Nat} {l : List Cach} {cv : CV} {V : List Nat} (h : Ap j l cv V) : cv.one = true := by
  rcases h with ⟨rfl, rfl⟩ | ⟨k, v, rfl, _⟩ <;> rfl
theorem Ap.ok {i j : Nat} {l : List Cach} {cv : CV} {V : List Nat} (h : Ap j l cv V) : okV i V.length cv := by
  rcases h with ⟨rfl, rfl⟩ | ⟨k, v, rfl, h, _⟩
  · rw [okV]; trivial
  · rw [okV_own, okE_cach]; exact ⟨(List.getElem?_eq_some_iff.1 h).1, trivial⟩
/-- What is left of an executor's method: box X is the disk. -/
def XR (X j : Nat) (r : CV) (d : Dk) (H : Hp) (V : List Nat) : CV → Hp → List Nat → Prop := fun r' H' V' => r' = r ∧ ∃ cv, H' = H.set X (some [secsV d.stable, cv]) ∧ Ap j d.cache cv V' ∧ V'.take j = V.take j ∧ V.length ≤ V'.length
/-- The elements that are put into the cache. -/
def puts (a : Int) (l : List Sec) : List Cach := l.zipIdx.map fun p => ⟨a + p.2, p.1⟩
theorem puts_len (a : Int) (l : List Sec) : (puts a l).length = l.length := by simp [puts]
theorem puts_succ (a : Int) (l : List Sec) (i : Nat) (h : i < l.length) : puts a (l.take (i + 1)) = puts a (l.take i) ++ [⟨a + i, l[i]⟩] := by
  rw [List.take_succ_eq_append_getElem h, puts, puts, List.zipIdx_append, List.map_append]
  simp [Nat.min_eq_left (Nat.le_of_lt h)]
def wrD (d : Dk) (a : Int) (l : List Sec) : Dk := ⟨d.stable, d.cache ++ puts a l⟩
@[go_sem] theorem hbx_ss {H L : Hp} {X k : Nat} {c : Option (List CV)} (K : List CV → Prop) : hbx (H.set X c ++ L) (H.length + k) K = hbx L k K := by
  unfold hbx; rw [List.getElem?_append_right (by simp)]; simp
@[go_sem] theorem hbx_ss0 {H L : Hp} {X : Nat} {c : Option (List CV)} (K : List CV → Prop) : hbx (H.set X c ++ L) H.length K = hbx L 0 K := hbx_ss (k := 0) K
@[go_sem] theorem set_ss {H L : Hp} {X k : Nat} {c y : Option (List CV)} : (H.set X c ++ L).set (H.length + k) y = H.set X c ++ L.set k y := by
  rw [List.set_append_right _ _ (by simp)]; simp
@[go_sem] theorem set_ss0 {H L : Hp} {X : Nat} {c y : Option (List CV)} : (H.set X c ++ L).set H.length y = H.set X c ++ L.set 0 y := set_ss (k := 0)
theorem write_cc (H : Hp) (V : List Nat) (X j : Nat) (hX : X < H.length) (d : Dk) (o : Opn) (cv : CV) (ha : Ap j d.cache cv V) (hj : j ≤ V.length) (hl : DkS d) (hl2 : d.cache.length + o.data.length ≤ 1000000) (hok0 : ∀ (b : Nat) cs, (H.set X (some [secsV d.stable, cv]))[b]? = some (some cs) → okL H.length V.length cs) :
    CC Tryd.prog 54 [.ptr X 0, .agg (opC o)] (H.set X (some [secsV d.stable, cv])) V (XR X j (er (if insideB d o.pos o.data.length then 0 else 2)) (if insideB d o.pos o.data.length then wrD d o.pos o.data else d) H V) := by
  refine CC.of_swp Tryd.func54 rfl (by kernel_rfl) (by rw [Tryd.ntmps54]; exact len_le _ _ rfl) fun hok hokH => ?_
  clear hok
  have h1 := hl.1
  refine SWp.seq (Wp.s ?_)
  simp -implicitDefEqProofs [go_sem, args0]
  refine SWp.seq (SWp.seq (SWp.drawnL (List.range 11) (by kernel_rfl) (by kernel_rfl) rfl ?_))
  simp -implicitDefEqProofs [go_sem, List.range, List.range.loop, hX]
  refine CC.le (.cons (.agg (.cons (.refl _) (.cons ha.le .nil))) (.cons (.refl _) (.cons (.refl _) .nil))) (CC.mono (inside_cc _ _ d o.pos _ (by omega)) ?_)
  rintro _ _ _ ⟨rfl, rfl, rfl⟩
  simp -implicitDefEqProofs [go_sem]
  refine Wp.s ?_
  have fin : ∀ (e : Nat) (d' : Dk) (cv' : CV) (L : Hp) (V' : List Nat), Ap j d'.cache cv' V' → V'.take j = V.take j → j ≤ V'.length → V.length ≤ V'.length → d'.stable = d.stable →
      Fin H.length V.length (XR X j (er e) d' H V) (er e) (H.set X (some [secsV d.stable, cv']) ++ L) V' := fun e d' cv' L V' h1 h2 h3 h4 h5 => by
    refine Fin.cut (H.length) V'.length ⟨rfl, cv', by rw [h5], h1, h2, h4⟩ (Nat.le_refl _) h4 (by rw [List.take_append_of_le_length (by simp), List.take_of_length_le (by simp)]) (List.take_of_length_le (Nat.le_refl _)) (.refl _) (okV_er _ _ _) ?_
    intro b cs hb
    by_cases hbX : b = X
    · subst hbX
      rw [List.getElem?_set_self hX] at hb
      simp at hb; subst hb
      rw [okL, okL, okL]
      exact ⟨okV_secsV _ _ _, h1.ok, trivial⟩
    · refine okL_mono (Nat.le_refl _) h4 (hok0 b cs ?_)
      rw [List.getElem?_set_ne (fun e => hbX e.symm)] at hb ⊢
      exact hb
  have okX : ∀ (l : List Cach) (cv' : CV) (V' : List Nat), Ap j l cv' V' → V.length ≤ V'.length → ∀ (b : Nat) cs, (H.set X (some [secsV d.stable, cv']) ++ [some (opC o)])[b]? = some (some cs) → okL (H.length + 1) V'.length cs := fun l cv' V' h1 h4 b cs hb => by
    rw [List.getElem?_append] at hb
    split at hb
    · by_cases hbX : b = X
      · subst hbX
        rw [List.getElem?_set_self hX] at hb
        simp at hb; subst hb
        rw [okL, okL, okL]
        exact ⟨okV_secsV _ _ _, h1.ok, trivial⟩
      · refine okL_mono (Nat.le_succ _) h4 (hok0 b cs ?_)
        rw [List.getElem?_set_ne (fun e => hbX e.symm)] at hb ⊢
        exact hb
    · exact okH_get (i := H.length + 1) (j := V'.length) (L := [some (opC o)]) (by rw [okH_some, okL_opC]; exact ⟨trivial, trivial⟩) _ _ hb
  rcases hq : insideB d o.pos o.data.length with - | -
  · simp -implicitDefEqProofs [go_sem, hq]
    exact fin 2 d cv _ V ha rfl hj (Nat.le_refl _) rfl
  simp -implicitDefEqProofs [go_sem, hq]
  have hin : 0 ≤ o.pos ∧ o.pos ≤ (d.stable.length : Int) - o.data.length := by
    simp only [insideB, Bool.and_eq_true, decide_eq_true_eq] at hq; omega
  refine SWp.join (α := CV × List Nat) (fun x => ([], H.set X (some [secsV d.stable, x.1]) ++ [some (opC o)], x.2)) (fun x => Ap j (d.cache ++ puts o.pos o.data) x.1 x.2 ∧ x.2.take j = V.take j ∧ j ≤ x.2.length ∧ V.length ≤ x.2.length) ?_ ?_
  · refine SWp.seq (Wp.s ?_)
    simp -implicitDefEqProofs [go_sem, hX]
    refine SWp.block ?_
    refine SWp.loop (α := Nat × CV × List Nat) (fun x => ([(0, .ptr X 0), (3, .ptr H.length 0), (19, secsV o.data), (20, ci o.data.length), (21, ci x.1)], H.set X (some [secsV d.stable, x.2.1]) ++ [some (opC o)], x.2.2))
      (fun x => x.1 ≤ o.data.length ∧ Ap j (d.cache ++ puts o.pos (o.data.take x.1)) x.2.1 x.2.2 ∧ x.2.2.take j = V.take j ∧ j ≤ x.2.2.length ∧ V.length ≤ x.2.2.length) (fun x => o.data.length - x.1) (0, cv, V) ⟨Nat.zero_le _, by simpa [puts] using ha, rfl, hj, Nat.le_refl _⟩
      (Sh.forget (by simp [go_sem]) rfl rfl) ?_
    rintro ⟨i, cv', V'⟩ ⟨hi, hap, hv1, hv2, hv3⟩
    dsimp only at hi hap hv1 hv2 hv3 ⊢
    refine SWp.seq (Wp.s ?_)
    simp -implicitDefEqProofs [go_sem]
    refine SWp.seq (Wp.s ?_)
    simp -implicitDefEqProofs [go_sem]
    refine ⟨fun h => ?_, fun h => ⟨cv', V', ⟨by rw [List.take_of_length_le h] at hap; exact hap, hv1, hv2, hv3⟩, Sh.forget (by simp [go_sem]) rfl rfl⟩⟩
    refine SWp.seq (SWp.block (SWp.seq (Wp.s ?_)))
    simp -implicitDefEqProofs [go_sem, h, hX]
    have hw : IntKind.i64.wrap (o.pos + (i : Int)) = o.pos + i := IntWalk.i64_in _ ⟨by omega, by omega⟩
    rcases hap with ⟨rfl, he⟩ | ⟨k, v, rfl, hv, hk⟩
    · refine SWp.drawnT [] [17] (.s 0 .pl <| .s 1 .pl <| .s 2 .pl <| .s 3 .pl <| .s 4 .pl <| .s 5 .pl <| .s 6 .pl <| .s 7 .pl <| .s 8 .pl <| .s 9 .pl <| .s 10 .pl <| .s 11 .pl <| .s 12 .pl <| .s 13 .pl <| .s 14 .pl <| .s 15 .pl <| .s 16 .pl <| .s 17 .st <| .n) (by kernel_rfl) (by kernel_rfl) ?_
      simp -implicitDefEqProofs [go_sem, h, hX]
      have he' : d.cache = [] ∧ puts o.pos (o.data.take i) = [] := List.append_eq_nil_iff.1 he
      have hap' : Ap j (d.cache ++ puts o.pos (o.data.take (i + 1))) (.sl (.own V'.length 0) 9 [.v (.int .i64 (o.pos + i)) :: secC o.data[i]]) (V' ++ [0]) :=
        .inr ⟨V'.length, 0, by rw [puts_succ _ _ _ h, he'.1, he'.2]; rfl, by simp, hv2⟩
      refine Wp.s ?_
      simp -implicitDefEqProofs [go_sem, wrap_succ (show i ≤ 1000000000 by omega), hw]
      refine ⟨i + 1, _, _, ⟨by omega, hap', by rw [List.take_append_of_le_length hv2]; exact hv1, by simp; omega, by simp; omega⟩, by omega, Sh.cut (H.length + 1) (V' ++ [0]).length (by simp [go_sem]) (by omega) (by simp; omega) (TOk.all (by simp [go_sem]; omega)) (okX _ _ _ hap' (by simp; omega)) ?_ (List.take_of_length_le (Nat.le_refl _))⟩
      simp [List.take_append]
      exact List.take_of_length_le (by simp)
    · refine SWp.drawnT [] [17] (.s 0 .pl <| .s 1 .pl <| .s 2 .pl <| .s 3 .pl <| .s 4 .pl <| .s 5 .pl <| .s 6 .pl <| .s 7 .pl <| .s 8 .pl <| .s 9 .pl <| .s 10 .pl <| .s 11 .pl <| .s 12 .pl <| .s 13 .pl <| .s 14 .pl <| .s 15 .pl <| .s 16 .pl <| .s 17 .st <| .n) (by kernel_rfl) (by kernel_rfl) ?_
      simp -implicitDefEqProofs [go_sem, h, hX, hv]
      have hkv := (List.getElem?_eq_some_iff.1 hv).1
      have hap' : Ap j (d.cache ++ puts o.pos (o.data.take (i + 1))) (.sl (.own k (v + 1)) 9 (d.cache.map cachC ++ ((puts o.pos (o.data.take i)).map cachC ++ [.v (.int .i64 (o.pos + i)) :: secC o.data[i]]))) (V'.set k (v + 1)) :=
        .inr ⟨k, v + 1, by rw [puts_succ _ _ _ h, List.map_append, List.map_append]; rfl, by rw [List.getElem?_set_self hkv], hk⟩
      refine ⟨by rw [puts_len, List.length_take]; omega, Wp.s ?_⟩
      simp -implicitDefEqProofs [go_sem, wrap_succ (show i ≤ 1000000000 by omega), hw]
      refine ⟨i + 1, _, _, ⟨by omega, hap', by rw [List.take_set_of_le hk]; exact hv1, by simpa using hv2, by simpa using hv3⟩, by omega, Sh.cut (H.length + 1) (V'.set k (v + 1)).length (by simp [go_sem]) (by omega) (by simpa using hv3) (TOk.all (by simp [go_sem]; omega)) (okX _ _ _ hap' (by simpa using hv3)) ?_ (List.take_of_length_le (Nat.le_refl _))⟩
      simp [List.take_append]
      exact List.take_of_length_le (by simp)
  · rintro ⟨cv', V'⟩ ⟨h1, h2, h3, h4⟩
    dsimp only
    refine Wp.s ?_
    simp -implicitDefEqProofs [go_sem]
    exact fin 0 (wrD d o.pos o.data) cv' _ V' h1 h2 h3 h4 rfl
theorem sync_cc (H : Hp) (V : List Nat) (X j : Nat) (hX : X < H.length) (d : Dk) (o : Opn) (cv : CV) (ha : Ap j d.cache cv V) (hj : j ≤ V.length) (hl : DkS d) (hc : checkD d = 0) (hok0 : ∀ (b : Nat) cs, (H.set X (some [secsV d.stable, cv]))[b]? = some (some cs) → okL H.length V.length cs) :
    CC Tryd.prog 55 [.ptr X 0, .agg (opC o)] (H.set X (some [secsV d.stable, cv])) V (XR X j (er 0) ⟨newestD d, []⟩ H V) := by
  refine CC.of_swp Tryd.func55 rfl (by kernel_rfl) (by rw [Tryd.ntmps55]; exact len_le _ _ rfl) fun hok hokH => ?_
  clear hok
  refine SWp.seq (Wp.s ?_)
  simp -implicitDefEqProofs [go_sem, args0]
  refine SWp.seq (Wp.s ?_)
  simp -implicitDefEqProofs [go_sem, hX]
  refine CC.le (.cons (.agg (.cons (.refl _) (.cons ha.le .nil))) .nil) (CC.mono (newest_cc _ _ d hl hc) ?_)
  rintro _ _ _ ⟨rfl, rfl, rfl⟩
  simp -implicitDefEqProofs [go_sem, hX]
  refine Wp.s ?_
  simp -implicitDefEqProofs [go_sem, hX]
  refine Fin.cut H.length V.length ⟨rfl, .v (.slice none 0 0), rfl, .inl ⟨rfl, rfl⟩, rfl, Nat.le_refl _⟩ (Nat.le_refl _) (Nat.le_refl _) (by rw [List.take_append_of_le_length (by simp), List.take_of_length_le (by simp)]) (List.take_of_length_le (Nat.le_refl _)) (.refl _) (okV_er _ _ _) ?_
  intro b cs hb
  by_cases hbX : b = X
  · subst hbX
    rw [List.getElem?_set_self hX] at hb
    simp at hb; subst hb
    rw [okL, okL, okL]
    exact ⟨okV_secsV _ _ _, by rw [okV]; trivial, trivial⟩
  · refine hok0 b cs ?_
    rw [List.getElem?_set_ne (fun e => hbX e.symm)] at hb ⊢
    exact hb
end Go.Proofs.YtdiblbjchhjccaaDoor
namespace Go.Proofs.YtdiblbjchhjccaaDoor
open Go.Proofs
@[go_sem] theorem okV_bm (i j f : Nat) (cs : List CV) : okV i j (.bm f cs) = okL i j cs := by rw [okV]
theorem Kp_ss {S : List Nat} {G : Hp} {X : Nat} {c c' : Option (List CV)} (h : X ∉ S) : Kp S (G.set X c) (G.set X c') := fun b hb cs h2 => by
  have : X ≠ b := fun e => h (e ▸ hb)
  rw [List.getElem?_set_ne this] at h2 ⊢; exact h2
theorem okX_gen {H L : Hp} {X : Nat} {c0 c : List CV} {V V' : List Nat} (hX : X < H.length) (hok0 : ∀ (b : Nat) cs, (H.set X (some c0))[b]? = some (some cs) → okL H.length V.length cs) (h4 : V.length ≤ V'.length)
    (hc : okL (H.length + L.length) V'.length c) (hL : okH (H.length + L.length) V'.length L) : ∀ (b : Nat) cs, (H.set X (some c) ++ L)[b]? = some (some cs) → okL (H.length + L.length) V'.length cs := by
  intro b cs hb
  rw [List.getElem?_append] at hb
  split at hb
  · by_cases hbX : b = X
    · subst hbX
      rw [List.getElem?_set_self hX] at hb
      simp at hb; subst hb
      exact hc
    · refine okL_mono (Nat.le_add_right _ _) h4 (hok0 b cs ?_)
      rw [List.getElem?_set_ne (fun e => hbX e.symm)] at hb ⊢
      exact hb
  · exact okH_get hL _ _ hb
theorem checkD_iff {d : Dk} : checkD d = 0 ↔ d.stable.length ≤ 4096 ∧ ∀ c ∈ d.cache, 0 ≤ c.pos ∧ c.pos.toNat < d.stable.length := by
  refine ⟨checkD_0, fun ⟨h1, h2⟩ => ?_⟩
  rw [checkD, if_neg]
  rintro (h | h)
  · omega
  · obtain ⟨c, hc, hb⟩ := List.any_eq_true.1 h
    have := h2 c hc
    simp only [badAt, Bool.or_eq_true, decide_eq_true_eq] at hb
    omega
theorem check_wr {d : Dk} {a : Int} {l : List Sec} (h : checkD d = 0) (hi : insideB d a l.length = true) : checkD (wrD d a l) = 0 := by
  simp only [insideB, Bool.and_eq_true, decide_eq_true_eq] at hi
  rw [checkD_iff] at h ⊢
  refine ⟨h.1, fun c hc => ?_⟩
  rcases List.mem_append.1 hc with hc | hc
  · exact h.2 c hc
  · simp only [puts, List.mem_map] at hc
    obtain ⟨⟨s, k⟩, hk, rfl⟩ := hc
    have := (List.mem_zipIdx hk).2.1
    simp only [wrD]
    omega
theorem check_sy {d : Dk} (h : checkD d = 0) : checkD ⟨newestD d, []⟩ = 0 := by
  rw [checkD_iff] at h ⊢
  exact ⟨by simp only [newestD_len]; exact h.1, by simp⟩
theorem copied_cc (H : Hp) (V : List Nat) (d : Dk) (hl : DkS d) : CC Tryd.prog 38 [.agg (dkC d)] H V (fun r H' V' => ∃ cv, r = .agg [secsV d.stable, cv] ∧ Ap V.length d.cache cv V' ∧ H = H' ∧ V'.take V.length = V ∧ V.length ≤ V'.length) := by
  refine CC.of_swp Tryd.func38 rfl (by kernel_rfl) (by rw [Tryd.ntmps38]; exact len_le _ _ rfl) fun hok hokH => ?_
  clear hok
  have h1 := hl.1
  have h2 := hl.2
  refine SWp.seq (Wp.s ?_)
  simp -implicitDefEqProofs [go_sem, args0]
  refine SWp.seq (SWp.drawnT [] [7] (.s 0 .pl <| .s 1 .pl <| .s 3 .pl <| .s 4 .pl <| .s 2 .pl <| .s 5 .pl <| .s 6 .pl <| .s 7 .st <| .n) (by kernel_rfl) (by kernel_rfl) ?_)
  simp -implicitDefEqProofs [go_sem]
  refine CC.mono (cloneS_cc _ _ .sh _ (by omega)) ?_
  rintro _ _ _ ⟨v, rfl, rfl, rfl⟩
  simp -implicitDefEqProofs [go_sem]
  refine CC.mono (cloneC_cc _ _ .sh _ (by omega)) ?_
  rintro _ _ _ ⟨v2, rfl, rfl, rfl⟩
  simp -implicitDefEqProofs [go_sem]
  refine Wp.s ?_
  simp -implicitDefEqProofs [go_sem]
  refine Fin.cut H.length (V.length + 2) (H'' := H) (r' := .agg [secsV d.stable, .sl (.own (V.length + 1) v2) 9 (d.cache.map cachC)]) (V'' := V ++ [v, v2]) ⟨_, rfl, .inr ⟨V.length + 1, v2, rfl, by simp, by omega⟩, rfl, by simp, by simp⟩ (Nat.le_refl _) (by omega) (by simp) (by simp) (.agg (.cons (.sh _ _ _) (.cons (.refl _) .nil))) ?_ fun b cs hb => okL_mono (Nat.le_refl _) (by omega) (hokH b cs hb)
  rw [okV_agg, okL, okL, okL, okV_own, okE_cach]
  exact ⟨okV_secsV _ _ _, ⟨by omega, trivial⟩, trivial⟩
/-- How many sectors the operations write. -/
def tot (ops : List Opn) : Nat := (ops.map fun o => o.data.length).sum
theorem tot_drop {ops : List Opn} {i : Nat} (h : i < ops.length) : tot (ops.drop i) = ops[i].data.length + tot (ops.drop (i + 1)) := by
  rw [List.drop_eq_getElem_cons h, tot, List.map_cons, List.sum_cons]; rfl
theorem run_cc (H : Hp) (V : List Nat) (X j : Nat) (hX : X < H.length) (d : Dk) (ops : List Opn) (cv : CV) (ha : Ap j d.cache cv V) (hj : j ≤ V.length) (hl : d.stable.length ≤ 1000000) (hl2 : d.cache.length + tot ops ≤ 1000000) (hl3 : ops.length ≤ 1000000) (hc : checkD d = 0)
    (hok0 : ∀ (b : Nat) cs, (H.set X (some [secsV d.stable, cv]))[b]? = some (some cs) → okL H.length V.length cs) :
    CC Tryd.prog 39 [.ptr X 0, opsV ops] (H.set X (some [secsV d.stable, cv])) V (fun r H' V' => match runD d ops 0 with | .ok (d', n) => XR X j (.tup [ci n, er 0]) d' H V r H' V' | .error (i, e) => ∃ d', XR X j (.tup [ci i, er e]) d' H V r H' V') := by
  refine CC.of_swp Tryd.func39 rfl (by kernel_rfl) (by rw [Tryd.ntmps39]; exact len_le _ _ rfl) fun hok hokH => ?_
  clear hok hokH
  refine SWp.seq (Wp.s ?_)
  simp -implicitDefEqProofs [go_sem, args0]
  refine SWp.seq (Wp.s ?_)
  simp -implicitDefEqProofs [go_sem, hX]
  have fin : ∀ (r : CV) (d' : Dk) (cv' : CV) (L : Hp) (V' : List Nat), okV H.length V'.length r → Ap j d'.cache cv' V' → V'.take j = V.take j → j ≤ V'.length → V.length ≤ V'.length →
      ∀ R : CV → Hp → List Nat → Prop, (∀ H' V', XR X j r d' H V r H' V' → R r H' V') → Fin H.length V.length R r (H.set X (some [secsV d'.stable, cv']) ++ L) V' := fun r d' cv' L V' hr h1 h2 h3 h4 R hR => by
    refine Fin.cut (H.length) V'.length (hR _ _ ⟨rfl, cv', rfl, h1, h2, h4⟩) (Nat.le_refl _) h4 (by rw [List.take_append_of_le_length (by simp), List.take_of_length_le (by simp)]) (List.take_of_length_le (Nat.le_refl _)) (.refl _) hr ?_
    have := okX_gen (L := []) (c := [secsV d'.stable, cv']) hX hok0 h4 (by rw [okL, okL, okL]; exact ⟨okV_secsV _ _ _, h1.ok, trivial⟩) (by trivial)
    simpa using this
  refine SWp.join (α := Dk × CV × List Nat) (fun x => ([(1, opsV ops)], H.set X (some [secsV x.1.stable, x.2.1]) ++ [some [.bm 54 [.ptr X 0], .bm 55 [.ptr X 0]]], x.2.2))
    (fun x => Ap j x.1.cache x.2.1 x.2.2 ∧ x.2.2.take j = V.take j ∧ j ≤ x.2.2.length ∧ V.length ≤ x.2.2.length ∧ runD d ops 0 = .ok (x.1, ops.length)) ?_ ?_
  · refine SWp.seq (Wp.s ?_)
    simp -implicitDefEqProofs [go_sem]
    refine SWp.block ?_
    refine SWp.loop (α := Nat × Dk × CV × List Nat) (fun x => ([(1, opsV ops), (6, .ptr H.length 0), (15, opsV ops), (16, ci ops.length), (17, ci x.1)], H.set X (some [secsV x.2.1.stable, x.2.2.1]) ++ [some [.bm 54 [.ptr X 0], .bm 55 [.ptr X 0]]], x.2.2.2))
      (fun x => x.1 ≤ ops.length ∧ Ap j x.2.1.cache x.2.2.1 x.2.2.2 ∧ x.2.2.2.take j = V.take j ∧ j ≤ x.2.2.2.length ∧ V.length ≤ x.2.2.2.length ∧ runD d ops 0 = runD x.2.1 (ops.drop x.1) x.1 ∧ x.2.1.stable.length = d.stable.length ∧ x.2.1.cache.length + tot (ops.drop x.1) ≤ 1000000 ∧ checkD x.2.1 = 0)
      (fun x => ops.length - x.1) (0, d, cv, V) ⟨Nat.zero_le _, ha, rfl, hj, Nat.le_refl _, rfl, rfl, hl2, hc⟩ (Sh.forget (by simp [go_sem]) rfl rfl) ?_
    rintro ⟨i, d1, cv1, V1⟩ ⟨hi, hap, hv1, hv2, hv3, hr, hs, ht, hc1⟩
    dsimp only at hi hap hv1 hv2 hv3 hr hs ht hc1 ⊢
    refine SWp.seq (Wp.s ?_)
    simp -implicitDefEqProofs [go_sem]
    refine SWp.seq (Wp.s ?_)
    simp -implicitDefEqProofs [go_sem]
    refine ⟨fun h => ?_, fun h => ⟨d1, cv1, V1, ⟨hap, hv1, hv2, hv3, by rw [hr, List.drop_of_length_le h, runD, show i = ops.length by omega]⟩, Sh.forget (by simp [go_sem]) rfl rfl⟩⟩
    rw [tot_drop h] at ht
    rw [List.drop_eq_getElem_cons h] at hr
    refine SWp.seq (SWp.block (SWp.seq (Wp.s ?_)))
    simp -implicitDefEqProofs [go_sem, h]
    generalize ho : ops[i] = o at ht hr ⊢
    have fine : ∀ (e : Nat) (d2 : Dk) (cv2 : CV) (L : Hp) (V2 : List Nat), Ap j d2.cache cv2 V2 → V2.take j = V.take j → j ≤ V2.length → V.length ≤ V2.length → runD d ops 0 = .error (i, e) →
        Fin H.length V.length (fun r H' V' => match runD d ops 0 with | .ok (d', n) => XR X j (.tup [ci n, er 0]) d' H V r H' V' | .error (i, e) => ∃ d', XR X j (.tup [ci i, er e]) d' H V r H' V') (.tup [ci i, er e]) (H.set X (some [secsV d2.stable, cv2]) ++ L) V2 := fun e d2 cv2 L V2 q1 q2 q3 q4 q5 =>
      fin _ d2 cv2 L V2 (by rw [okV]; simp [go_sem]) q1 q2 q3 q4 _ fun H' V' hx => by rw [q5]; exact ⟨d2, hx⟩
    refine SWp.seq (Wp.s ?_)
    by_cases k1 : o.kind < 0
    · simp -implicitDefEqProofs [go_sem, k1]
      exact fine 1 d1 cv1 _ V1 hap hv1 hv2 hv3 (by rw [hr, runD, stepD, if_pos (.inl k1)])
    by_cases k2 : 2 ≤ o.kind
    · simp -implicitDefEqProofs [go_sem, k1, k2]
      exact fine 1 d1 cv1 _ V1 hap hv1 hv2 hv3 (by rw [hr, runD, stepD, if_pos (.inr k2)])
    have hok1 := okX_gen (L := [some [.bm 54 [.ptr X 0], .bm 55 [.ptr X 0]], some (opC o)]) (c := [secsV d1.stable, cv1]) hX hok0 hv3 (by rw [okL, okL, okL]; exact ⟨okV_secsV _ _ _, hap.ok, trivial⟩) (by simp [go_sem]; omega)
    rw [← List.set_append_left _ _ hX, ← List.length_append] at hok1
    have next : ∀ (d2 : Dk) (cv2 : CV) (V2 : List Nat) (T : Tm), Ap j d2.cache cv2 V2 → V2.take j = V1.take j → j ≤ V2.length → V1.length ≤ V2.length → stepD d1 o = .ok d2 → d2.stable.length = d1.stable.length → d2.cache.length + tot (ops.drop (i + 1)) ≤ 1000000 → checkD d2 = 0 →
        TLe T [(1, opsV ops), (6, .ptr H.length 0), (15, opsV ops), (16, ci ops.length), (17, ci (i + 1 : Nat))] →
        ∃ a b c e, (a ≤ ops.length ∧ Ap j (Dk.cache b) c e ∧ e.take j = V.take j ∧ j ≤ e.length ∧ V.length ≤ e.length ∧ runD d ops 0 = runD b (ops.drop a) a ∧ b.stable.length = d.stable.length ∧ b.cache.length + tot (ops.drop a) ≤ 1000000 ∧ checkD b = 0) ∧ ops.length - a < ops.length - i ∧
          Sh 44 H.length V.length T ((H ++ [some [.bm 54 [.ptr X 0], .bm 55 [.ptr X 0]], some (opC o)]).set X (some [secsV d2.stable, cv2])) V2 ([(1, opsV ops), (6, .ptr H.length 0), (15, opsV ops), (16, ci ops.length), (17, ci a)], H.set X (some [secsV b.stable, c]) ++ [some [.bm 54 [.ptr X 0], .bm 55 [.ptr X 0]]], e) :=
      fun d2 cv2 V2 T q1 q2 q3 q4 q5 q6 q7 q8 q9 => by
        refine ⟨i + 1, d2, cv2, V2, ⟨by omega, q1, by rw [q2, hv1], q3, by omega, by rw [hr, runD, q5], by omega, q7, q8⟩, by omega, ?_⟩
        rw [List.set_append_left _ _ hX]
        refine Sh.cut (H.length + 1) V2.length q9 (by omega) (by omega) (TOk.all (by simp [go_sem])) (okX_gen (L := [some [.bm 54 [.ptr X 0], .bm 55 [.ptr X 0]]]) (c := [secsV d2.stable, cv2]) hX hok0 (by omega) (by rw [okL, okL, okL]; exact ⟨okV_secsV _ _ _, q1.ok, trivial⟩) (by simp [go_sem]; omega)) ?_ (List.take_of_length_le (Nat.le_refl _))
        rw [List.take_append, List.take_of_length_le (by simp)]
        simp
    simp -implicitDefEqProofs [go_sem, k1, k2]
    refine SWp.seq (SWp.drawnT [H.length, H.length + 1] [5] (.s 0 .pl <| .s 1 .ld <| .s 2 .pl <| .s 3 .ld <| .s 4 .ld <| .s 5 .st <| .s 6 .pl <| .n) (by kernel_rfl) (by kernel_rfl) ?_)
    have hk : o.kind = 0 ∨ o.kind = 1 := by omega
    rcases hk with hk | hk
    · simp -implicitDefEqProofs [go_sem, hk]
      rw [← List.set_append_left _ _ hX]
      refine CC.mono (write_cc _ _ X j (by rw [List.length_append]; omega) d1 o cv1 hap hv2 ⟨by omega, by omega⟩ (by omega) hok1) ?_
      rintro r2 H2 V2 ⟨rfl, cv2, rfl, x1, x2, x3⟩
      rcases hq : insideB d1 o.pos o.data.length with - | -
      · rw [hq] at x1
        simp -implicitDefEqProofs [go_sem, hq]
        refine ⟨Kp_ss (by simp; omega), ?_⟩
        rw [List.set_append_left _ _ hX]
        refine Wp.s ?_
        simp -implicitDefEqProofs [go_sem]
        exact fine 2 d1 cv2 _ V2 x1 (by rw [x2, hv1]) (by omega) (by omega) (by rw [hr, runD, stepD, if_neg (by omega), if_pos hk, writeD, if_neg (by simp [hq])])
      · rw [hq] at x1
        simp -implicitDefEqProofs [go_sem, hq]
        refine ⟨Kp_ss (by simp; omega), ?_⟩
        refine Wp.s ?_
        simp -implicitDefEqProofs [go_sem]
        refine Wp.s ?_
        simp -implicitDefEqProofs [go_sem, wrap_succ (show i ≤ 1000000000 by omega)]
        refine next (wrD d1 o.pos o.data) cv2 V2 _ x1 x2 (by omega) x3 (by rw [stepD, if_neg (by omega), if_pos hk, writeD, if_pos hq]; rfl) rfl (by simp only [wrD, List.length_append, puts_len]; omega) (check_wr hc1 hq) (by simp [go_sem])
    · simp -implicitDefEqProofs [go_sem, hk]
      rw [← List.set_append_left _ _ hX]
      refine CC.mono (sync_cc _ _ X j (by rw [List.length_append]; omega) d1 o cv1 hap hv2 ⟨by omega, by omega⟩ hc1 hok1) ?_
      rintro r2 H2 V2 ⟨rfl, cv2, rfl, x1, x2, x3⟩
      simp -implicitDefEqProofs [go_sem]
      refine ⟨Kp_ss (by simp; omega), ?_⟩
      refine Wp.s ?_
      simp -implicitDefEqProofs [go_sem]
      refine Wp.s ?_
      simp -implicitDefEqProofs [go_sem, wrap_succ (show i ≤ 1000000000 by omega)]
      refine next ⟨newestD d1, []⟩ cv2 V2 _ x1 x2 (by omega) x3 (by rw [stepD, if_neg (by omega), if_neg (by omega)]) (newestD_len _) (by simp only [List.length_nil]; omega) (check_sy hc1) (by simp [go_sem])
  · rintro ⟨d1, cv1, V1⟩ ⟨h1, h2, h3, h4, h5⟩
    dsimp only
    refine Wp.s ?_
    simp -implicitDefEqProofs [go_sem]
    refine fin (.tup [ci ops.length, er 0]) d1 cv1 _ V1 (by rw [okV]; simp [go_sem]) h1 h2 h3 h4 _ fun H' V' hx => ?_
    rw [h5]; exact hx
end Go.Proofs.YtdiblbjchhjccaaDoor
namespace Go.Proofs.YtdiblbjchhjccaaDoor
open Go.Proofs
abbrev dk0 : Dk := ⟨[], []⟩
def runR (d : Dk) (ops : List Opn) : Dk × Nat × Nat :=
  if checkD d ≠ 0 then (dk0, 0, checkD d) else match runD d ops 0 with | .ok (d', n) => (d', n, 0) | .error (i, e) => (dk0, i, e)
def runV (x : Dk × Nat × Nat) : CV := .tup [.agg (dkC x.1), ci x.2.1, er x.2.2]
theorem okV_runV (i j : Nat) (x : Dk × Nat × Nat) : okV i j (runV x) := by rw [runV, okV]; simp [go_sem]
theorem runD_err : ∀ (ops : List Opn) (d : Dk) (i : Nat) (k e : Nat), runD d ops i = .error (k, e) → e ≠ 0
  | [], d, i, k, e, h => by cases h
  | o :: ops, d, i, k, e, h => by
    rw [runD] at h
    split at h
    · exact runD_err ops _ _ _ _ h
    · rename_i e' he
      injection h with h; injection h with h1 h2; subst h2
      unfold stepD writeD at he
      split at he
      · injection he with he; omega
      · split at he
        · split at he
          · cases he
          · injection he with he; omega
        · cases he
theorem Run_cc (H : Hp) (V : List Nat) (d : Dk) (ops : List Opn) (hl : d.stable.length ≤ 1000000) (hl2 : d.cache.length + tot ops ≤ 1000000) (hl3 : ops.length ≤ 1000000) : CC Tryd.prog 25 [.agg (dkC d), opsV ops] H V (Pu (runV (runR d ops)) H V) := by
  refine CC.of_swp Tryd.func25 rfl (by kernel_rfl) (by rw [Tryd.ntmps25]; exact len_le _ _ rfl) fun hok hokH => ?_
  clear hok
  have hd : DkS d := ⟨hl, by omega⟩
  refine SWp.seq (Wp.s ?_)
  simp -implicitDefEqProofs [go_sem, args0]
  refine SWp.seq (Wp.s ?_)
  simp -implicitDefEqProofs [go_sem]
  refine CC.mono (Check_cc _ _ d hd) ?_
  rintro _ _ _ ⟨rfl, rfl, rfl⟩
  simp -implicitDefEqProofs [go_sem]
  have bad : ∀ (i e : Nat) {H' : Hp} {V' : List Nat}, runR d ops = (dk0, i, e) → H'.take H.length = H → V'.take V.length = V → Fin H.length V.length (Pu (runV (runR d ops)) H V) (.tup [.agg [.v (.slice none 0 0), .v (.slice none 0 0)], ci i, er e]) H' V' := fun i e H' V' h1 h2 h3 => by
    rw [h1]
    exact Fin.pu (.tup (.cons (.agg (.cons (.nil 8 (by decide)) (.cons (.nil 9 (by decide)) .nil))) (.cons (.refl _) (.cons (.refl _) .nil)))) (okV_runV _ _ _) hokH h2 h3
  refine ⟨fun hc => ?_, fun hc => ?_⟩
  case refine_1 => exact bad 0 (checkD d) (by rw [runR, if_pos hc]) (by simp) (by simp)
  refine SWp.seq (Wp.s ?_)
  simp -implicitDefEqProofs [go_sem]
  refine CC.mono (copied_cc _ _ d hd) ?_
  rintro _ _ V1 ⟨cv, rfl, ha, rfl, hv1, hv2⟩
  simp -implicitDefEqProofs [go_sem, ha.one]
  refine SWp.seq (Wp.s ?_)
  simp -implicitDefEqProofs [go_sem, ha.one]
  have hset : ∀ c c' : List CV, (H ++ [some (dkC d), some [.v (.slice none 0 0), .v (.slice none 0 0)], some c]).set (H.length + 2) (some c') = H ++ [some (dkC d), some [.v (.slice none 0 0), .v (.slice none 0 0)], some c'] := fun c c' => by
    rw [List.set_append_right _ _ (by omega)]; simp
  rw [← hset [secsV d.stable, cv] [secsV d.stable, cv]]
  have hok0 : ∀ (b : Nat) cs, ((H ++ [some (dkC d), some [.v (.slice none 0 0), .v (.slice none 0 0)], some [secsV d.stable, cv]]).set (H.length + 2) (some [secsV d.stable, cv]))[b]? = some (some cs) → okL (H ++ [some (dkC d), some [.v (.slice none 0 0), .v (.slice none 0 0)], some [secsV d.stable, cv]]).length V1.length cs := by
    intro b cs hb
    rw [hset, List.getElem?_append] at hb
    rw [List.length_append]
    split at hb
    · exact okL_mono (Nat.le_add_right _ _) hv2 (hokH b cs hb)
    · refine okH_get (i := H.length + 3) (j := V1.length) (L := [some (dkC d), some [.v (.slice none 0 0), .v (.slice none 0 0)], some [secsV d.stable, cv]]) ?_ _ _ hb
      rw [okH_some, okH_some, okH_some, okL_dkC]
      refine ⟨trivial, by simp [go_sem], ?_, trivial⟩
      rw [okL, okL, okL]
      exact ⟨okV_secsV _ _ _, ha.ok, trivial⟩
  refine CC.mono (run_cc _ V1 (H.length + 2) V.length (by simp) d ops cv ha hv2 hl hl2 hl3 hc hok0) ?_
  intro r H' V' hx
  rcases hr : runD d ops 0 with ⟨i, e⟩ | ⟨d', n⟩
  · rw [hr] at hx
    obtain ⟨d', rfl, cv', rfl, x1, x2, x3⟩ := hx
    rw [hset]
    have he := runD_err _ _ _ _ _ hr
    simp -implicitDefEqProofs [go_sem]
    refine Wp.s ?_
    simp -implicitDefEqProofs [go_sem, he]
    exact bad i e (by rw [runR, if_neg (by simp [hc]), hr]) (by simp) (by rw [← hv1, ← x2]; simp)
  · rw [hr] at hx
    obtain ⟨rfl, cv', rfl, x1, x2, x3⟩ := hx
    rw [hset]
    simp -implicitDefEqProofs [go_sem]
    refine Wp.s ?_
    simp -implicitDefEqProofs [go_sem]
    refine ⟨x1.one, ?_⟩
    refine Fin.pu ?_ (okV_runV _ _ _) hokH (by simp) (by rw [x2, hv1])
    rw [runR, if_neg (by simp [hc]), hr]
    exact .tup (.cons (.agg (.cons (.refl _) (.cons x1.le .nil))) (.cons (.refl _) (.cons (.refl _) .nil)))
/-- What is handed back holds a box, which is fixed. -/
theorem Fin.frozG {nb nv : Nat} {R : CV → Hp → List Nat → Prop} {r r1 r2 : CV} {H H' : Hp} {V V' : List Nat} {b : Nat} {cs : List CV} (hR : R r2 H V) (hle : Le r r1) (hb : H'[b]? = some (some cs)) (hz : Fz b cs r1 r2)
    (hb0 : nb ≤ b) (hok : okV nb nv r2) (hokH : ∀ (b : Nat) cs, H[b]? = some (some cs) → okL nb nv cs) (hH : H'.take nb = H) (hV : V'.take nv = V) : Fin nb nv R r H' V' := by
  refine ⟨_, H, V, ?_, hR⟩
  refine Gst.trans (T' := [(0, r1)]) (H' := H') (V' := V') (Gst.forget fun p hp => ?_) ?_
  · simp at hp; subst hp; exact hle
  refine Gst.trans (T' := [(0, r2)]) (H' := H'.set b none) (V' := V') (Gst.freeze hb fun p hp => ?_) ?_
  · simp at hp; subst hp; exact hz
  · have hH' : (H'.set b none).take nb = H := by rw [List.take_set_of_le hb0]; exact hH
    have := Gst.cut (n := 1) (nb := nb) (nv := nv) (T := [(0, r2)]) (H := H'.set b none) (V := V') nb nv (Nat.le_refl _) (Nat.le_refl _) (fun p hp => by simp at hp; subst hp; exact hok) (by rw [hH']; exact hokH)
    rwa [hH', hV] at this
def newR (n : Int) : Dk × Nat := if n < 0 ∨ 4096 < n then (dk0, 2) else (⟨List.replicate n.toNat sec0, []⟩, 0)
theorem New_cc (H : Hp) (V : List Nat) (n : Int) : CC Tryd.prog 24 [ci n] H V (Pu (.tup [.agg (dkC (newR n).1), er (newR n).2]) H V) := by
  refine CC.of_swp Tryd.func24 rfl (by kernel_rfl) (by rw [Tryd.ntmps24]; exact len_le _ _ rfl) fun hok hokH => ?_
  clear hok
  have bad : ∀ {H' : Hp} {V' : List Nat}, newR n = (dk0, 2) → H'.take H.length = H → V'.take V.length = V → Fin H.length V.length (Pu (.tup [.agg (dkC (newR n).1), er (newR n).2]) H V) (.tup [.agg [.v (.slice none 0 0), .v (.slice none 0 0)], .v (.int .i64 2)]) H' V' := fun h1 h2 h3 => by
    rw [h1]
    exact Fin.pu (.tup (.cons (.agg (.cons (.nil 8 (by decide)) (.cons (.nil 9 (by decide)) .nil))) (.cons (.refl _) .nil))) (by rw [okV]; simp [go_sem]) hokH h2 h3
  refine SWp.seq (Wp.s ?_)
  simp -implicitDefEqProofs [go_sem, args0]
  refine SWp.seq (Wp.s ?_)
  by_cases h1 : n < 0
  · simp -implicitDefEqProofs [go_sem, h1]
    exact bad (by rw [newR, if_pos (.inl h1)]) (by simp) (by simp)
  by_cases h2 : 4096 < n
  · simp -implicitDefEqProofs [go_sem, h1, h2]
    exact bad (by rw [newR, if_pos (.inr h2)]) (by simp) (by simp)
  simp -implicitDefEqProofs [go_sem, h1, h2]
  refine Wp.s ?_
  simp -implicitDefEqProofs [go_sem]
  have hn : newR n = (⟨List.replicate n.toNat sec0, []⟩, 0) := by rw [newR, if_neg (by omega)]
  have hz : (List.replicate n.toNat [CV.v (.int .u8 0), CV.v (.int .u8 0), CV.v (.int .u8 0), CV.v (.int .u8 0), CV.v (.int .u8 0), CV.v (.int .u8 0), CV.v (.int .u8 0), CV.v (.int .u8 0)]).flatten = secsF (List.replicate n.toNat sec0) := zeros_secs n.toNat
  have hch : chunks 8 n.toNat ((secsF (List.replicate n.toNat sec0)).drop 0) = (List.replicate n.toNat sec0).map secC := by
    have := chunks_secs (List.replicate n.toNat sec0)
    rwa [List.length_replicate] at this
  refine ⟨by omega, by omega, ?_⟩
  rw [hz, hn]
  refine Fin.frozG (b := H.length + 1) (cs := secsF (List.replicate n.toNat sec0)) (r1 := .tup [.agg [.bsl (H.length + 1) 0 n.toNat 8, cachV []], er 0]) ⟨rfl, rfl, rfl⟩ (.tup (.cons (.agg (.cons (.refl _) (.cons (.nil 9 (by decide)) .nil))) (.cons (.refl _) .nil))) (by simp)
    (.tup (.cons (.agg (.cons ?_ (.cons (.refl _) .nil))) (.cons (.refl _) .nil))) (by omega) (by rw [okV]; simp [go_sem]) hokH (by simp) (by simp)
  show Fz _ _ _ (.sl .sh 8 ((List.replicate n.toNat sec0).map secC))
  rw [← hch]
  exact .bsl _ _ _ (by simp; omega)
end Go.Proofs.YtdiblbjchhjccaaDoor
