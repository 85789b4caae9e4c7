import Derived.Test.YtffjhibomipemaaR1
namespace Go.Proofs.Ytffjhibomipemaa
open Go.Proofs
/-- A cursor's call: the value and no error, and the rest left behind; or an error, and whatever is left. -/
def Rd {α : Type} (b : Nat) (tk : Tk) (val : α → CV) (Z : CV → Prop) (x : Except Nat (α × List UInt8)) (H : Hp) (V : List Nat) : CV → Hp → List Nat → Prop := fun r H' V' =>
  match x with
  | .ok (a, s) => r = .tup [val a, er 0] ∧ H.set b (some [.sl tk 1 (bs s)]) = H' ∧ V = V'
  | .error e => ∃ z s, Z z ∧ r = .tup [z, er e] ∧ H.set b (some [.sl tk 1 (bs s)]) = H' ∧ V = V'
/-- A cursor's call that gives two numbers. -/
def Rd3 (b : Nat) (tk : Tk) (x : Except Nat ((Nat × Nat) × List UInt8)) (H : Hp) (V : List Nat) : CV → Hp → List Nat → Prop := fun r H' V' =>
  match x with
  | .ok ((m, n), s) => r = .tup [ci m, ci n, er 0] ∧ H.set b (some [.sl tk 1 (bs s)]) = H' ∧ V = V'
  | .error e => ∃ (m n : Int) (s : List UInt8), r = .tup [ci m, ci n, er e] ∧ H.set b (some [.sl tk 1 (bs s)]) = H' ∧ V = V'
section
variable {H : Hp} {V : List Nat} {b : Nat} {tk : Tk} {α : Type} {val : α → CV} {Z : CV → Prop}
theorem Fin.rdOk {z c : CV} {x : Except Nat (α × List UInt8)} {a : α} {s : List UInt8} (hx : x = .ok (a, s)) (hz : okV H.length V.length (val a)) (h1 : Le z (val a)) (h2 : c = er 0) (ht : okTk V.length tk) (hokH : ∀ (b : Nat) cs, H[b]? = some (some cs) → okL H.length V.length cs) {H' : Hp} {V' : List Nat} (hH : H'.take H.length = H.set b (some [.sl tk 1 (bs s)])) (hV : V'.take V.length = V) :
    Fin H.length V.length (Rd b tk val Z x H V) (.tup [z, c]) H' V' := by
  subst hx h2
  exact Fin.pure (r' := .tup [val a, er 0]) (by exact ⟨rfl, rfl, rfl⟩) hH hV (.tup (.cons h1 (.cons (.refl _) .nil))) (by simp [go_sem, hz]) (ok_set (by simp [go_sem, okV_slt, ht]) hokH)
theorem Fin.rd3Ok {m n c : CV} {x : Except Nat ((Nat × Nat) × List UInt8)} {a a' : Nat} {s : List UInt8} (hx : x = .ok ((a, a'), s)) (h0 : m = ci a) (h1 : n = ci a') (h2 : c = er 0) (ht : okTk V.length tk) (hokH : ∀ (b : Nat) cs, H[b]? = some (some cs) → okL H.length V.length cs) {H' : Hp} {V' : List Nat} (hH : H'.take H.length = H.set b (some [.sl tk 1 (bs s)])) (hV : V'.take V.length = V) :
    Fin H.length V.length (Rd3 b tk x H V) (.tup [m, n, c]) H' V' := by
  subst hx h0 h1 h2
  exact Fin.pure (by exact ⟨rfl, rfl, rfl⟩) hH hV (.refl _) (by simp [go_sem]) (ok_set (by simp [go_sem, okV_slt, ht]) hokH)
theorem Fin.rd3Err {c : CV} {m n : Int} {x : Except Nat ((Nat × Nat) × List UInt8)} {e : Nat} {s : List UInt8} (hx : x = .error e) (h2 : c = er e) (ht : okTk V.length tk) (hokH : ∀ (b : Nat) cs, H[b]? = some (some cs) → okL H.length V.length cs) {H' : Hp} {V' : List Nat} (hH : H'.take H.length = H.set b (some [.sl tk 1 (bs s)])) (hV : V'.take V.length = V) :
    Fin H.length V.length (Rd3 b tk x H V) (.tup [ci m, ci n, c]) H' V' := by
  subst hx h2
  exact Fin.pure (by exact ⟨m, n, s, rfl, rfl, rfl⟩) hH hV (.refl _) (by simp [go_sem]) (ok_set (by simp [go_sem, okV_slt, ht]) hokH)
theorem Fin.rdErr {z z' c : CV} {x : Except Nat (α × List UInt8)} {e : Nat} {s : List UInt8} (hx : x = .error e) (hZ : Z z') (hz : okV H.length V.length z') (h1 : Le z z') (h2 : c = er e) (ht : okTk V.length tk) (hokH : ∀ (b : Nat) cs, H[b]? = some (some cs) → okL H.length V.length cs) {H' : Hp} {V' : List Nat} (hH : H'.take H.length = H.set b (some [.sl tk 1 (bs s)])) (hV : V'.take V.length = V) :
    Fin H.length V.length (Rd b tk val Z x H V) (.tup [z, c]) H' V' := by
  subst hx h2
  exact Fin.pure (r' := .tup [z', er e]) (by exact ⟨z', s, hZ, rfl, rfl, rfl⟩) hH hV (.tup (.cons h1 (.cons (.refl _) .nil))) (by simp [go_sem, hz]) (ok_set (by simp [go_sem, okV_slt, ht]) hokH)
end
section
variable {H L : Hp} {b k : Nat} {c d : Option (List CV)} {cs : List CV} {K : List CV → Prop}
theorem hbx_set (h : b < H.length) : hbx (H.set b (some cs)) b K = K cs := hbx_some (by rw [List.getElem?_set_self h]) K
theorem hbx_left (h : b < H.length) : hbx (H ++ L) b K = hbx H b K := by simp only [hbx, List.getElem?_append_left h]
@[go_sem] theorem hbx_at (h : k = H.length) : hbx (H ++ some cs :: L) k K = K cs := by subst h; exact hbx_new H cs L K
@[go_sem] theorem set_at (h : k = H.length) : (H ++ c :: L).set k d = H ++ d :: L := by
  subst h; rw [List.set_append_right _ _ (Nat.le_refl _), Nat.sub_self]; rfl
theorem set_left (h : b < H.length) : (H ++ L).set b d = H.set b d ++ L := List.set_append_left _ _ h
theorem take_set : (H.set b d).take H.length = H.set b d := List.take_of_length_le (by simp)
theorem take_set2 : (H.set b d ++ L).take H.length = H.set b d := by
  rw [List.take_append_of_le_length (by simp), List.take_of_length_le (by simp)]
end
theorem lt_of_box {H : Hp} {b : Nat} {x : Option (List CV)} (h : H[b]? = some x) : b < H.length := (List.getElem?_eq_some_iff.1 h).1
theorem set_same {H : Hp} {b : Nat} {c : Option (List CV)} (h : H[b]? = some c) : H.set b c = H := by
  obtain ⟨h1, h2⟩ := List.getElem?_eq_some_iff.1 h
  rw [← h2]; exact List.set_getElem_self h1
theorem number_rd (H : Hp) (V : List Nat) (b : Nat) (tk : Tk) (src : List UInt8) (hb : H[b]? = some (some [.sl tk 1 (bs src)])) :
    CC Try.prog 61 [.ptr b 0] H V (Rd b tk (fun n : Nat => ci n) (· = ci 0) (number src) H V) := by
  refine CC.mono (number_cc _ _ _ _ _ hb) fun r H' V' h => ?_
  unfold Cur at h
  unfold Rd
  rcases hn : number src with e | ⟨n, s⟩ <;> rw [hn] at h
  · obtain ⟨h1, h2, h3⟩ := h
    exact ⟨_, src, rfl, h1, by rw [set_same hb]; exact h2, h3⟩
  · exact h
theorem Fin.rdErr0 {H : Hp} {V : List Nat} {b : Nat} {tk : Tk} {α : Type} {val : α → CV} {Z : CV → Prop} {z z' c : CV} {src : List UInt8} {x : Except Nat (α × List UInt8)} {e : Nat} (hb : H[b]? = some (some [.sl tk 1 (bs src)])) (hx : x = .error e) (hZ : Z z') (hz : okV H.length V.length z') (h1 : Le z z') (h2 : c = er e) (ht : okTk V.length tk) (hokH : ∀ (b : Nat) cs, H[b]? = some (some cs) → okL H.length V.length cs) {H' : Hp} {V' : List Nat} (hH : H'.take H.length = H) (hV : V'.take V.length = V) :
    Fin H.length V.length (Rd b tk val Z x H V) (.tup [z, c]) H' V' :=
  Fin.rdErr hx hZ hz h1 h2 ht hokH (by rw [hH, set_same hb]) hV
theorem length_rd (H : Hp) (V : List Nat) (b : Nat) (tk : Tk) (src : List UInt8) (hb : H[b]? = some (some [.sl tk 1 (bs src)])) :
    CC Try.prog 84 [.ptr b 0] H V (Rd b tk (fun n : Nat => ci n) (fun z => ∃ n, z = ci n) (lengthP src) H V) := by
  have hbl := lt_of_box hb
  refine CC.of_swp Try.func84 rfl (by kernel_rfl) (by rw [Try.ntmps84]; exact len_le _ _ rfl) fun hok hokH => ?_
  have ht := tk_of_box hb hokH
  refine SWp.seq (Wp.s ?_)
  simp -implicitDefEqProofs [go_sem, args0]
  refine SWp.seq (Wp.s ?_)
  simp -implicitDefEqProofs [go_sem]
  refine CC.mono (number_rd _ _ _ _ _ hb) ?_
  intro r H' V' h
  unfold Rd at h
  rcases hn : number src with e | ⟨n, s⟩ <;> rw [hn] at h
  · obtain ⟨_, s, rfl, rfl, rfl, rfl⟩ := h
    have he := ne0_number _ _ hn
    simp -implicitDefEqProofs [go_sem]
    refine Wp.s ?_
    simp -implicitDefEqProofs [go_sem, he]
    exact Fin.rdErr (by unfold lengthP; rw [hn]) ⟨0, rfl⟩ (by simp [go_sem]) (.refl _) rfl ht hokH take_set (by simp)
  · obtain ⟨rfl, rfl, rfl⟩ := h
    simp -implicitDefEqProofs [go_sem]
    refine Wp.s ?_
    simp -implicitDefEqProofs [go_sem]
    exact ⟨fun h => Fin.rdErr (e := 5) (by unfold lengthP; rw [hn]; dsimp only; rw [if_pos (by omega)]) ⟨n, rfl⟩ (by simp [go_sem]) (.refl _) rfl ht hokH take_set (by simp), fun h => Fin.rdOk (by unfold lengthP; rw [hn]; dsimp only; rw [if_neg (by omega)]) (by simp [go_sem]) (.refl _) rfl ht hokH take_set (by simp)⟩
theorem bytes_rd (H : Hp) (V : List Nat) (b : Nat) (tk : Tk) (src : List UInt8) (n : Nat) (hb : H[b]? = some (some [.sl tk 1 (bs src)])) :
    CC Try.prog 88 [.ptr b 0, ci n] H V (Rd b tk (fun s : List UInt8 => .sl .sh 1 (bs s)) (· = .v (.slice none 0 0)) (takeP n src) H V) := by
  have hbl := lt_of_box hb
  refine CC.of_swp Try.func88 rfl (by kernel_rfl) (by rw [Try.ntmps88]; exact len_le _ _ rfl) fun hok hokH => ?_
  have ht := tk_of_box hb hokH
  refine SWp.seq (Wp.s ?_)
  simp -implicitDefEqProofs [go_sem, args0]
  by_cases hn : src.length < n
  · refine Wp.s ?_
    simp -implicitDefEqProofs [go_sem, hbx_some hb, show (src.length : Int) < n by omega]
    exact Fin.rdErr0 (e := 10) hb (by unfold takeP; rw [if_pos hn]) (by exact rfl) (by simp [go_sem]) (.refl _) rfl ht hokH (by simp) (by simp)
  · refine Wp.s ?_
    simp -implicitDefEqProofs [go_sem, hbx_some hb, show ¬ (src.length : Int) < n by omega]
    exact ⟨by omega, Fin.rdOk (by unfold takeP; rw [if_neg hn]) (by simp [go_sem]) (.refl _) rfl ht hokH take_set (by simp)⟩
theorem text_rd (H : Hp) (V : List Nat) (b : Nat) (tk : Tk) (src : List UInt8) (hl : src.length ≤ 1000000000) (hb : H[b]? = some (some [.sl tk 1 (bs src)])) :
    CC Try.prog 72 [.ptr b 0] H V (Rd b tk (fun s : List UInt8 => .sl .sh 1 (bs s)) (fun _ => True) (textP src) H V) := by
  have hbl := lt_of_box hb
  refine CC.of_swp Try.func72 rfl (by kernel_rfl) (by rw [Try.ntmps72]; exact len_le _ _ rfl) fun hok hokH => ?_
  have ht := tk_of_box hb hokH
  refine SWp.seq (Wp.s ?_)
  simp -implicitDefEqProofs [go_sem, args0]
  refine SWp.seq (Wp.s ?_)
  simp -implicitDefEqProofs [go_sem]
  refine CC.mono (length_rd _ _ _ _ _ hb) ?_
  intro r H' V' h
  unfold Rd at h
  rcases hn : lengthP src with e | ⟨n, s⟩ <;> rw [hn] at h
  · obtain ⟨_, s, ⟨n, rfl⟩, rfl, rfl, rfl⟩ := h
    have he := ne0_length _ _ hn
    simp -implicitDefEqProofs [go_sem]
    refine Wp.s ?_
    simp -implicitDefEqProofs [go_sem, he]
    exact Fin.rdErr (by unfold textP; rw [hn]) trivial (by simp [go_sem]) (.refl _) rfl ht hokH take_set (by simp)
  · obtain ⟨rfl, rfl, rfl⟩ := h
    simp -implicitDefEqProofs [go_sem]
    refine Wp.s ?_
    simp -implicitDefEqProofs [go_sem]
    refine CC.mono (bytes_rd _ _ _ _ _ _ (List.getElem?_set_self hbl)) ?_
    intro r H' V' h
    unfold Rd at h
    rcases hm : takeP n s with e | ⟨q, s'⟩ <;> rw [hm] at h
    · obtain ⟨_, s', rfl, rfl, rfl, rfl⟩ := h
      simp -implicitDefEqProofs [go_sem]
      refine CC.mono (CC.nil0 (by decide) (clone_cc _ _ .sh [] (by decide))) ?_
      rintro _ _ _ ⟨v, rfl, rfl, rfl⟩
      simp -implicitDefEqProofs [go_sem]
      exact Fin.rdErr (z' := .sl .sh 1 []) (by unfold textP; rw [hn]; exact hm) trivial (by simp [go_sem]) (.sh ..) rfl ht hokH take_set (by simp)
    · obtain ⟨rfl, rfl, rfl⟩ := h
      simp -implicitDefEqProofs [go_sem]
      have hq : q.length ≤ 1000000000 := by
        unfold takeP at hm
        split at hm
        · cases hm
        · cases hm
          have := shr_length _ _ _ hn
          rw [List.length_take]; omega
      refine CC.mono (clone_cc _ _ _ _ (by simpa using hq)) ?_
      rintro _ _ _ ⟨v, rfl, rfl, rfl⟩
      simp -implicitDefEqProofs [go_sem]
      exact Fin.rdOk (by unfold textP; rw [hn]; exact hm) (by simp [go_sem]) (by exact .sh ..) rfl ht hokH take_set (by simp)
/-- A struct's or an array's value. -/
def Ag (n : Nat) (z : CV) : Prop := ∃ cs, z = .agg cs ∧ cs.length = n ∧ allOne cs = true ∧ ∀ i j, okL i j cs
theorem val_take (s : Sec) : s.val.take 8 = s.val := List.take_of_length_le (by rw [s.len]; exact Nat.le_refl _)
theorem val_len (s : Sec) : s.val.length = 8 := s.len
theorem sec_flat (s : Sec) : (bs s.val).flatten = secC s := by
  have : ∀ l : List UInt8, (bs l).flatten = l.map fun b => CV.v (.int .u8 (b.toNat : Int)) := by
    intro l
    induction l with
    | nil => rfl
    | cons b l ih => rw [bs, List.map_cons, List.flatten_cons, List.map_cons, ← ih]; rfl
  exact this _
theorem sec_take (src : List UInt8) : secP src = (match takeP 8 src with
    | .error e => .error e
    | .ok (q, s) => if h : q.length = 8 then .ok (⟨q, h⟩, s) else .error 10) := by
  unfold secP takeP
  by_cases h : src.length < 8
  · rw [dif_pos h, if_pos h]
  · rw [dif_neg h, if_neg h]; dsimp only; rw [dif_pos (by rw [List.length_take]; omega)]
theorem sector_rd (H : Hp) (V : List Nat) (b : Nat) (tk : Tk) (src : List UInt8) (hb : H[b]? = some (some [.sl tk 1 (bs src)])) :
    CC Try.prog 87 [.ptr b 0] H V (Rd b tk (fun s : Sec => .agg (secC s)) (Ag 8) (secP src) H V) := by
  have hbl := lt_of_box hb
  refine CC.of_swp Try.func87 rfl (by kernel_rfl) (by rw [Try.ntmps87]; exact len_le _ _ rfl) fun hok hokH => ?_
  have ht := tk_of_box hb hokH
  refine SWp.seq (Wp.s ?_)
  simp -implicitDefEqProofs [go_sem, args0]
  refine SWp.seq (Wp.s ?_)
  simp -implicitDefEqProofs [go_sem]
  refine CC.mono (bytes_rd _ _ _ _ _ 8 (by rw [List.getElem?_append_left hbl]; exact hb)) ?_
  intro r H' V' h
  unfold Rd at h
  rcases hn : takeP 8 src with e | ⟨q, s⟩ <;> rw [hn] at h
  · obtain ⟨_, s, rfl, rfl, rfl, rfl⟩ := h
    have he := ne0_take _ _ _ hn
    simp -implicitDefEqProofs [go_sem, set_left hbl]
    refine Wp.s ?_
    simp -implicitDefEqProofs [go_sem, he]
    exact Fin.rdErr (by rw [sec_take, hn]) (by exact ⟨_, rfl, rfl, rfl, fun i j => by simp [go_sem]⟩) (by simp [go_sem]) (.refl _) rfl ht hokH take_set2 (by simp)
  · obtain ⟨rfl, rfl, rfl⟩ := h
    obtain ⟨s0, rfl, hs0⟩ : ∃ s0 : Sec, q = s0.val ∧ secP src = .ok (s0, s) := by
      rw [sec_take, hn]
      dsimp only
      unfold takeP at hn
      split at hn
      · cases hn
      · rename_i h8
        cases hn
        exact ⟨⟨_, by rw [List.length_take]; omega⟩, rfl, by rw [dif_pos (by rw [List.length_take]; omega)]⟩
    simp -implicitDefEqProofs [go_sem, set_left hbl]
    refine Wp.s ?_
    simp -implicitDefEqProofs [go_sem, val_take, val_len, sec_flat]
    exact Fin.rdOk hs0 (by simp [go_sem]) (.refl _) rfl ht hokH take_set2 (by simp)
theorem pair_rd (H : Hp) (V : List Nat) (b : Nat) (tk : Tk) (src : List UInt8) (hb : H[b]? = some (some [.sl tk 1 (bs src)])) :
    CC Try.prog 85 [.ptr b 0] H V (Rd3 b tk (pairP src) H V) := by
  have hbl := lt_of_box hb
  refine CC.of_swp Try.func85 rfl (by kernel_rfl) (by rw [Try.ntmps85]; exact len_le _ _ rfl) fun hok hokH => ?_
  have ht := tk_of_box hb hokH
  refine SWp.seq (Wp.s ?_)
  simp -implicitDefEqProofs [go_sem, args0]
  refine SWp.seq (Wp.s ?_)
  simp -implicitDefEqProofs [go_sem]
  refine CC.mono (number_rd _ _ _ _ _ hb) ?_
  intro r H' V' h
  unfold Rd at h
  rcases hn : number src with e | ⟨n, s⟩ <;> rw [hn] at h
  · obtain ⟨_, s, rfl, rfl, rfl, rfl⟩ := h
    have he := ne0_number _ _ hn
    simp -implicitDefEqProofs [go_sem]
    refine Wp.s ?_
    simp -implicitDefEqProofs [go_sem, he]
    exact Fin.rd3Err (by unfold pairP; rw [hn]) rfl ht hokH take_set (by simp)
  · obtain ⟨rfl, rfl, rfl⟩ := h
    simp -implicitDefEqProofs [go_sem]
    refine Wp.s ?_
    simp -implicitDefEqProofs [go_sem]
    refine CC.mono (number_rd _ _ _ _ _ (List.getElem?_set_self hbl)) ?_
    intro r H' V' h
    unfold Rd at h
    rcases hm : number s with e | ⟨m, s'⟩ <;> rw [hm] at h
    · obtain ⟨_, s', rfl, rfl, rfl, rfl⟩ := h
      have he := ne0_number _ _ hm
      simp -implicitDefEqProofs [go_sem]
      exact Fin.rd3Err (by unfold pairP; rw [hn]; dsimp only; rw [hm]) rfl ht hokH take_set (by simp)
    · obtain ⟨rfl, rfl, rfl⟩ := h
      simp -implicitDefEqProofs [go_sem]
      exact Fin.rd3Ok (by unfold pairP; rw [hn]; dsimp only; rw [hm]) rfl rfl rfl ht hokH take_set (by simp)
end Go.Proofs.Ytffjhibomipemaa
