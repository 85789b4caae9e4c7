import Derived.Test.YthakkopnoeinmaaA9
set_option linter.unusedSimpArgs false
set_option linter.unusedVariables false
namespace Go.Proofs.Ythakkopnoeinmaa
/-! ### Plain: reading -/
abbrev Pr (α : Type) := List UInt8 → Except Nat (α × List UInt8)
def lengthP : Pr Nat := fun s =>
  match number s with
  | .error e => .error e
  | .ok (n, r) => if 65536 < n then .error 5 else .ok (n, r)
def takeP (n : Nat) : Pr (List UInt8) := fun s => if s.length < n then .error 10 else .ok (s.take n, s.drop n)
def textP : Pr (List UInt8) := fun s =>
  match lengthP s with
  | .error e => .error e
  | .ok (n, r) => takeP n r
def secP : Pr Sec := fun s => if h : s.length < 8 then .error 10 else .ok (⟨s.take 8, by rw [List.length_take]; omega⟩, s.drop 8)
def pairP : Pr (Nat × Nat) := fun s =>
  match number s with
  | .error e => .error e
  | .ok (a, r) =>
    match number r with
    | .error e => .error e
    | .ok (b, r') => .ok ((a, b), r')
def extP : Pr Ext2 := fun s =>
  match pairP s with
  | .error e => .error e
  | .ok ((a, b), r) => .ok (⟨a, b⟩, r)
def repP {α : Type} (p : Pr α) : Nat → Pr (List α)
  | 0, s => .ok ([], s)
  | n + 1, s =>
    match p s with
    | .error e => .error e
    | .ok (a, r) =>
      match repP p n r with
      | .error e => .error e
      | .ok (l, r') => .ok (a :: l, r')
def listP {α : Type} (p : Pr α) : Pr (List α) := fun s =>
  match lengthP s with
  | .error e => .error e
  | .ok (n, r) => repP p n r
def intP : Pr Int := fun s =>
  match number s with
  | .error e => .error e
  | .ok (n, r) => .ok ((n : Int), r)
def wrP : Pr Wr := fun s =>
  match pairP s with
  | .error e => .error e
  | .ok ((a, b), r) =>
    match listP secP r with
    | .error e => .error e
    | .ok (l, r') => .ok (⟨a, b, l⟩, r')
/-- What was read already, ahead. -/
def ahead {α : Type} (xs : List α) : Except Nat (List α × List UInt8) → Except Nat (List α × List UInt8)
  | .error e => .error e
  | .ok (l, r) => .ok (xs ++ l, r)
theorem ahead_nil {α : Type} (x : Except Nat (List α × List UInt8)) : ahead [] x = x := by cases x <;> rfl
theorem rep_ok {α : Type} {p : Pr α} {n : Nat} {s r : List UInt8} {a : α} {xs : List α} (h : p s = .ok (a, r)) : ahead xs (repP p (n + 1) s) = ahead (xs ++ [a]) (repP p n r) := by
  rw [repP, h]
  dsimp only
  cases repP p n r with
  | error e => rfl
  | ok q => simp [ahead]
theorem rep_err {α : Type} {p : Pr α} {n e : Nat} {s : List UInt8} {xs : List α} (h : p s = .error e) : ahead xs (repP p (n + 1) s) = .error e := by
  rw [repP, h]; rfl
/-- A reader never gives error 0. -/
def Ne0 {α : Type} (p : Pr α) : Prop := ∀ s e, p s = .error e → e ≠ 0
theorem ne0_number : Ne0 number := fun s e h => by rcases number_err _ _ _ _ h with rfl | rfl <;> decide
theorem ne0_length : Ne0 lengthP := fun s e h => by
  unfold lengthP at h
  split at h
  · rename_i h1; cases h; exact ne0_number _ _ h1
  · split at h
    · cases h; decide
    · cases h
theorem ne0_int : Ne0 intP := fun s e h => by
  unfold intP at h
  split at h
  · rename_i h1; cases h; exact ne0_number _ _ h1
  · cases h
theorem ne0_take (n : Nat) : Ne0 (takeP n) := fun s e h => by
  unfold takeP at h
  split at h
  · cases h; decide
  · cases h
theorem ne0_text : Ne0 textP := fun s e h => by
  unfold textP at h
  split at h
  · rename_i h1; cases h; exact ne0_length _ _ h1
  · exact ne0_take _ _ _ h
theorem ne0_sec : Ne0 secP := fun s e h => by
  unfold secP at h
  split at h
  · cases h; decide
  · cases h
theorem ne0_pair : Ne0 pairP := fun s e h => by
  unfold pairP at h
  split at h
  · rename_i h1; cases h; exact ne0_number _ _ h1
  · split at h
    · rename_i h1; cases h; exact ne0_number _ _ h1
    · cases h
theorem ne0_ext : Ne0 extP := fun s e h => by
  unfold extP at h
  split at h
  · rename_i h1; cases h; exact ne0_pair _ _ h1
  · cases h
theorem ne0_rep {α : Type} {p : Pr α} (hp : Ne0 p) : ∀ n, Ne0 (repP p n)
  | 0, s, e, h => by rw [repP] at h; cases h
  | n + 1, s, e, h => by
    rw [repP] at h
    split at h
    · rename_i h1; cases h; exact hp _ _ h1
    · split at h
      · rename_i h1; cases h; exact ne0_rep hp n _ _ h1
      · cases h
theorem ne0_list {α : Type} {p : Pr α} (hp : Ne0 p) : Ne0 (listP p) := fun s e h => by
  unfold listP at h
  split at h
  · rename_i h1; cases h; exact ne0_length _ _ h1
  · exact ne0_rep hp _ _ _ h
theorem ne0_wr : Ne0 wrP := fun s e h => by
  unfold wrP at h
  split at h
  · rename_i h1; cases h; exact ne0_pair _ _ h1
  · split at h
    · rename_i h1; cases h; exact ne0_list ne0_sec _ _ h1
    · cases h
/-- What is left is not longer. -/
def Shr {α : Type} (p : Pr α) : Prop := ∀ s a r, p s = .ok (a, r) → r.length ≤ s.length
theorem shr_number : Shr number := fun _ _ _ h => number_len _ _ _ _ h
theorem shr_length : Shr lengthP := fun s a r h => by
  unfold lengthP at h
  split at h
  · cases h
  · rename_i h1
    split at h
    · cases h
    · cases h; exact shr_number _ _ _ h1
theorem length_le {s r : List UInt8} {n : Nat} (h : lengthP s = .ok (n, r)) : n ≤ 65536 := by
  unfold lengthP at h
  split at h
  · cases h
  · split at h
    · cases h
    · cases h; omega
theorem shr_int : Shr intP := fun s a r h => by
  unfold intP at h
  split at h
  · cases h
  · rename_i h1; cases h; exact shr_number _ _ _ h1
theorem shr_take (n : Nat) : Shr (takeP n) := fun s a r h => by
  unfold takeP at h
  split at h
  · cases h
  · cases h; rw [List.length_drop]; omega
theorem shr_text : Shr textP := fun s a r h => by
  unfold textP at h
  split at h
  · cases h
  · rename_i h1; exact Nat.le_trans (shr_take _ _ _ _ h) (shr_length _ _ _ h1)
theorem shr_sec : Shr secP := fun s a r h => by
  unfold secP at h
  split at h
  · cases h
  · cases h; rw [List.length_drop]; omega
theorem shr_pair : Shr pairP := fun s a r h => by
  unfold pairP at h
  split at h
  · cases h
  · rename_i h1
    split at h
    · cases h
    · rename_i h2; cases h; exact Nat.le_trans (shr_number _ _ _ h2) (shr_number _ _ _ h1)
theorem shr_ext : Shr extP := fun s a r h => by
  unfold extP at h
  split at h
  · cases h
  · rename_i h1; cases h; exact shr_pair _ _ _ h1
theorem shr_rep {α : Type} {p : Pr α} (hp : Shr p) : ∀ n, Shr (repP p n)
  | 0, s, a, r, h => by rw [repP] at h; cases h; exact Nat.le_refl _
  | n + 1, s, a, r, h => by
    rw [repP] at h
    split at h
    · cases h
    · rename_i h1
      split at h
      · cases h
      · rename_i h2; cases h; exact Nat.le_trans (shr_rep hp n _ _ _ h2) (hp _ _ _ h1)
theorem shr_list {α : Type} {p : Pr α} (hp : Shr p) : Shr (listP p) := fun s a r h => by
  unfold listP at h
  split at h
  · cases h
  · rename_i h1; exact Nat.le_trans (shr_rep hp _ _ _ _ h) (shr_length _ _ _ h1)
theorem shr_wr : Shr wrP := fun s a r h => by
  unfold wrP at h
  split at h
  · cases h
  · rename_i h1
    split at h
    · cases h
    · rename_i h2; cases h; exact Nat.le_trans (shr_list shr_sec _ _ _ h2) (shr_pair _ _ _ h1)
end Go.Proofs.Ythakkopnoeinmaa
namespace Go.Proofs.Ythakkopnoeinmaa
open Go.Proofs
/-- A cursor's call: the value and no error, and the rest left behind; or an error, and whatever is left. -/
def Rd {α : Type} (b : Nat) (tk : Tk) (val : α → CV) (Z : CV → Prop) (x : Except Nat (α × List UInt8)) (H : Hp) (V : List Nat) : CV → Hp → List Nat → Prop := fun r H' V' =>
  match x with
  | .ok (a, s) => r = .tup [val a, er 0] ∧ H.set b (some [.sl tk 1 (bs s)]) = H' ∧ V = V'
  | .error e => ∃ z s, Z z ∧ r = .tup [z, er e] ∧ H.set b (some [.sl tk 1 (bs s)]) = H' ∧ V = V'
/-- A cursor's call that gives two numbers. -/
def Rd3 (b : Nat) (tk : Tk) (x : Except Nat ((Nat × Nat) × List UInt8)) (H : Hp) (V : List Nat) : CV → Hp → List Nat → Prop := fun r H' V' =>
  match x with
  | .ok ((m, n), s) => r = .tup [ci m, ci n, er 0] ∧ H.set b (some [.sl tk 1 (bs s)]) = H' ∧ V = V'
  | .error e => ∃ (m n : Int) (s : List UInt8), r = .tup [ci m, ci n, er e] ∧ H.set b (some [.sl tk 1 (bs s)]) = H' ∧ V = V'
section
variable {H : Hp} {V : List Nat} {b : Nat} {tk : Tk} {α : Type} {val : α → CV} {Z : CV → Prop}
theorem Fin.rdOk {z c : CV} {x : Except Nat (α × List UInt8)} {a : α} {s : List UInt8} (hx : x = .ok (a, s)) (hz : okV H.length V.length (val a)) (h1 : Le z (val a)) (h2 : c = er 0) (ht : okTk V.length tk) (hokH : ∀ (b : Nat) cs, H[b]? = some (some cs) → okL H.length V.length cs) {H' : Hp} {V' : List Nat} (hH : H'.take H.length = H.set b (some [.sl tk 1 (bs s)])) (hV : V'.take V.length = V) :
    Fin H.length V.length (Rd b tk val Z x H V) (.tup [z, c]) H' V' := by
  subst hx h2
  exact Fin.pure (r' := .tup [val a, er 0]) (by exact ⟨rfl, rfl, rfl⟩) hH hV (.tup (.cons h1 (.cons (.refl _) .nil))) (by simp [go_sem, hz]) (ok_set (by simp [go_sem, okV_slt, ht]) hokH)
theorem Fin.rd3Ok {m n c : CV} {x : Except Nat ((Nat × Nat) × List UInt8)} {a a' : Nat} {s : List UInt8} (hx : x = .ok ((a, a'), s)) (h0 : m = ci a) (h1 : n = ci a') (h2 : c = er 0) (ht : okTk V.length tk) (hokH : ∀ (b : Nat) cs, H[b]? = some (some cs) → okL H.length V.length cs) {H' : Hp} {V' : List Nat} (hH : H'.take H.length = H.set b (some [.sl tk 1 (bs s)])) (hV : V'.take V.length = V) :
    Fin H.length V.length (Rd3 b tk x H V) (.tup [m, n, c]) H' V' := by
  subst hx h0 h1 h2
  exact Fin.pure (by exact ⟨rfl, rfl, rfl⟩) hH hV (.refl _) (by simp [go_sem]) (ok_set (by simp [go_sem, okV_slt, ht]) hokH)
theorem Fin.rd3Err {c : CV} {m n : Int} {x : Except Nat ((Nat × Nat) × List UInt8)} {e : Nat} {s : List UInt8} (hx : x = .error e) (h2 : c = er e) (ht : okTk V.length tk) (hokH : ∀ (b : Nat) cs, H[b]? = some (some cs) → okL H.length V.length cs) {H' : Hp} {V' : List Nat} (hH : H'.take H.length = H.set b (some [.sl tk 1 (bs s)])) (hV : V'.take V.length = V) :
    Fin H.length V.length (Rd3 b tk x H V) (.tup [ci m, ci n, c]) H' V' := by
  subst hx h2
  exact Fin.pure (by exact ⟨m, n, s, rfl, rfl, rfl⟩) hH hV (.refl _) (by simp [go_sem]) (ok_set (by simp [go_sem, okV_slt, ht]) hokH)
theorem Fin.rdErr {z z' c : CV} {x : Except Nat (α × List UInt8)} {e : Nat} {s : List UInt8} (hx : x = .error e) (hZ : Z z') (hz : okV H.length V.length z') (h1 : Le z z') (h2 : c = er e) (ht : okTk V.length tk) (hokH : ∀ (b : Nat) cs, H[b]? = some (some cs) → okL H.length V.length cs) {H' : Hp} {V' : List Nat} (hH : H'.take H.length = H.set b (some [.sl tk 1 (bs s)])) (hV : V'.take V.length = V) :
    Fin H.length V.length (Rd b tk val Z x H V) (.tup [z, c]) H' V' := by
  subst hx h2
  exact Fin.pure (r' := .tup [z', er e]) (by exact ⟨z', s, hZ, rfl, rfl, rfl⟩) hH hV (.tup (.cons h1 (.cons (.refl _) .nil))) (by simp [go_sem, hz]) (ok_set (by simp [go_sem, okV_slt, ht]) hokH)
end
section
variable {H L : Hp} {b k : Nat} {c d : Option (List CV)} {cs : List CV} {K : List CV → Prop}
theorem hbx_set (h : b < H.length) : hbx (H.set b (some cs)) b K = K cs := hbx_some (by rw [List.getElem?_set_self h]) K
theorem hbx_left (h : b < H.length) : hbx (H ++ L) b K = hbx H b K := by simp only [hbx, List.getElem?_append_left h]
@[go_sem] theorem hbx_at (h : k = H.length) : hbx (H ++ some cs :: L) k K = K cs := by subst h; exact hbx_new H cs L K
@[go_sem] theorem set_at (h : k = H.length) : (H ++ c :: L).set k d = H ++ d :: L := by
  subst h; rw [List.set_append_right _ _ (Nat.le_refl _), Nat.sub_self]; rfl
theorem set_left (h : b < H.length) : (H ++ L).set b d = H.set b d ++ L := List.set_append_left _ _ h
theorem take_set : (H.set b d).take H.length = H.set b d := List.take_of_length_le (by simp)
theorem take_set2 : (H.set b d ++ L).take H.length = H.set b d := by
  rw [List.take_append_of_le_length (by simp), List.take_of_length_le (by simp)]
end
theorem lt_of_box {H : Hp} {b : Nat} {x : Option (List CV)} (h : H[b]? = some x) : b < H.length := (List.getElem?_eq_some_iff.1 h).1
theorem set_same {H : Hp} {b : Nat} {c : Option (List CV)} (h : H[b]? = some c) : H.set b c = H := by
  obtain ⟨h1, h2⟩ := List.getElem?_eq_some_iff.1 h
  rw [← h2]; exact List.set_getElem_self h1
theorem number_rd (H : Hp) (V : List Nat) (b : Nat) (tk : Tk) (src : List UInt8) (hb : H[b]? = some (some [.sl tk 1 (bs src)])) :
    CC Try.prog 90 [.ptr b 0] H V (Rd b tk (fun n : Nat => ci n) (· = ci 0) (number src) H V) := by
  refine CC.mono (number_cc _ _ _ _ _ hb) fun r H' V' h => ?_
  unfold Cur at h
  unfold Rd
  rcases hn : number src with e | ⟨n, s⟩ <;> rw [hn] at h
  · obtain ⟨h1, h2, h3⟩ := h
    exact ⟨_, src, rfl, h1, by rw [set_same hb]; exact h2, h3⟩
  · exact h
theorem Fin.rdErr0 {H : Hp} {V : List Nat} {b : Nat} {tk : Tk} {α : Type} {val : α → CV} {Z : CV → Prop} {z z' c : CV} {src : List UInt8} {x : Except Nat (α × List UInt8)} {e : Nat} (hb : H[b]? = some (some [.sl tk 1 (bs src)])) (hx : x = .error e) (hZ : Z z') (hz : okV H.length V.length z') (h1 : Le z z') (h2 : c = er e) (ht : okTk V.length tk) (hokH : ∀ (b : Nat) cs, H[b]? = some (some cs) → okL H.length V.length cs) {H' : Hp} {V' : List Nat} (hH : H'.take H.length = H) (hV : V'.take V.length = V) :
    Fin H.length V.length (Rd b tk val Z x H V) (.tup [z, c]) H' V' :=
  Fin.rdErr hx hZ hz h1 h2 ht hokH (by rw [hH, set_same hb]) hV
theorem length_rd (H : Hp) (V : List Nat) (b : Nat) (tk : Tk) (src : List UInt8) (hb : H[b]? = some (some [.sl tk 1 (bs src)])) :
    CC Try.prog 103 [.ptr b 0] H V (Rd b tk (fun n : Nat => ci n) (fun z => ∃ n, z = ci n) (lengthP src) H V) := by
  have hbl := lt_of_box hb
  refine CC.of_swp Try.func103 rfl (by kernel_rfl) (by rw [Try.ntmps103]; exact len_le _ _ rfl) fun hok hokH => ?_
  have ht := tk_of_box hb hokH
  refine SWp.seq (Wp.s ?_)
  simp -implicitDefEqProofs [go_sem, args0]
  refine SWp.seq (Wp.s ?_)
  simp -implicitDefEqProofs [go_sem]
  refine CC.mono (number_rd _ _ _ _ _ hb) ?_
  intro r H' V' h
  unfold Rd at h
  rcases hn : number src with e | ⟨n, s⟩ <;> rw [hn] at h
  · obtain ⟨_, s, rfl, rfl, rfl, rfl⟩ := h
    have he := ne0_number _ _ hn
    simp -implicitDefEqProofs [go_sem]
    refine Wp.s ?_
    simp -implicitDefEqProofs [go_sem, he]
    exact Fin.rdErr (by unfold lengthP; rw [hn]) ⟨0, rfl⟩ (by simp [go_sem]) (.refl _) rfl ht hokH take_set (by simp)
  · obtain ⟨rfl, rfl, rfl⟩ := h
    simp -implicitDefEqProofs [go_sem]
    refine Wp.s ?_
    simp -implicitDefEqProofs [go_sem]
    exact ⟨fun h => Fin.rdErr (e := 5) (by unfold lengthP; rw [hn]; dsimp only; rw [if_pos (by omega)]) ⟨n, rfl⟩ (by simp [go_sem]) (.refl _) rfl ht hokH take_set (by simp), fun h => Fin.rdOk (by unfold lengthP; rw [hn]; dsimp only; rw [if_neg (by omega)]) (by simp [go_sem]) (.refl _) rfl ht hokH take_set (by simp)⟩
theorem bytes_rd (H : Hp) (V : List Nat) (b : Nat) (tk : Tk) (src : List UInt8) (n : Nat) (hb : H[b]? = some (some [.sl tk 1 (bs src)])) :
    CC Try.prog 105 [.ptr b 0, ci n] H V (Rd b tk (fun s : List UInt8 => .sl .sh 1 (bs s)) (· = .v (.slice none 0 0)) (takeP n src) H V) := by
  have hbl := lt_of_box hb
  refine CC.of_swp Try.func105 rfl (by kernel_rfl) (by rw [Try.ntmps105]; exact len_le _ _ rfl) fun hok hokH => ?_
  have ht := tk_of_box hb hokH
  refine SWp.seq (Wp.s ?_)
  simp -implicitDefEqProofs [go_sem, args0]
  by_cases hn : src.length < n
  · refine Wp.s ?_
    simp -implicitDefEqProofs [go_sem, hbx_some hb, show (src.length : Int) < n by omega]
    exact Fin.rdErr0 (e := 10) hb (by unfold takeP; rw [if_pos hn]) (by exact rfl) (by simp [go_sem]) (.refl _) rfl ht hokH (by simp) (by simp)
  · refine Wp.s ?_
    simp -implicitDefEqProofs [go_sem, hbx_some hb, show ¬ (src.length : Int) < n by omega]
    exact ⟨by omega, Fin.rdOk (by unfold takeP; rw [if_neg hn]) (by simp [go_sem]) (.refl _) rfl ht hokH take_set (by simp)⟩
theorem text_rd (H : Hp) (V : List Nat) (b : Nat) (tk : Tk) (src : List UInt8) (hl : src.length ≤ 1000000000) (hb : H[b]? = some (some [.sl tk 1 (bs src)])) :
    CC Try.prog 96 [.ptr b 0] H V (Rd b tk (fun s : List UInt8 => .sl .sh 1 (bs s)) (fun _ => True) (textP src) H V) := by
  have hbl := lt_of_box hb
  refine CC.of_swp Try.func96 rfl (by kernel_rfl) (by rw [Try.ntmps96]; exact len_le _ _ rfl) fun hok hokH => ?_
  have ht := tk_of_box hb hokH
  refine SWp.seq (Wp.s ?_)
  simp -implicitDefEqProofs [go_sem, args0]
  refine SWp.seq (Wp.s ?_)
  simp -implicitDefEqProofs [go_sem]
  refine CC.mono (length_rd _ _ _ _ _ hb) ?_
  intro r H' V' h
  unfold Rd at h
  rcases hn : lengthP src with e | ⟨n, s⟩ <;> rw [hn] at h
  · obtain ⟨_, s, ⟨n, rfl⟩, rfl, rfl, rfl⟩ := h
    have he := ne0_length _ _ hn
    simp -implicitDefEqProofs [go_sem]
    refine Wp.s ?_
    simp -implicitDefEqProofs [go_sem, he]
    exact Fin.rdErr (by unfold textP; rw [hn]) trivial (by simp [go_sem]) (.refl _) rfl ht hokH take_set (by simp)
  · obtain ⟨rfl, rfl, rfl⟩ := h
    simp -implicitDefEqProofs [go_sem]
    refine Wp.s ?_
    simp -implicitDefEqProofs [go_sem]
    refine CC.mono (bytes_rd _ _ _ _ _ _ (List.getElem?_set_self hbl)) ?_
    intro r H' V' h
    unfold Rd at h
    rcases hm : takeP n s with e | ⟨q, s'⟩ <;> rw [hm] at h
    · obtain ⟨_, s', rfl, rfl, rfl, rfl⟩ := h
      simp -implicitDefEqProofs [go_sem]
      refine CC.mono (CC.nil0 (by decide) (clone_cc _ _ .sh [] (by decide))) ?_
      rintro _ _ _ ⟨v, rfl, rfl, rfl⟩
      simp -implicitDefEqProofs [go_sem]
      exact Fin.rdErr (z' := .sl .sh 1 []) (by unfold textP; rw [hn]; exact hm) trivial (by simp [go_sem]) (.sh ..) rfl ht hokH take_set (by simp)
    · obtain ⟨rfl, rfl, rfl⟩ := h
      simp -implicitDefEqProofs [go_sem]
      have hq : q.length ≤ 1000000000 := by
        unfold takeP at hm
        split at hm
        · cases hm
        · cases hm
          have := shr_length _ _ _ hn
          rw [List.length_take]; omega
      refine CC.mono (clone_cc _ _ _ _ (by simpa using hq)) ?_
      rintro _ _ _ ⟨v, rfl, rfl, rfl⟩
      simp -implicitDefEqProofs [go_sem]
      exact Fin.rdOk (by unfold textP; rw [hn]; exact hm) (by simp [go_sem]) (by exact .sh ..) rfl ht hokH take_set (by simp)
/-- A struct's or an array's value. -/
def Ag (n : Nat) (z : CV) : Prop := ∃ cs, z = .agg cs ∧ cs.length = n ∧ allOne cs = true ∧ ∀ i j, okL i j cs
theorem val_take (s : Sec) : s.val.take 8 = s.val := List.take_of_length_le (by rw [s.len]; exact Nat.le_refl _)
theorem val_len (s : Sec) : s.val.length = 8 := s.len
theorem sec_flat (s : Sec) : (bs s.val).flatten = secC s := by
  have : ∀ l : List UInt8, (bs l).flatten = l.map fun b => CV.v (.int .u8 (b.toNat : Int)) := by
    intro l
    induction l with
    | nil => rfl
    | cons b l ih => rw [bs, List.map_cons, List.flatten_cons, List.map_cons, ← ih]; rfl
  exact this _
theorem sec_take (src : List UInt8) : secP src = (match takeP 8 src with
    | .error e => .error e
    | .ok (q, s) => if h : q.length = 8 then .ok (⟨q, h⟩, s) else .error 10) := by
  unfold secP takeP
  by_cases h : src.length < 8
  · rw [dif_pos h, if_pos h]
  · rw [dif_neg h, if_neg h]; dsimp only; rw [dif_pos (by rw [List.length_take]; omega)]
theorem pair_rd (H : Hp) (V : List Nat) (b : Nat) (tk : Tk) (src : List UInt8) (hb : H[b]? = some (some [.sl tk 1 (bs src)])) :
    CC Try.prog 104 [.ptr b 0] H V (Rd3 b tk (pairP src) H V) := by
  have hbl := lt_of_box hb
  refine CC.of_swp Try.func104 rfl (by kernel_rfl) (by rw [Try.ntmps104]; exact len_le _ _ rfl) fun hok hokH => ?_
  have ht := tk_of_box hb hokH
  refine SWp.seq (Wp.s ?_)
  simp -implicitDefEqProofs [go_sem, args0]
  refine SWp.seq (Wp.s ?_)
  simp -implicitDefEqProofs [go_sem]
  refine CC.mono (number_rd _ _ _ _ _ hb) ?_
  intro r H' V' h
  unfold Rd at h
  rcases hn : number src with e | ⟨n, s⟩ <;> rw [hn] at h
  · obtain ⟨_, s, rfl, rfl, rfl, rfl⟩ := h
    have he := ne0_number _ _ hn
    simp -implicitDefEqProofs [go_sem]
    refine Wp.s ?_
    simp -implicitDefEqProofs [go_sem, he]
    exact Fin.rd3Err (by unfold pairP; rw [hn]) rfl ht hokH take_set (by simp)
  · obtain ⟨rfl, rfl, rfl⟩ := h
    simp -implicitDefEqProofs [go_sem]
    refine Wp.s ?_
    simp -implicitDefEqProofs [go_sem]
    refine CC.mono (number_rd _ _ _ _ _ (List.getElem?_set_self hbl)) ?_
    intro r H' V' h
    unfold Rd at h
    rcases hm : number s with e | ⟨m, s'⟩ <;> rw [hm] at h
    · obtain ⟨_, s', rfl, rfl, rfl, rfl⟩ := h
      have he := ne0_number _ _ hm
      simp -implicitDefEqProofs [go_sem]
      exact Fin.rd3Err (by unfold pairP; rw [hn]; dsimp only; rw [hm]) rfl ht hokH take_set (by simp)
    · obtain ⟨rfl, rfl, rfl⟩ := h
      simp -implicitDefEqProofs [go_sem]
      exact Fin.rd3Ok (by unfold pairP; rw [hn]; dsimp only; rw [hm]) rfl rfl rfl ht hokH take_set (by simp)
end Go.Proofs.Ythakkopnoeinmaa
namespace Go.Proofs.Ythakkopnoeinmaa
open Go.Proofs
/-- A list that is built: nil, or the slice of a token. -/
def outC (o : Option Nat) (k sz : Nat) (xs : List (List CV)) : CV :=
  match o with
  | none => .v (.slice none 0 0)
  | some v => .sl (.own k v) sz xs
def outV (V : List Nat) : Option Nat → List Nat
  | none => V
  | some v => V ++ [v]
@[go_sem] theorem outC_none (k sz : Nat) (xs : List (List CV)) : outC none k sz xs = .v (.slice none 0 0) := rfl
@[go_sem] theorem outC_some (v k sz : Nat) (xs : List (List CV)) : outC (some v) k sz xs = .sl (.own k v) sz xs := rfl
@[go_sem] theorem outV_none (V : List Nat) : outV V none = V := rfl
@[go_sem] theorem outV_some (V : List Nat) (v : Nat) : outV V (some v) = V ++ [v] := rfl
theorem outV_take (V : List Nat) (o : Option Nat) : (outV V o).take V.length = V := by cases o <;> simp [outV]
theorem outC_le {α : Type} {f : α → List CV} (o : Option Nat) (k sz : Nat) (xs : List α) (h0 : 0 < sz) (h : o = none → xs = []) : Le (outC o k sz (xs.map f)) (.sl .sh sz (xs.map f)) := by
  cases o with
  | none => rw [h rfl]; exact .nil sz h0
  | some v => exact .sh ..
theorem okE_app {i j : Nat} (xs ys : List (List CV)) : okE i j (xs ++ ys) = (okE i j xs ∧ okE i j ys) := by
  simp only [okE_iff, List.mem_append]
  exact propext ⟨fun h => ⟨fun e he => h e (.inl he), fun e he => h e (.inr he)⟩, fun ⟨h1, h2⟩ e he => he.elim (h1 e) (h2 e)⟩
theorem snocMap {α : Type} (f : α → List CV) (xs : List α) (a : α) : xs.map f ++ [f a] = (xs ++ [a]).map f := by simp
theorem okH_set {H : Hp} {V : List Nat} {b j : Nat} {tk : Tk} {s : List UInt8} (ht : okTk V.length tk) (hj : V.length ≤ j) (hokH : ∀ (b : Nat) cs, H[b]? = some (some cs) → okL H.length V.length cs) (b' : Nat) (cs : List CV) (h : (H.set b (some [.sl tk 1 (bs s)]))[b']? = some (some cs)) : okL H.length j cs :=
  okL_mono (Nat.le_refl _) hj (ok_set (by simp [go_sem, okV_slt, ht]) hokH b' cs h)
theorem listInt_rd (H : Hp) (V : List Nat) (b : Nat) (tk : Tk) (src : List UInt8) (g : Nat) (p : Pr Int) (hp : Ne0 p) (hs : Shr p)
    (hg : ∀ (H : Hp) (V : List Nat) (b : Nat) (tk : Tk) (src : List UInt8), src.length ≤ 1000000000 → H[b]? = some (some [.sl tk 1 (bs src)]) → CC Try.prog g [.ptr b 0] H V (Rd b tk (fun a => ci a) (· = ci 0) (p src) H V))
    (hl : src.length ≤ 1000000000) (hb : H[b]? = some (some [.sl tk 1 (bs src)])) : CC Try.prog 100 [.ptr b 0, .fn g []] H V (Rd b tk (fun l : List Int => .sl .sh 1 (l.map ic)) (· = .v (.slice none 0 0)) (listP p src) H V) := by
  have hbl := lt_of_box hb
  refine CC.of_swp Try.func100 rfl (by kernel_rfl) (by rw [Try.ntmps100]; exact len_le _ _ rfl) fun hok hokH => ?_
  have ht := tk_of_box hb hokH
  clear hok
  refine SWp.seq (Wp.s ?_)
  simp -implicitDefEqProofs [go_sem, args0]
  refine SWp.seq (Wp.s ?_)
  simp -implicitDefEqProofs [go_sem]
  refine CC.mono (length_rd _ _ _ _ _ hb) ?_
  intro r H' V' h
  unfold Rd at h
  rcases hn : lengthP src with e | ⟨n, s⟩ <;> rw [hn] at h
  · obtain ⟨_, s, ⟨n, rfl⟩, rfl, rfl, rfl⟩ := h
    have he := ne0_length _ _ hn
    simp -implicitDefEqProofs [go_sem]
    refine Wp.s ?_
    simp -implicitDefEqProofs [go_sem, he]
    exact Fin.rdErr (by unfold listP; rw [hn]) (by exact rfl) (by simp [go_sem]) (.refl _) rfl ht hokH take_set (by simp)
  · obtain ⟨rfl, rfl, rfl⟩ := h
    have hn5 := length_le hn
    have hls := shr_length _ _ _ hn
    simp -implicitDefEqProofs [go_sem]
    refine SWp.seq (Wp.s ?_)
    simp -implicitDefEqProofs [go_sem]
    refine SWp.seq (Wp.s ?_)
    simp -implicitDefEqProofs [go_sem]
    refine SWp.join (α := Option Nat × List Int × List UInt8) (fun x => ([(8, outC x.1 V.length 1 (x.2.1.map ic))], H.set b (some [.sl tk 1 (bs x.2.2)]), outV V x.1)) (fun x => (x.1 = none → x.2.1 = []) ∧ listP p src = .ok (x.2.1, x.2.2)) ?_ ?_
    · refine SWp.seq (Wp.s ?_)
      simp -implicitDefEqProofs [go_sem]
      refine SWp.block ?_
      refine SWp.loop (α := Nat × Option Nat × List Int × List UInt8) (fun x => ([(0, .ptr b 0), (1, .fn g []), (19, ci n), (20, ci x.1), (8, outC x.2.1 V.length 1 (x.2.2.1.map ic))], H.set b (some [.sl tk 1 (bs x.2.2.2)]), outV V x.2.1))
        (fun x => x.1 ≤ n ∧ x.2.2.1.length = x.1 ∧ (x.2.1 = none → x.2.2.1 = []) ∧ listP p src = ahead x.2.2.1 (repP p (n - x.1) x.2.2.2) ∧ x.2.2.2.length ≤ 1000000000) (fun x => n - x.1) (0, none, [], s) ⟨Nat.zero_le _, rfl, fun _ => rfl, by unfold listP; rw [hn]; exact (ahead_nil _).symm, by dsimp only; omega⟩
        (Sh.forget (by simp [go_sem]) rfl rfl) ?_
      rintro ⟨i, o, xs, s⟩ ⟨hi, hx, ho, hL, hsl⟩
      dsimp only at hi hx ho hL hsl ⊢
      refine Wp.s ?_
      simp -implicitDefEqProofs [go_sem]
      refine ⟨fun h => ?_, fun h => ?_⟩
      · refine CC.mono (hg _ _ _ _ s hsl (List.getElem?_set_self hbl)) ?_
        intro r H' V' hr
        unfold Rd at hr
        have hnn : n - i = (n - (i + 1)) + 1 := by omega
        rcases hq : p s with e | ⟨a, s'⟩ <;> rw [hq] at hr
        · have he := hp _ _ hq
          obtain ⟨_, s', rfl, rfl, rfl, rfl⟩ := hr
          simp -implicitDefEqProofs [go_sem, he]
          exact Fin.rdErr (by rw [hL, hnn, rep_err hq]) (by exact rfl) (by simp [go_sem]) (.refl _) rfl ht hokH take_set (outV_take _ _)
        · obtain ⟨rfl, rfl, rfl⟩ := hr
          have hs' := hs _ _ _ hq
          have hL' := hL
          rw [hnn, rep_ok hq] at hL'
          have hw := wrap_succ (show i ≤ 1000000000 by omega)
          cases o with
          | none =>
            obtain rfl := ho rfl
            simp -implicitDefEqProofs [go_sem]
            refine ⟨i + 1, some 0, [] ++ [a], s', ⟨by omega, by rw [List.length_append, hx]; rfl, by simp, hL', by omega⟩, by omega, Sh.forget (by simp [go_sem, hw]; exact .refl _) rfl rfl⟩
          | some v =>
            simp -implicitDefEqProofs [go_sem]
            refine ⟨by omega, i + 1, some (v + 1), xs ++ [a], s', ⟨by omega, by rw [List.length_append, hx]; rfl, by simp, hL', by omega⟩, by omega, Sh.forget (by simp [go_sem, hw]; exact .refl _) rfl rfl⟩
      · exact ⟨o, xs, s, ⟨ho, by rw [hL, show n - i = 0 by omega, repP]; simp [ahead]⟩, Sh.forget (by simp [go_sem]) rfl rfl⟩
    · rintro ⟨o, xs, s⟩ ⟨ho, hL⟩
      dsimp only at ho hL ⊢
      refine Wp.s ?_
      simp -implicitDefEqProofs [go_sem]
      exact Fin.rdOk hL (by simp [go_sem]) (by exact outC_le _ _ _ _ (by decide) ho) rfl ht hokH take_set (outV_take _ _)
theorem int_rd (H : Hp) (V : List Nat) (b : Nat) (tk : Tk) (src : List UInt8) (hb : H[b]? = some (some [.sl tk 1 (bs src)])) :
    CC Try.prog 90 [.ptr b 0] H V (Rd b tk (fun n : Int => ci n) (· = ci 0) (intP src) H V) := by
  refine CC.mono (number_rd _ _ _ _ _ hb) fun r H' V' h => ?_
  unfold Rd at h ⊢
  unfold intP
  rcases hq : number src with e | ⟨n, s⟩ <;> rw [hq] at h <;> exact h
theorem ints_rd (H : Hp) (V : List Nat) (b : Nat) (tk : Tk) (src : List UInt8) (hl : src.length ≤ 1000000000) (hb : H[b]? = some (some [.sl tk 1 (bs src)])) :
    CC Try.prog 99 [.ptr b 0] H V (Rd b tk (fun l : List Int => .sl .sh 1 (l.map ic)) (· = .v (.slice none 0 0)) (listP intP src) H V) := by
  have hbl := lt_of_box hb
  refine CC.of_swp Try.func99 rfl (by kernel_rfl) (by rw [Try.ntmps99]; exact len_le _ _ rfl) fun hok hokH => ?_
  have ht := tk_of_box hb hokH
  refine SWp.seq (Wp.s ?_)
  simp -implicitDefEqProofs [go_sem, args0]
  refine Wp.s ?_
  simp -implicitDefEqProofs [go_sem]
  refine CC.mono (listInt_rd _ _ _ _ _ _ _ ne0_int shr_int (fun H V b tk src _ hb => int_rd H V b tk src hb) hl hb) ?_
  intro r H' V' h
  unfold Rd at h
  rcases hn : listP intP src with e | ⟨l, s⟩ <;> rw [hn] at h
  · obtain ⟨_, s, rfl, rfl, rfl, rfl⟩ := h
    simp -implicitDefEqProofs [go_sem]
    exact Fin.rdErr rfl (by exact rfl) (by simp [go_sem]) (.refl _) rfl ht hokH take_set (by simp)
  · obtain ⟨rfl, rfl, rfl⟩ := h
    simp -implicitDefEqProofs [go_sem]
    exact Fin.rdOk rfl (by simp [go_sem]) (.refl _) rfl ht hokH take_set (by simp)
theorem extent_rd (H : Hp) (V : List Nat) (b : Nat) (tk : Tk) (src : List UInt8) (hl : src.length ≤ 1000000000) (hb : H[b]? = some (some [.sl tk 1 (bs src)])) :
    CC Try.prog 94 [.ptr b 0] H V (Rd b tk (fun x : Ext2 => .agg (extC x)) (Ag 2) (extP src) H V) := by
  have hbl := lt_of_box hb
  refine CC.of_swp Try.func94 rfl (by kernel_rfl) (by rw [Try.ntmps94]; exact len_le _ _ rfl) fun hok hokH => ?_
  have ht := tk_of_box hb hokH
  refine SWp.seq (Wp.s ?_)
  simp -implicitDefEqProofs [go_sem, args0]
  refine SWp.seq (Wp.s ?_)
  simp -implicitDefEqProofs [go_sem]
  refine CC.mono (pair_rd _ _ _ _ _ (by rw [List.getElem?_append_left hbl]; exact hb)) ?_
  intro r H' V' h
  unfold Rd3 at h
  rcases hn : pairP src with e | ⟨⟨m, n⟩, s⟩ <;> rw [hn] at h
  · obtain ⟨m, n, s, rfl, rfl, rfl⟩ := h
    simp -implicitDefEqProofs [go_sem, set_left hbl]
    refine Wp.s ?_
    simp -implicitDefEqProofs [go_sem]
    exact Fin.rdErr (by unfold extP; rw [hn]) (by exact ⟨_, rfl, rfl, rfl, fun i j => by simp [go_sem]⟩) (by simp [go_sem]) (.refl _) rfl ht hokH take_set2 (by simp)
  · obtain ⟨rfl, rfl, rfl⟩ := h
    simp -implicitDefEqProofs [go_sem, set_left hbl]
    refine Wp.s ?_
    simp -implicitDefEqProofs [go_sem]
    exact Fin.rdOk (val := fun x : Ext2 => .agg (extC x)) (a := ⟨m, n⟩) (by unfold extP; rw [hn]) (by simp [go_sem]) (.refl _) rfl ht hokH take_set2 (by simp)
theorem listExt_rd (H : Hp) (V : List Nat) (b : Nat) (tk : Tk) (src : List UInt8) (g : Nat) (p : Pr Ext2) (hp : Ne0 p) (hs : Shr p)
    (hg : ∀ (H : Hp) (V : List Nat) (b : Nat) (tk : Tk) (src : List UInt8), src.length ≤ 1000000000 → H[b]? = some (some [.sl tk 1 (bs src)]) → CC Try.prog g [.ptr b 0] H V (Rd b tk (fun a => .agg (extC a)) (Ag 2) (p src) H V))
    (hl : src.length ≤ 1000000000) (hb : H[b]? = some (some [.sl tk 1 (bs src)])) : CC Try.prog 93 [.ptr b 0, .fn g []] H V (Rd b tk (fun l : List Ext2 => .sl .sh 2 (l.map extC)) (· = .v (.slice none 0 0)) (listP p src) H V) := by
  have hbl := lt_of_box hb
  refine CC.of_swp Try.func93 rfl (by kernel_rfl) (by rw [Try.ntmps93]; exact len_le _ _ rfl) fun hok hokH => ?_
  have ht := tk_of_box hb hokH
  clear hok
  refine SWp.seq (Wp.s ?_)
  simp -implicitDefEqProofs [go_sem, args0]
  refine SWp.seq (Wp.s ?_)
  simp -implicitDefEqProofs [go_sem]
  refine CC.mono (length_rd _ _ _ _ _ hb) ?_
  intro r H' V' h
  unfold Rd at h
  rcases hn : lengthP src with e | ⟨n, s⟩ <;> rw [hn] at h
  · obtain ⟨_, s, ⟨n, rfl⟩, rfl, rfl, rfl⟩ := h
    have he := ne0_length _ _ hn
    simp -implicitDefEqProofs [go_sem]
    refine Wp.s ?_
    simp -implicitDefEqProofs [go_sem, he]
    exact Fin.rdErr (by unfold listP; rw [hn]) (by exact rfl) (by simp [go_sem]) (.refl _) rfl ht hokH take_set (by simp)
  · obtain ⟨rfl, rfl, rfl⟩ := h
    have hn5 := length_le hn
    have hls := shr_length _ _ _ hn
    simp -implicitDefEqProofs [go_sem]
    refine SWp.seq (Wp.s ?_)
    simp -implicitDefEqProofs [go_sem]
    refine SWp.seq (Wp.s ?_)
    simp -implicitDefEqProofs [go_sem]
    refine SWp.join (α := Option Nat × List Ext2 × List UInt8) (fun x => ([(8, outC x.1 V.length 2 (x.2.1.map extC))], H.set b (some [.sl tk 1 (bs x.2.2)]), outV V x.1)) (fun x => (x.1 = none → x.2.1 = []) ∧ listP p src = .ok (x.2.1, x.2.2)) ?_ ?_
    · refine SWp.seq (Wp.s ?_)
      simp -implicitDefEqProofs [go_sem]
      refine SWp.block ?_
      refine SWp.loop (α := Nat × Option Nat × List Ext2 × List UInt8) (fun x => ([(0, .ptr b 0), (1, .fn g []), (19, ci n), (20, ci x.1), (8, outC x.2.1 V.length 2 (x.2.2.1.map extC))], H.set b (some [.sl tk 1 (bs x.2.2.2)]), outV V x.2.1))
        (fun x => x.1 ≤ n ∧ x.2.2.1.length = x.1 ∧ (x.2.1 = none → x.2.2.1 = []) ∧ listP p src = ahead x.2.2.1 (repP p (n - x.1) x.2.2.2) ∧ x.2.2.2.length ≤ 1000000000) (fun x => n - x.1) (0, none, [], s) ⟨Nat.zero_le _, rfl, fun _ => rfl, by unfold listP; rw [hn]; exact (ahead_nil _).symm, by dsimp only; omega⟩
        (Sh.forget (by simp [go_sem]) rfl rfl) ?_
      rintro ⟨i, o, xs, s⟩ ⟨hi, hx, ho, hL, hsl⟩
      dsimp only at hi hx ho hL hsl ⊢
      refine Wp.s ?_
      simp -implicitDefEqProofs [go_sem]
      refine ⟨fun h => ?_, fun h => ?_⟩
      · refine CC.mono (hg _ _ _ _ s hsl (List.getElem?_set_self hbl)) ?_
        intro r H' V' hr
        unfold Rd at hr
        have hnn : n - i = (n - (i + 1)) + 1 := by omega
        rcases hq : p s with e | ⟨a, s'⟩ <;> rw [hq] at hr
        · have he := hp _ _ hq
          obtain ⟨_, s', ⟨cs, rfl, hcs, hall, hokc⟩, rfl, rfl, rfl⟩ := hr
          simp -implicitDefEqProofs [go_sem, hcs, hall, he]
          exact Fin.rdErr (by rw [hL, hnn, rep_err hq]) (by exact rfl) (by simp [go_sem]) (.refl _) rfl ht hokH take_set2 (outV_take _ _)
        · obtain ⟨rfl, rfl, rfl⟩ := hr
          have hs' := hs _ _ _ hq
          have hL' := hL
          rw [hnn, rep_ok hq] at hL'
          have hw := wrap_succ (show i ≤ 1000000000 by omega)
          cases o with
          | none =>
            obtain rfl := ho rfl
            simp -implicitDefEqProofs [go_sem]
            refine ⟨i + 1, some 0, [] ++ [a], s', ⟨by omega, by rw [List.length_append, hx]; rfl, by simp, hL', by omega⟩, by omega, Sh.cut H.length (V.length + 1) (by simp [go_sem, hw]) (Nat.le_refl _) (Nat.le_succ _) (by simp [go_sem, hbl, okE_app]) (okH_set ht (Nat.le_succ _) hokH) take_set2 (List.take_of_length_le (by simp [go_sem]))⟩
          | some v =>
            simp -implicitDefEqProofs [go_sem]
            refine ⟨by omega, i + 1, some (v + 1), xs ++ [a], s', ⟨by omega, by rw [List.length_append, hx]; rfl, by simp, hL', by omega⟩, by omega, Sh.cut H.length (V.length + 1) (by simp [go_sem, hw]) (Nat.le_refl _) (Nat.le_succ _) (by simp [go_sem, hbl, okE_app]) (okH_set ht (Nat.le_succ _) hokH) take_set2 (List.take_of_length_le (by simp [go_sem]))⟩
      · exact ⟨o, xs, s, ⟨ho, by rw [hL, show n - i = 0 by omega, repP]; simp [ahead]⟩, Sh.forget (by simp [go_sem]) rfl rfl⟩
    · rintro ⟨o, xs, s⟩ ⟨ho, hL⟩
      dsimp only at ho hL ⊢
      refine Wp.s ?_
      simp -implicitDefEqProofs [go_sem]
      exact Fin.rdOk hL (by simp [go_sem]) (by exact outC_le _ _ _ _ (by decide) ho) rfl ht hokH take_set (outV_take _ _)
theorem extents_rd (H : Hp) (V : List Nat) (b : Nat) (tk : Tk) (src : List UInt8) (hl : src.length ≤ 1000000000) (hb : H[b]? = some (some [.sl tk 1 (bs src)])) :
    CC Try.prog 92 [.ptr b 0] H V (Rd b tk (fun l : List Ext2 => .sl .sh 2 (l.map extC)) (· = .v (.slice none 0 0)) (listP extP src) H V) := by
  have hbl := lt_of_box hb
  refine CC.of_swp Try.func92 rfl (by kernel_rfl) (by rw [Try.ntmps92]; exact len_le _ _ rfl) fun hok hokH => ?_
  have ht := tk_of_box hb hokH
  refine SWp.seq (Wp.s ?_)
  simp -implicitDefEqProofs [go_sem, args0]
  refine Wp.s ?_
  simp -implicitDefEqProofs [go_sem]
  refine CC.mono (listExt_rd _ _ _ _ _ _ _ ne0_ext shr_ext (fun H V b tk src hl hb => extent_rd H V b tk src hl hb) hl hb) ?_
  intro r H' V' h
  unfold Rd at h
  rcases hn : listP extP src with e | ⟨l, s⟩ <;> rw [hn] at h
  · obtain ⟨_, s, rfl, rfl, rfl, rfl⟩ := h
    simp -implicitDefEqProofs [go_sem]
    exact Fin.rdErr rfl (by exact rfl) (by simp [go_sem]) (.refl _) rfl ht hokH take_set (by simp)
  · obtain ⟨rfl, rfl, rfl⟩ := h
    simp -implicitDefEqProofs [go_sem]
    exact Fin.rdOk rfl (by simp [go_sem]) (.refl _) rfl ht hokH take_set (by simp)
end Go.Proofs.Ythakkopnoeinmaa
namespace Go.Proofs.Ythakkopnoeinmaa
open Go.Proofs
abbrev nilC : CV := .v (.slice none 0 0)
theorem readBytes_cc (H : Hp) (V : List Nat) (tk : Tk) (src : List UInt8) (hl : src.length ≤ 1000000000) : CC Try.prog 95 [.sl tk 1 (bs src), .fn 96 []] H V (Pu (rdv (fun l : List UInt8 => .sl .sh 1 (bs l)) nilC (textP src)) H V) := by
  refine CC.of_swp Try.func95 rfl (by kernel_rfl) (by rw [Try.ntmps95]; exact len_le _ _ rfl) fun hok hokH => Wp.s ?_
  simp -implicitDefEqProofs [go_sem, args0]
  refine CC.mono (text_rd _ _ _ _ _ hl (at_len _ _)) ?_
  intro r H' V' h
  unfold Rd at h
  rcases hn : textP src with e | ⟨l, s⟩ <;> rw [hn] at h
  · have he := ne0_text _ _ hn
    obtain ⟨_, s, -, rfl, rfl, rfl⟩ := h
    simp -implicitDefEqProofs [go_sem, he]
    exact Fin.pu (.refl _) (by simp [go_sem, rdv]) hokH (by simp) (by simp)
  · have hs := shr_text _ _ _ hn
    obtain ⟨rfl, rfl, rfl⟩ := h
    simp -implicitDefEqProofs [go_sem]
    refine CC.mono (clone_cc _ _ _ _ (by simp only [bs_len]; omega)) ?_
    rintro _ _ _ ⟨v', rfl, rfl, rfl⟩
    simp -implicitDefEqProofs [go_sem]
    exact Fin.pu (.tup (.cons (.refl _) (.cons (.sh ..) (.cons (.refl _) .nil)))) (by simp [go_sem, rdv]) hokH (by simp) (by simp)
theorem Bytes_cc (H : Hp) (V : List Nat) (tk : Tk) (src : List UInt8) (hl : src.length ≤ 1000000000) : CC Try.prog 77 [.sl tk 1 (bs src)] H V (Pu (rdv (fun l : List UInt8 => .sl .sh 1 (bs l)) nilC (textP src)) H V) := by
  refine CC.of_swp Try.func77 rfl (by kernel_rfl) (by rw [Try.ntmps77]; exact len_le _ _ rfl) fun hok hokH => Wp.s ?_
  simp -implicitDefEqProofs [go_sem, args0]
  refine CC.mono (readBytes_cc _ _ _ _ hl) ?_
  rintro _ _ _ ⟨rfl, rfl, rfl⟩
  rcases hn : textP src with e | ⟨l, s⟩
  · simp -implicitDefEqProofs [go_sem, rdv]
    exact Fin.pu (.refl _) (by simp [go_sem]) hokH (by simp) (by simp)
  · simp -implicitDefEqProofs [go_sem, rdv]
    exact Fin.pu (.refl _) (by simp [go_sem]) hokH (by simp) (by simp)
theorem readInts_cc (H : Hp) (V : List Nat) (tk : Tk) (src : List UInt8) (hl : src.length ≤ 1000000000) : CC Try.prog 98 [.sl tk 1 (bs src), .fn 99 []] H V (Pu (rdv (fun l : List Int => .sl .sh 1 (l.map ic)) nilC (listP intP src)) H V) := by
  refine CC.of_swp Try.func98 rfl (by kernel_rfl) (by rw [Try.ntmps98]; exact len_le _ _ rfl) fun hok hokH => Wp.s ?_
  simp -implicitDefEqProofs [go_sem, args0]
  refine CC.mono (ints_rd _ _ _ _ _ hl (at_len _ _)) ?_
  intro r H' V' h
  unfold Rd at h
  rcases hn : listP intP src with e | ⟨l, s⟩ <;> rw [hn] at h
  · have he := (ne0_list ne0_int) _ _ hn
    obtain ⟨_, s, rfl, rfl, rfl, rfl⟩ := h
    simp -implicitDefEqProofs [go_sem, he]
    exact Fin.pu (.refl _) (by simp [go_sem, rdv]) hokH (by simp) (by simp)
  · have hs := (shr_list shr_int) _ _ _ hn
    obtain ⟨rfl, rfl, rfl⟩ := h
    simp -implicitDefEqProofs [go_sem]
    refine CC.mono (clone_cc _ _ _ _ (by simp only [bs_len]; omega)) ?_
    rintro _ _ _ ⟨v', rfl, rfl, rfl⟩
    simp -implicitDefEqProofs [go_sem]
    exact Fin.pu (.tup (.cons (.refl _) (.cons (.sh ..) (.cons (.refl _) .nil)))) (by simp [go_sem, rdv]) hokH (by simp) (by simp)
theorem Ints_cc (H : Hp) (V : List Nat) (tk : Tk) (src : List UInt8) (hl : src.length ≤ 1000000000) : CC Try.prog 82 [.sl tk 1 (bs src)] H V (Pu (rdv (fun l : List Int => .sl .sh 1 (l.map ic)) nilC (listP intP src)) H V) := by
  refine CC.of_swp Try.func82 rfl (by kernel_rfl) (by rw [Try.ntmps82]; exact len_le _ _ rfl) fun hok hokH => Wp.s ?_
  simp -implicitDefEqProofs [go_sem, args0]
  refine CC.mono (readInts_cc _ _ _ _ hl) ?_
  rintro _ _ _ ⟨rfl, rfl, rfl⟩
  rcases hn : listP intP src with e | ⟨l, s⟩
  · simp -implicitDefEqProofs [go_sem, rdv]
    exact Fin.pu (.refl _) (by simp [go_sem]) hokH (by simp) (by simp)
  · simp -implicitDefEqProofs [go_sem, rdv]
    exact Fin.pu (.refl _) (by simp [go_sem]) hokH (by simp) (by simp)
theorem readExtents_cc (H : Hp) (V : List Nat) (tk : Tk) (src : List UInt8) (hl : src.length ≤ 1000000000) : CC Try.prog 91 [.sl tk 1 (bs src), .fn 92 []] H V (Pu (rdv (fun l : List Ext2 => .sl .sh 2 (l.map extC)) nilC (listP extP src)) H V) := by
  refine CC.of_swp Try.func91 rfl (by kernel_rfl) (by rw [Try.ntmps91]; exact len_le _ _ rfl) fun hok hokH => Wp.s ?_
  simp -implicitDefEqProofs [go_sem, args0]
  refine CC.mono (extents_rd _ _ _ _ _ hl (at_len _ _)) ?_
  intro r H' V' h
  unfold Rd at h
  rcases hn : listP extP src with e | ⟨l, s⟩ <;> rw [hn] at h
  · have he := (ne0_list ne0_ext) _ _ hn
    obtain ⟨_, s, rfl, rfl, rfl, rfl⟩ := h
    simp -implicitDefEqProofs [go_sem, he]
    exact Fin.pu (.refl _) (by simp [go_sem, rdv]) hokH (by simp) (by simp)
  · have hs := (shr_list shr_ext) _ _ _ hn
    obtain ⟨rfl, rfl, rfl⟩ := h
    simp -implicitDefEqProofs [go_sem]
    refine CC.mono (clone_cc _ _ _ _ (by simp only [bs_len]; omega)) ?_
    rintro _ _ _ ⟨v', rfl, rfl, rfl⟩
    simp -implicitDefEqProofs [go_sem]
    exact Fin.pu (.tup (.cons (.refl _) (.cons (.sh ..) (.cons (.refl _) .nil)))) (by simp [go_sem, rdv]) hokH (by simp) (by simp)
theorem Extents_cc (H : Hp) (V : List Nat) (tk : Tk) (src : List UInt8) (hl : src.length ≤ 1000000000) : CC Try.prog 75 [.sl tk 1 (bs src)] H V (Pu (rdv (fun l : List Ext2 => .sl .sh 2 (l.map extC)) nilC (listP extP src)) H V) := by
  refine CC.of_swp Try.func75 rfl (by kernel_rfl) (by rw [Try.ntmps75]; exact len_le _ _ rfl) fun hok hokH => Wp.s ?_
  simp -implicitDefEqProofs [go_sem, args0]
  refine CC.mono (readExtents_cc _ _ _ _ hl) ?_
  rintro _ _ _ ⟨rfl, rfl, rfl⟩
  rcases hn : listP extP src with e | ⟨l, s⟩
  · simp -implicitDefEqProofs [go_sem, rdv]
    exact Fin.pu (.refl _) (by simp [go_sem]) hokH (by simp) (by simp)
  · simp -implicitDefEqProofs [go_sem, rdv]
    exact Fin.pu (.refl _) (by simp [go_sem]) hokH (by simp) (by simp)
end Go.Proofs.Ythakkopnoeinmaa
