import Derived.Test.YthakkopnoeinmaaA10
import Derived.Test.YthakkopnoeinmaaA9
set_option linter.unusedSimpArgs false
set_option linter.unusedVariables false
namespace Go.Proofs.Ythakkopnoeinmaa
/-! ### Plain: what is put is read again; beginnings are torn; what is read, put again -/
theorem numG_enc : ∀ (m f i n : Nat) (r : List UInt8), (0 < i → 0 < m) → n + m * 128 ^ i ≤ 9007199254740991 → (encN m).length ≤ f → numG f i n (encN m ++ r) = .ok (n + m * 128 ^ i, r) := by
  intro m
  induction m using Nat.strongRecOn with
  | ind m ih =>
    intro f i n r h0 h1 h2
    cases f with
    | zero => have := encN_pos m; omega
    | succ f =>
      by_cases hm : m < 128
      · have hb : (UInt8.ofNat m).toNat = m := by rw [UInt8.toNat_ofNat']; omega
        rw [encN_lt hm, List.cons_append, List.nil_append, numG, hb, if_pos hm, if_neg (by omega)]
      · have hb : (UInt8.ofNat (m % 128 + 128)).toNat = m % 128 + 128 := by rw [UInt8.toNat_ofNat']; omega
        have e1 : (m % 128 + 128) % 128 = m % 128 := by omega
        have e2 : n + m % 128 * 128 ^ i + m / 128 * 128 ^ (i + 1) = n + m * 128 ^ i := by
          have h3 : m = m % 128 + m / 128 * 128 := by omega
          have h4 : m * 128 ^ i = m % 128 * 128 ^ i + m / 128 * 128 * 128 ^ i := by rw [← Nat.add_mul, ← h3]
          have h5 : m / 128 * 128 ^ (i + 1) = m / 128 * 128 * 128 ^ i := by rw [Nat.pow_succ, Nat.mul_comm (128 ^ i), Nat.mul_assoc]
          omega
        rw [encN_ge (n := m) (by omega), List.length_cons] at h2
        rw [encN_ge (n := m) (by omega), List.cons_append, numG, hb, if_neg (by omega), e1, ih (m / 128) (by omega) f (i + 1) _ r (by omega) (by rw [e2]; exact h1) (by omega), e2]
theorem number_enc (n : Int) (r : List UInt8) : number (enc n ++ r) = .ok (norm n, r) := by
  have h := numG_enc (norm n) 8 0 0 r (by omega) (by have := norm_lt n; omega) (enc_len n)
  rw [number, enc, h]; simp
theorem numG_once : ∀ (f i n : Nat) (s : List UInt8) {m : Nat} {r : List UInt8}, numG f i n s = .ok (m, r) → ∃ q, m = n + q * 128 ^ i ∧ s = encN q ++ r ∧ (0 < i → 0 < q) ∧ m ≤ 9007199254740991
  | 0, _, _, _, _, _, h => by rw [numG] at h; cases h
  | f + 1, _, _, [], _, _, h => by rw [numG] at h; cases h
  | f + 1, i, n, b :: s, m, r, h => by
    rw [numG] at h
    have hb := b.toNat_lt
    split at h
    · rename_i h1
      split at h
      · cases h
      · rename_i h2
        cases h
        refine ⟨b.toNat, rfl, ?_, by omega, by omega⟩
        rw [encN_lt h1, UInt8.ofNat_toNat]; rfl
    · rename_i h1
      obtain ⟨q, h3, h4, h5, h6⟩ := numG_once f _ _ s h
      have hq : 0 < q := h5 (by omega)
      refine ⟨b.toNat % 128 + q * 128, ?_, ?_, by omega, h6⟩
      · rw [h3, Nat.add_mul, Nat.pow_succ, Nat.mul_comm (128 ^ i), Nat.mul_assoc]; omega
      · rw [encN_ge (by omega), show (b.toNat % 128 + q * 128) % 128 + 128 = b.toNat by omega, show (b.toNat % 128 + q * 128) / 128 = q by omega, UInt8.ofNat_toNat, h4]; rfl
theorem enc_nat {m : Nat} (h : m ≤ 9007199254740991) : enc (m : Int) = encN m := by
  rw [enc, norm, if_neg (by omega)]; rfl
theorem number_once {s r : List UInt8} {m : Nat} (h : number s = .ok (m, r)) : s = enc m ++ r ∧ m ≤ 9007199254740991 := by
  obtain ⟨q, h1, h2, _, h4⟩ := numG_once 8 0 0 s h
  have : m = q := by simpa using h1
  subst this
  exact ⟨by rw [enc_nat h4]; exact h2, h4⟩
theorem numG_tear : ∀ (m f i n k : Nat), k < (encN m).length → (encN m).length ≤ f → numG f i n ((encN m).take k) = .error 10 := by
  intro m
  induction m using Nat.strongRecOn with
  | ind m ih =>
    intro f i n k hk hf
    cases f with
    | zero => omega
    | succ f =>
      cases k with
      | zero => rw [List.take_zero, numG]
      | succ k =>
        by_cases hm : m < 128
        · rw [encN_lt hm] at hk; simp at hk
        · have hb : (UInt8.ofNat (m % 128 + 128)).toNat = m % 128 + 128 := by rw [UInt8.toNat_ofNat']; omega
          rw [encN_ge (n := m) (by omega), List.length_cons] at hk hf
          rw [encN_ge (n := m) (by omega), List.take_succ_cons, numG, hb, if_neg (by omega)]
          exact ih (m / 128) (by omega) f _ _ k (by omega) (by omega)
theorem number_tear (n : Int) (k : Nat) (h : k < (enc n).length) : number ((enc n).take k) = .error 10 := numG_tear _ _ _ _ _ h (enc_len n)

/-- What is put is read again. -/
def RT {α : Type} (p : Pr α) (e : α → List UInt8) (h : α → α) (A : α → Prop) : Prop := ∀ a r, A a → p (e a ++ r) = .ok (h a, r)
/-- Beginnings are torn. -/
def TR {α : Type} (p : Pr α) (e : α → List UInt8) (A : α → Prop) : Prop := ∀ a k, A a → k < (e a).length → p ((e a).take k) = .error 10
/-- What is read, put again. -/
def ON {α : Type} (p : Pr α) (e : α → List UInt8) : Prop := ∀ s a r, p s = .ok (a, r) → s = e a ++ r
section
variable {α : Type} {p : Pr α} {e : α → List UInt8} {h : α → α} {A : α → Prop}
theorem rep_rt (hp : RT p e h A) : ∀ (l : List α) (r : List UInt8), (∀ a ∈ l, A a) → repP p l.length (l.flatMap e ++ r) = .ok (l.map h, r)
  | [], r, _ => by rw [List.length_nil, repP]; rfl
  | a :: l, r, hA => by
    rw [List.length_cons, repP, List.flatMap_cons, List.append_assoc, hp _ _ (hA a (by simp))]
    dsimp only
    rw [rep_rt hp l r fun b hb => hA b (List.mem_cons_of_mem _ hb)]; rfl
theorem rep_tr (hp : RT p e h A) (ht : TR p e A) : ∀ (l : List α) (k : Nat), (∀ a ∈ l, A a) → k < (l.flatMap e).length → repP p l.length ((l.flatMap e).take k) = .error 10
  | [], k, _, hk => by simp at hk
  | a :: l, k, hA, hk => by
    rw [List.flatMap_cons, List.length_append] at hk
    rw [List.length_cons, repP, List.flatMap_cons]
    by_cases h1 : k < (e a).length
    · rw [List.take_append_of_le_length (by omega), ht _ _ (hA a (by simp)) h1]
    · rw [List.take_append, List.take_of_length_le (by omega), hp _ _ (hA a (by simp))]
      dsimp only
      rw [rep_tr hp ht l _ (fun b hb => hA b (List.mem_cons_of_mem _ hb)) (by omega)]
theorem rep_on (hp : ON p e) : ∀ (n : Nat) (s : List UInt8) (l : List α) (r : List UInt8), repP p n s = .ok (l, r) → s = l.flatMap e ++ r ∧ l.length = n
  | 0, s, l, r, hq => by rw [repP] at hq; cases hq; exact ⟨rfl, rfl⟩
  | n + 1, s, l, r, hq => by
    rw [repP] at hq
    split at hq
    · cases hq
    · rename_i a s1 h1
      split at hq
      · cases hq
      · rename_i l1 s2 h2
        cases hq
        obtain ⟨h3, h4⟩ := rep_on hp n _ _ _ h2
        exact ⟨by rw [hp _ _ _ h1, h3, List.flatMap_cons, List.append_assoc], by rw [List.length_cons, h4]⟩
theorem length_rt (n : Nat) (r : List UInt8) (hn : n ≤ 65536) : lengthP (enc n ++ r) = .ok (n, r) := by
  unfold lengthP
  rw [number_enc]
  have : norm (n : Int) = n := by unfold norm; rw [if_neg (by omega)]; rfl
  dsimp only
  rw [this, if_neg (by omega)]
theorem length_tr (n : Int) (k : Nat) (h : k < (enc n).length) : lengthP ((enc n).take k) = .error 10 := by
  unfold lengthP
  rw [number_tear _ _ h]
theorem length_on {s r : List UInt8} {n : Nat} (h : lengthP s = .ok (n, r)) : s = enc n ++ r := by
  unfold lengthP at h
  split at h
  · cases h
  · rename_i h1
    split at h
    · cases h
    · cases h; exact (number_once h1).1
theorem list_rt (hp : RT p e h A) : ∀ (l : List α) (r : List UInt8), (l.length ≤ 65536 ∧ ∀ a ∈ l, A a) → listP p ((enc l.length ++ l.flatMap e) ++ r) = .ok (l.map h, r) := by
  intro l r ⟨hl, hA⟩
  unfold listP
  rw [List.append_assoc, length_rt _ _ hl]
  dsimp only
  exact rep_rt hp l r hA
theorem list_tr (hp : RT p e h A) (ht : TR p e A) : ∀ (l : List α) (k : Nat), (l.length ≤ 65536 ∧ ∀ a ∈ l, A a) → k < (enc l.length ++ l.flatMap e).length → listP p ((enc l.length ++ l.flatMap e).take k) = .error 10 := by
  intro l k ⟨hl, hA⟩ hk
  unfold listP
  rw [List.length_append] at hk
  by_cases h1 : k < (enc l.length).length
  · rw [List.take_append_of_le_length (by omega), length_tr _ _ h1]
  · rw [List.take_append, List.take_of_length_le (by omega), length_rt _ _ hl]
    dsimp only
    exact rep_tr hp ht l _ hA (by omega)
theorem list_on (hp : ON p e) : ON (listP p) fun l => enc l.length ++ l.flatMap e := by
  intro s l r hq
  unfold listP at hq
  split at hq
  · cases hq
  · rename_i h1
    obtain ⟨h2, h3⟩ := rep_on hp _ _ _ _ hq
    rw [length_on h1, h2, ← h3, List.append_assoc]
end
theorem int_rt : RT intP enc (fun n => (norm n : Int)) fun _ => True := fun a r _ => by unfold intP; rw [number_enc]
theorem int_tr : TR intP enc fun _ => True := fun a k _ h => by unfold intP; rw [number_tear _ _ h]
theorem int_on : ON intP enc := fun s a r h => by
  unfold intP at h
  split at h
  · cases h
  · rename_i h1; cases h; exact (number_once h1).1
theorem Sec.same {a b : Sec} (h : a.val = b.val) : a = b := by
  cases a; cases b; cases h; rfl
theorem sec_rt : RT secP Sec.val id fun _ => True := fun a r _ => by
  have := a.len
  unfold secP
  rw [dif_neg (by rw [List.length_append]; omega)]
  have h1 : (a.val ++ r).take 8 = a.val := by rw [List.take_append_of_le_length (by omega), List.take_of_length_le (by omega)]
  have h2 : (a.val ++ r).drop 8 = r := by rw [← a.len, List.drop_left]
  rw [h2]
  congr 2
  exact Sec.same h1
theorem sec_tr : TR secP Sec.val fun _ => True := fun a k _ h => by
  have := a.len
  unfold secP
  rw [dif_pos (by rw [List.length_take]; omega)]
theorem sec_on : ON secP Sec.val := fun s a r h => by
  unfold secP at h
  split at h
  · cases h
  · cases h; exact (List.take_append_drop 8 s).symm
theorem pair_rt (a b : Int) (r : List UInt8) : pairP (enc a ++ enc b ++ r) = .ok ((norm a, norm b), r) := by
  unfold pairP
  rw [List.append_assoc, number_enc]
  dsimp only
  rw [number_enc]
theorem pair_tr (a b : Int) (k : Nat) (h : k < (enc a ++ enc b).length) : pairP ((enc a ++ enc b).take k) = .error 10 := by
  unfold pairP
  rw [List.length_append] at h
  by_cases h1 : k < (enc a).length
  · rw [List.take_append_of_le_length (by omega), number_tear _ _ h1]
  · rw [List.take_append, List.take_of_length_le (by omega), number_enc]
    dsimp only
    rw [number_tear _ _ (by omega)]
theorem pair_on {s r : List UInt8} {a b : Nat} (h : pairP s = .ok ((a, b), r)) : s = enc a ++ enc b ++ r := by
  unfold pairP at h
  split at h
  · cases h
  · rename_i h1
    split at h
    · cases h
    · rename_i h2; cases h
      rw [(number_once h1).1, (number_once h2).1, List.append_assoc]
theorem ext_rt : RT extP encExt (fun x => ⟨norm x.start, norm x.count⟩) fun _ => True := fun a r _ => by unfold extP encExt; rw [pair_rt]
theorem ext_on : ON extP encExt := fun s a r h => by
  unfold extP at h
  split at h
  · cases h
  · rename_i h1; cases h; exact pair_on h1
theorem wr_rt : RT wrP encWr (fun x => ⟨norm x.volume, norm x.start, x.data⟩) fun x => x.data.length ≤ 65536 := fun x r hx => by
  unfold wrP encWr encSecs
  rw [List.append_assoc, pair_rt]
  dsimp only
  rw [list_rt sec_rt _ _ ⟨hx, fun _ _ => trivial⟩, List.map_id]
theorem wr_tr : TR wrP encWr fun x => x.data.length ≤ 65536 := fun x k hx h => by
  unfold wrP
  unfold encWr encSecs at h ⊢
  rw [List.length_append] at h
  by_cases h1 : k < (enc x.volume ++ enc x.start).length
  · rw [List.take_append_of_le_length (by omega), pair_tr _ _ _ h1]
  · rw [List.take_append, List.take_of_length_le (by omega), pair_rt]
    dsimp only
    rw [list_tr sec_rt sec_tr _ _ ⟨hx, fun _ _ => trivial⟩ (by omega)]
theorem wr_on : ON wrP encWr := fun s a r h => by
  unfold wrP at h
  split at h
  · cases h
  · rename_i h1
    split at h
    · cases h
    · rename_i h2; cases h
      unfold encWr encSecs
      rw [pair_on h1, list_on sec_on _ _ _ h2]
      simp only [List.append_assoc]
theorem text_rt (b r : List UInt8) (h : b.length ≤ 65536) : textP (encBytes b ++ r) = .ok (b, r) := by
  unfold textP encBytes
  rw [List.append_assoc, length_rt _ _ h]
  dsimp only
  unfold takeP
  rw [if_neg (by rw [List.length_append]; omega), List.take_left, List.drop_left]
theorem text_on : ON textP encBytes := fun s a r h => by
  unfold textP at h
  split at h
  · cases h
  · rename_i n s1 h1
    unfold takeP at h
    split at h
    · cases h
    · rename_i h2; cases h
      unfold encBytes
      rw [length_on h1, List.length_take, Nat.min_eq_left (by omega), List.append_assoc, List.take_append_drop]
end Go.Proofs.Ythakkopnoeinmaa
