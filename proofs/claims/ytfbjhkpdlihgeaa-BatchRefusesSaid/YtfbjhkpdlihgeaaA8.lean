import Derived.Test.YtfbjhkpdlihgeaaA4
import Derived.Test.YtfbjhkpdlihgeaaA6
import Derived.Test.YtfbjhkpdlihgeaaA7
set_option linter.unusedSimpArgs false
set_option linter.unusedVariables false
set_option linter.unusedSectionVars false
namespace Go.Proofs.Ytfbjhkpdlihgeaa
theorem encN_pos : ∀ n, 0 < (encN n).length := fun n => by
  by_cases h : n < 128
  · rw [encN_lt h]; simp
  · rw [encN_ge (by omega)]; simp
/-! ### Plain: what is put is read again; beginnings are torn; what is read, put again -/
theorem numG_enc : ∀ (m f i n : Nat) (r : List UInt8), (0 < i → 0 < m) → n + m * 128 ^ i ≤ 9007199254740991 → (encN m).length ≤ f → numG f i n (encN m ++ r) = .ok (n + m * 128 ^ i, r) := by
  intro m
  induction m using Nat.strongRecOn with
  | ind m ih =>
    intro f i n r h0 h1 h2
    cases f with
    | zero => have := encN_pos m; omega
    | succ f =>
      by_cases hm : m < 128
      · have hb : (UInt8.ofNat m).toNat = m := by rw [UInt8.toNat_ofNat']; omega
        rw [encN_lt hm, List.cons_append, List.nil_append, numG, hb, if_pos hm, if_neg (by omega)]
      · have hb : (UInt8.ofNat (m % 128 + 128)).toNat = m % 128 + 128 := by rw [UInt8.toNat_ofNat']; omega
        have e1 : (m % 128 + 128) % 128 = m % 128 := by omega
        have e2 : n + m % 128 * 128 ^ i + m / 128 * 128 ^ (i + 1) = n + m * 128 ^ i := by
          have h3 : m = m % 128 + m / 128 * 128 := by omega
          have h4 : m * 128 ^ i = m % 128 * 128 ^ i + m / 128 * 128 * 128 ^ i := by rw [← Nat.add_mul, ← h3]
          have h5 : m / 128 * 128 ^ (i + 1) = m / 128 * 128 * 128 ^ i := by rw [Nat.pow_succ, Nat.mul_comm (128 ^ i), Nat.mul_assoc]
          omega
        rw [encN_ge (n := m) (by omega), List.length_cons] at h2
        rw [encN_ge (n := m) (by omega), List.cons_append, numG, hb, if_neg (by omega), e1, ih (m / 128) (by omega) f (i + 1) _ r (by omega) (by rw [e2]; exact h1) (by omega), e2]
theorem number_enc (n : Int) (r : List UInt8) : number (enc n ++ r) = .ok (norm n, r) := by
  have h := numG_enc (norm n) 8 0 0 r (by omega) (by have := norm_lt n; omega) (enc_len n)
  rw [number, enc, h]; simp
theorem numG_once : ∀ (f i n : Nat) (s : List UInt8) {m : Nat} {r : List UInt8}, numG f i n s = .ok (m, r) → ∃ q, m = n + q * 128 ^ i ∧ s = encN q ++ r ∧ (0 < i → 0 < q) ∧ m ≤ 9007199254740991
  | 0, _, _, _, _, _, h => by rw [numG] at h; cases h
  | f + 1, _, _, [], _, _, h => by rw [numG] at h; cases h
  | f + 1, i, n, b :: s, m, r, h => by
    rw [numG] at h
    have hb := b.toNat_lt
    split at h
    · rename_i h1
      split at h
      · cases h
      · rename_i h2
        cases h
        refine ⟨b.toNat, rfl, ?_, by omega, by omega⟩
        rw [encN_lt h1, UInt8.ofNat_toNat]; rfl
    · rename_i h1
      obtain ⟨q, h3, h4, h5, h6⟩ := numG_once f _ _ s h
      have hq : 0 < q := h5 (by omega)
      refine ⟨b.toNat % 128 + q * 128, ?_, ?_, by omega, h6⟩
      · rw [h3, Nat.add_mul, Nat.pow_succ, Nat.mul_comm (128 ^ i), Nat.mul_assoc]; omega
      · rw [encN_ge (by omega), show (b.toNat % 128 + q * 128) % 128 + 128 = b.toNat by omega, show (b.toNat % 128 + q * 128) / 128 = q by omega, UInt8.ofNat_toNat, h4]; rfl
theorem enc_nat {m : Nat} (h : m ≤ 9007199254740991) : enc (m : Int) = encN m := by
  rw [enc, norm, if_neg (by omega)]; rfl
theorem number_once {s r : List UInt8} {m : Nat} (h : number s = .ok (m, r)) : s = enc m ++ r ∧ m ≤ 9007199254740991 := by
  obtain ⟨q, h1, h2, _, h4⟩ := numG_once 8 0 0 s h
  have : m = q := by simpa using h1
  subst this
  exact ⟨by rw [enc_nat h4]; exact h2, h4⟩
theorem numG_tear : ∀ (m f i n k : Nat), k < (encN m).length → (encN m).length ≤ f → numG f i n ((encN m).take k) = .error 10 := by
  intro m
  induction m using Nat.strongRecOn with
  | ind m ih =>
    intro f i n k hk hf
    cases f with
    | zero => omega
    | succ f =>
      cases k with
      | zero => rw [List.take_zero, numG]
      | succ k =>
        by_cases hm : m < 128
        · rw [encN_lt hm] at hk; simp at hk
        · have hb : (UInt8.ofNat (m % 128 + 128)).toNat = m % 128 + 128 := by rw [UInt8.toNat_ofNat']; omega
          rw [encN_ge (n := m) (by omega), List.length_cons] at hk hf
          rw [encN_ge (n := m) (by omega), List.take_succ_cons, numG, hb, if_neg (by omega)]
          exact ih (m / 128) (by omega) f _ _ k (by omega) (by omega)
theorem number_tear (n : Int) (k : Nat) (h : k < (enc n).length) : number ((enc n).take k) = .error 10 := numG_tear _ _ _ _ _ h (enc_len n)

/-- What is put is read again. -/
def RT {α : Type} (p : Pr α) (e : α → List UInt8) (h : α → α) (A : α → Prop) : Prop := ∀ a r, A a → p (e a ++ r) = .ok (h a, r)
/-- Beginnings are torn. -/
def TR {α : Type} (p : Pr α) (e : α → List UInt8) (A : α → Prop) : Prop := ∀ a k, A a → k < (e a).length → p ((e a).take k) = .error 10
/-- What is read, put again. -/
def ON {α : Type} (p : Pr α) (e : α → List UInt8) : Prop := ∀ s a r, p s = .ok (a, r) → s = e a ++ r
section
variable {α : Type} {p : Pr α} {e : α → List UInt8} {h : α → α} {A : α → Prop}
theorem rep_rt (hp : RT p e h A) : ∀ (l : List α) (r : List UInt8), (∀ a ∈ l, A a) → repP p l.length (l.flatMap e ++ r) = .ok (l.map h, r)
  | [], r, _ => by rw [List.length_nil, repP]; rfl
  | a :: l, r, hA => by
    rw [List.length_cons, repP, List.flatMap_cons, List.append_assoc, hp _ _ (hA a (by simp))]
    dsimp only
    rw [rep_rt hp l r fun b hb => hA b (List.mem_cons_of_mem _ hb)]; rfl
theorem rep_tr (hp : RT p e h A) (ht : TR p e A) : ∀ (l : List α) (k : Nat), (∀ a ∈ l, A a) → k < (l.flatMap e).length → repP p l.length ((l.flatMap e).take k) = .error 10
  | [], k, _, hk => by simp at hk
  | a :: l, k, hA, hk => by
    rw [List.flatMap_cons, List.length_append] at hk
    rw [List.length_cons, repP, List.flatMap_cons]
    by_cases h1 : k < (e a).length
    · rw [List.take_append_of_le_length (by omega), ht _ _ (hA a (by simp)) h1]
    · rw [List.take_append, List.take_of_length_le (by omega), hp _ _ (hA a (by simp))]
      dsimp only
      rw [rep_tr hp ht l _ (fun b hb => hA b (List.mem_cons_of_mem _ hb)) (by omega)]
theorem rep_on (hp : ON p e) : ∀ (n : Nat) (s : List UInt8) (l : List α) (r : List UInt8), repP p n s = .ok (l, r) → s = l.flatMap e ++ r ∧ l.length = n
  | 0, s, l, r, hq => by rw [repP] at hq; cases hq; exact ⟨rfl, rfl⟩
  | n + 1, s, l, r, hq => by
    rw [repP] at hq
    split at hq
    · cases hq
    · rename_i a s1 h1
      split at hq
      · cases hq
      · rename_i l1 s2 h2
        cases hq
        obtain ⟨h3, h4⟩ := rep_on hp n _ _ _ h2
        exact ⟨by rw [hp _ _ _ h1, h3, List.flatMap_cons, List.append_assoc], by rw [List.length_cons, h4]⟩
theorem length_rt (n : Nat) (r : List UInt8) (hn : n ≤ 65536) : lengthP (enc n ++ r) = .ok (n, r) := by
  unfold lengthP
  rw [number_enc]
  have : norm (n : Int) = n := by unfold norm; rw [if_neg (by omega)]; rfl
  dsimp only
  rw [this, if_neg (by omega)]
theorem length_tr (n : Int) (k : Nat) (h : k < (enc n).length) : lengthP ((enc n).take k) = .error 10 := by
  unfold lengthP
  rw [number_tear _ _ h]
theorem length_on {s r : List UInt8} {n : Nat} (h : lengthP s = .ok (n, r)) : s = enc n ++ r := by
  unfold lengthP at h
  split at h
  · cases h
  · rename_i h1
    split at h
    · cases h
    · cases h; exact (number_once h1).1
theorem list_rt (hp : RT p e h A) : ∀ (l : List α) (r : List UInt8), (l.length ≤ 65536 ∧ ∀ a ∈ l, A a) → listP p ((enc l.length ++ l.flatMap e) ++ r) = .ok (l.map h, r) := by
  intro l r ⟨hl, hA⟩
  unfold listP
  rw [List.append_assoc, length_rt _ _ hl]
  dsimp only
  exact rep_rt hp l r hA
theorem list_tr (hp : RT p e h A) (ht : TR p e A) : ∀ (l : List α) (k : Nat), (l.length ≤ 65536 ∧ ∀ a ∈ l, A a) → k < (enc l.length ++ l.flatMap e).length → listP p ((enc l.length ++ l.flatMap e).take k) = .error 10 := by
  intro l k ⟨hl, hA⟩ hk
  unfold listP
  rw [List.length_append] at hk
  by_cases h1 : k < (enc l.length).length
  · rw [List.take_append_of_le_length (by omega), length_tr _ _ h1]
  · rw [List.take_append, List.take_of_length_le (by omega), length_rt _ _ hl]
    dsimp only
    exact rep_tr hp ht l _ hA (by omega)
theorem list_on (hp : ON p e) : ON (listP p) fun l => enc l.length ++ l.flatMap e := by
  intro s l r hq
  unfold listP at hq
  split at hq
  · cases hq
  · rename_i h1
    obtain ⟨h2, h3⟩ := rep_on hp _ _ _ _ hq
    rw [length_on h1, h2, ← h3, List.append_assoc]
end
theorem int_rt : RT intP enc (fun n => (norm n : Int)) fun _ => True := fun a r _ => by unfold intP; rw [number_enc]
theorem int_tr : TR intP enc fun _ => True := fun a k _ h => by unfold intP; rw [number_tear _ _ h]
theorem int_on : ON intP enc := fun s a r h => by
  unfold intP at h
  split at h
  · cases h
  · rename_i h1; cases h; exact (number_once h1).1
theorem Sec.same {a b : Sec} (h : a.val = b.val) : a = b := by
  cases a; cases b; cases h; rfl
theorem sec_rt : RT secP Sec.val id fun _ => True := fun a r _ => by
  have := a.len
  unfold secP
  rw [dif_neg (by rw [List.length_append]; omega)]
  have h1 : (a.val ++ r).take 8 = a.val := by rw [List.take_append_of_le_length (by omega), List.take_of_length_le (by omega)]
  have h2 : (a.val ++ r).drop 8 = r := by rw [← a.len, List.drop_left]
  rw [h2]
  congr 2
  exact Sec.same h1
theorem sec_tr : TR secP Sec.val fun _ => True := fun a k _ h => by
  have := a.len
  unfold secP
  rw [dif_pos (by rw [List.length_take]; omega)]
theorem sec_on : ON secP Sec.val := fun s a r h => by
  unfold secP at h
  split at h
  · cases h
  · cases h; exact (List.take_append_drop 8 s).symm
theorem pair_rt (a b : Int) (r : List UInt8) : pairP (enc a ++ enc b ++ r) = .ok ((norm a, norm b), r) := by
  unfold pairP
  rw [List.append_assoc, number_enc]
  dsimp only
  rw [number_enc]
theorem pair_tr (a b : Int) (k : Nat) (h : k < (enc a ++ enc b).length) : pairP ((enc a ++ enc b).take k) = .error 10 := by
  unfold pairP
  rw [List.length_append] at h
  by_cases h1 : k < (enc a).length
  · rw [List.take_append_of_le_length (by omega), number_tear _ _ h1]
  · rw [List.take_append, List.take_of_length_le (by omega), number_enc]
    dsimp only
    rw [number_tear _ _ (by omega)]
theorem pair_on {s r : List UInt8} {a b : Nat} (h : pairP s = .ok ((a, b), r)) : s = enc a ++ enc b ++ r := by
  unfold pairP at h
  split at h
  · cases h
  · rename_i h1
    split at h
    · cases h
    · rename_i h2; cases h
      rw [(number_once h1).1, (number_once h2).1, List.append_assoc]
theorem ext_rt : RT extP encExt (fun x => ⟨norm x.start, norm x.count⟩) fun _ => True := fun a r _ => by unfold extP encExt; rw [pair_rt]
theorem ext_on : ON extP encExt := fun s a r h => by
  unfold extP at h
  split at h
  · cases h
  · rename_i h1; cases h; exact pair_on h1
theorem wr_rt : RT wrP encWr (fun x => ⟨norm x.volume, norm x.start, x.data⟩) fun x => x.data.length ≤ 65536 := fun x r hx => by
  unfold wrP encWr encSecs
  rw [List.append_assoc, pair_rt]
  dsimp only
  rw [list_rt sec_rt _ _ ⟨hx, fun _ _ => trivial⟩, List.map_id]
theorem wr_tr : TR wrP encWr fun x => x.data.length ≤ 65536 := fun x k hx h => by
  unfold wrP
  unfold encWr encSecs at h ⊢
  rw [List.length_append] at h
  by_cases h1 : k < (enc x.volume ++ enc x.start).length
  · rw [List.take_append_of_le_length (by omega), pair_tr _ _ _ h1]
  · rw [List.take_append, List.take_of_length_le (by omega), pair_rt]
    dsimp only
    rw [list_tr sec_rt sec_tr _ _ ⟨hx, fun _ _ => trivial⟩ (by omega)]
theorem wr_on : ON wrP encWr := fun s a r h => by
  unfold wrP at h
  split at h
  · cases h
  · rename_i h1
    split at h
    · cases h
    · rename_i h2; cases h
      unfold encWr encSecs
      rw [pair_on h1, list_on sec_on _ _ _ h2]
      simp only [List.append_assoc]
theorem text_rt (b r : List UInt8) (h : b.length ≤ 65536) : textP (encBytes b ++ r) = .ok (b, r) := by
  unfold textP encBytes
  rw [List.append_assoc, length_rt _ _ h]
  dsimp only
  unfold takeP
  rw [if_neg (by rw [List.length_append]; omega), List.take_left, List.drop_left]
theorem text_on : ON textP encBytes := fun s a r h => by
  unfold textP at h
  split at h
  · cases h
  · rename_i n s1 h1
    unfold takeP at h
    split at h
    · cases h
    · rename_i h2; cases h
      unfold encBytes
      rw [length_on h1, List.length_take, Nat.min_eq_left (by omega), List.append_assoc, List.take_append_drop]
end Go.Proofs.Ytfbjhkpdlihgeaa
namespace Go.Proofs.Ytfbjhkpdlihgeaa
theorem chkW_all {f : Wr → Nat} : ∀ (p : Option Wr) (l : List Wr), chkW f p l = 0 → ∀ w ∈ l, f w = 0
  | _, [], _, w, hw => by cases hw
  | none, x :: l, h, w, hw => by
    rw [chkW] at h
    split at h
    · rename_i q; exact absurd h q
    · rename_i q
      rcases List.mem_cons.1 hw with rfl | hw
      · exact Classical.not_not.1 q
      · exact chkW_all _ l h w hw
  | some y, x :: l, h, w, hw => by
    rw [chkW] at h
    split at h
    · rename_i q; exact absurd h q
    · rename_i q
      split at h
      · cases h
      · rcases List.mem_cons.1 hw with rfl | hw
        · exact Classical.not_not.1 q
        · exact chkW_all _ l h w hw
theorem fitsS_most {w : Wr} (h : fitsS mostS w = 0) : 0 ≤ w.volume ∧ w.volume < 8 ∧ 0 ≤ w.start ∧ w.start ≤ 4096 ∧ w.data.length ≤ 4096 ∧ 1 ≤ w.data.length := by
  have hl : (mostS.length : Int) = 8 := by kernel_rfl
  unfold fitsS at h
  split at h
  · cases h
  · rename_i h1
    split at h
    · cases h
    · rename_i h2
      split at h
      · cases h
      · rename_i h3
        rw [hl] at h1
        have hk : w.volume.toNat < 8 := by omega
        have : mostS.getD w.volume.toNat 0 = 4096 := by
          unfold mostS
          rw [List.getD_eq_getElem?_getD, List.getElem?_replicate, if_pos hk]; rfl
        rw [this] at h3
        omega
theorem norm_nn {n : Int} (h0 : 0 ≤ n) (h1 : n ≤ 9007199254740991) : ((norm n : Nat) : Int) = n := by
  unfold norm; rw [if_neg (by omega)]; omega
theorem rep_num : ∀ (l : List Int) (r : List UInt8), repP number l.length (l.flatMap enc ++ r) = .ok (l.map norm, r)
  | [], r => by rw [List.length_nil, repP]; rfl
  | a :: l, r => by
    rw [List.length_cons, repP, List.flatMap_cons, List.append_assoc, number_enc]
    dsimp only
    rw [rep_num l r]; rfl
structure OkC (c : Cyc) : Prop where
  b0 : 0 ≤ c.base
  b1 : c.base < c.number
  n1 : c.number ≤ 1073741824
  t0 : 0 ≤ c.time
  t1 : c.time ≤ 1073741824
  pl : c.poss.length ≤ 8
  ps : ∀ n ∈ c.poss, 0 ≤ n ∧ n ≤ 1073741824
  ws : ∀ w ∈ c.wrs, fitsS mostS w = 0
theorem chkC_ok {c : Cyc} (h : chkC c mostS = 0) : OkC c := by
  unfold chkC at h
  rw [if_neg (by rw [mostS_ok]; decide)] at h
  split at h
  · cases h
  · rename_i h1
    split at h
    · cases h
    · rename_i h2
      split at h
      · rename_i h3; exact absurd h h3
      · rename_i h3
        have h3 := Classical.not_not.1 h3
        have hi : inB c.time 0 1073741824 = true := by simpa using h2
        simp only [inB, Bool.and_eq_true, decide_eq_true_eq] at hi
        unfold posE at h3
        split at h3
        · cases h3
        · rename_i h4
          have h4 : inB c.poss.length 0 8 = true := by simpa using h4
          simp only [inB, Bool.and_eq_true, decide_eq_true_eq] at h4
          split at h3
          · cases h3
          · rename_i h5
            refine ⟨by omega, by omega, by omega, hi.1, hi.2, by omega, fun n hn => ?_, ?_⟩
            · have : ¬ badPos n = true := fun hb => h5 (List.any_eq_true.2 ⟨n, hn, hb⟩)
              simp only [badPos, inB, Bool.not_eq_true', Bool.not_eq_false', Bool.not_eq_eq_eq_not, Bool.not_true, Bool.not_eq_false, Bool.and_eq_true, decide_eq_true_eq] at this
              omega
            · unfold wsE at h
              rw [if_neg (by rw [mostS_ok]; decide)] at h
              exact chkW_all _ _ h
theorem len_flat {α : Type} {e : α → List UInt8} (he : ∀ a, 1 ≤ (e a).length) : ∀ l : List α, l.length ≤ (l.flatMap e).length
  | [] => Nat.le_refl _
  | a :: l => by
    rw [List.flatMap_cons, List.length_append, List.length_cons]
    have := he a
    have := len_flat he l
    omega
theorem enc_pos (n : Int) : 1 ≤ (enc n).length := encN_pos _
theorem encE_0 {c : Cyc} (h : encE c = 0) : chkC c mostS = 0 ∧ (encCyc c).length ≤ 65536 ∧ encB c = encCyc c := by
  refine ⟨?_, ?_, by rw [encB, if_pos h]⟩
  · unfold encE at h
    split at h
    · rename_i q; exact absurd h q
    · rename_i q; exact Classical.not_not.1 q
  · unfold encE at h
    split at h
    · rename_i q; exact absurd h q
    · split at h
      · cases h
      · omega
theorem map_self {α : Type} {f : α → α} : ∀ {l : List α}, (∀ a ∈ l, f a = a) → l.map f = l
  | [], _ => rfl
  | a :: l, h => by rw [List.map_cons, h a (by simp), map_self fun b hb => h b (List.mem_cons_of_mem _ hb)]
/-- What is encoded is decoded. -/
theorem decC_enc {c : Cyc} (h : encE c = 0) : decC (encB c) = .ok c := by
  obtain ⟨h1, h2, h3⟩ := encE_0 h
  have ok := chkC_ok h1
  have hw : c.wrs.length ≤ 65536 := by
    have := len_flat (e := encWr) (fun a => by unfold encWr; simp only [List.length_append]; have := enc_pos a.volume; omega) c.wrs
    have h4 : (encWrs c.wrs).length ≤ 65536 := by unfold encCyc at h2; simp only [List.length_append] at h2; omega
    unfold encWrs at h4
    rw [List.length_append] at h4
    omega
  rw [h3]
  unfold decC
  rw [if_neg (by omega)]
  have e1 : cycP (encCyc c) = .ok (c, []) := by
    unfold cycP
    have r3 := rep_num [c.base, c.number, c.time] (encInts c.poss ++ encWrs c.wrs)
    have e3 : [c.base, c.number, c.time].flatMap enc ++ (encInts c.poss ++ encWrs c.wrs) = encCyc c := by unfold encCyc; simp
    rw [e3] at r3
    rw [show repP number 3 (encCyc c) = _ from r3]
    dsimp only
    have rp := list_rt int_rt c.poss (encWrs c.wrs) ⟨by have := ok.pl; omega, fun _ _ => trivial⟩
    rw [show encInts c.poss = enc c.poss.length ++ c.poss.flatMap enc from rfl, rp]
    dsimp only
    have rw' := list_rt wr_rt c.wrs [] ⟨hw, fun w hw => by have := (fitsS_most (ok.ws w hw)).2.2.2.2.1; omega⟩
    rw [List.append_nil] at rw'
    rw [show encWrs c.wrs = enc c.wrs.length ++ c.wrs.flatMap encWr from rfl, rw']
    dsimp only
    have m1 : c.poss.map (fun n => ((norm n : Nat) : Int)) = c.poss := map_self fun n hn => by have := ok.ps n hn; exact norm_nn (by omega) (by omega)
    have m2 : c.wrs.map (fun x => (⟨norm x.volume, norm x.start, x.data⟩ : Wr)) = c.wrs := map_self fun w hw => by
      have := fitsS_most (ok.ws w hw)
      rw [norm_nn (by omega) (by omega), norm_nn (by omega) (by omega)]
    rw [m1, m2]
    have a0 := ok.b0; have a1 := ok.b1; have a2 := ok.n1; have a3 := ok.t0; have a4 := ok.t1
    have n0 : at3 [norm c.base, norm c.number, norm c.time] 0 = c.base := norm_nn (by omega) (by omega)
    have n1 : at3 [norm c.base, norm c.number, norm c.time] 1 = c.number := norm_nn (by omega) (by omega)
    have n2 : at3 [norm c.base, norm c.number, norm c.time] 2 = c.time := norm_nn (by omega) (by omega)
    rw [show [c.base, c.number, c.time].map norm = [norm c.base, norm c.number, norm c.time] from rfl, n0, n1, n2]
  rw [e1]
  dsimp only
  rw [if_neg (by decide), if_neg (by rw [h1]; decide)]
theorem encB_pos {c : Cyc} (h : encE c = 0) : 1 ≤ (encB c).length := by
  rw [(encE_0 h).2.2]
  unfold encCyc
  simp only [List.length_append]
  have := enc_pos c.base
  omega
/-- A header and what is behind it. -/
theorem prsP_put {h : Hd} {r : List UInt8} (h1 : 1 ≤ h.number) (h2 : h.number ≤ 1073741824) (h3 : 0 ≤ h.index) (h4 : h.index < h.parts) (h5 : h.parts ≤ 65536) (h6 : 0 ≤ h.sum) (h7 : h.sum ≤ 4294967295) (r1 : 1 ≤ r.length) (r2 : r.length ≤ 4096) :
    prsP (encHd h ++ r) = .ok (h, r) := by
  unfold prsP
  have r3 := rep_num [h.number, h.index, h.parts, h.sum] r
  have e3 : [h.number, h.index, h.parts, h.sum].flatMap enc ++ r = encHd h ++ r := by unfold encHd; simp
  rw [e3] at r3
  rw [show repP number 4 (encHd h ++ r) = _ from r3]
  dsimp only
  have n0 : at3 [norm h.number, norm h.index, norm h.parts, norm h.sum] 0 = h.number := norm_nn (by omega) (by omega)
  have n1 : at3 [norm h.number, norm h.index, norm h.parts, norm h.sum] 1 = h.index := norm_nn (by omega) (by omega)
  have n2 : at3 [norm h.number, norm h.index, norm h.parts, norm h.sum] 2 = h.parts := norm_nn (by omega) (by omega)
  have n3 : at3 [norm h.number, norm h.index, norm h.parts, norm h.sum] 3 = h.sum := norm_nn (by omega) (by omega)
  have eh : hd4 ([h.number, h.index, h.parts, h.sum].map norm) = h := by
    show hd4 [norm h.number, norm h.index, norm h.parts, norm h.sum] = h
    unfold hd4
    rw [n0, n1, n2, n3]
  rw [eh, if_neg]
  have hc : corrB h = true := by
    unfold corrB
    simp only [Bool.and_eq_true, decide_eq_true_eq]
    omega
  rw [hc]
  rintro (q | q | q)
  · cases q
  · omega
  · omega
end Go.Proofs.Ytfbjhkpdlihgeaa
namespace Go.Proofs.Ytfbjhkpdlihgeaa
theorem pcOf_len {b : List UInt8} {n i : Nat} (hn : 1 ≤ n) (h : i < nPc b.length n) : 1 ≤ (pcOf b n i).length ∧ (pcOf b n i).length ≤ n := by
  have := (nPc_lt hn).1 h
  unfold pcOf
  rw [List.length_take, List.length_drop]
  omega
theorem pcOf_full {b : List UInt8} {n i : Nat} (hn : 1 ≤ n) (h : i + 1 < nPc b.length n) : (pcOf b n i).length = n := by
  have := (nPc_lt hn).1 h
  rw [Nat.mul_add, Nat.mul_one] at this
  unfold pcOf
  rw [List.length_take, List.length_drop]
  omega
theorem pcs_take (b : List UInt8) (n : Nat) : ∀ k, ((List.range k).map (pcOf b n)).flatten = b.take (n * k)
  | 0 => by simp
  | k + 1 => by
    rw [List.range_succ, List.map_append, List.flatten_append, pcs_take b n k]
    simp only [List.map_cons, List.map_nil, List.flatten_cons, List.flatten_nil, List.append_nil, pcOf]
    rw [Nat.mul_add, Nat.mul_one, List.take_add]
theorem pcs_all {b : List UInt8} {n : Nat} (hn : 1 ≤ n) : ((List.range (nPc b.length n)).map (pcOf b n)).flatten = b := by
  rw [pcs_take, List.take_of_length_le]
  have := mt (nPc_lt (len := b.length) (i := nPc b.length n) hn).2 (by omega)
  omega
/-- The assembly with some of the parts. -/
def asmS (c : Cyc) (b : List UInt8) (n : Nat) (S : Nat → Bool) : Asm :=
  ⟨c.number, nPc b.length n, rn (crc b), (List.range (nPc b.length n)).map (fun i => if S i = true then pcOf b n i else []), (List.range (nPc b.length n)).map S⟩
theorem asmS_congr {c : Cyc} {b : List UInt8} {n : Nat} {S S' : Nat → Bool} (h : ∀ i, i < nPc b.length n → S i = S' i) : asmS c b n S = asmS c b n S' := by
  unfold asmS
  congr 1
  · exact List.map_congr_left fun i hi => by rw [h i (List.mem_range.1 hi)]
  · exact List.map_congr_left fun i hi => h i (List.mem_range.1 hi)
theorem set_range {α : Type} {f g : Nat → α} {k i : Nat} (h : ∀ j, j < k → j ≠ i → g j = f j) : ((List.range k).map f).set i (g i) = (List.range k).map g := by
  apply List.ext_getElem (by simp)
  intro j h1 h2
  have hj : j < k := by simpa using h2
  rw [List.getElem_set]
  split
  · rename_i q; subst q; simp
  · rename_i q; simp [h j hj (fun e => q e.symm)]
theorem rn_rng (r : Reg) : 0 ≤ rn r ∧ rn r ≤ 4294967295 := by
  unfold rn
  have := r.isLt
  omega
def firB (l : List (List UInt8)) : List UInt8 → List UInt8
  | [] => l.getD 0 []
  | x :: _ => pickP l x
theorem gatP_eq {l : List (List UInt8)} {o : List UInt8} (h : l ≠ []) : gatP l o = (o.map (pickP l) ++ l.reverse).foldl stA (stB (firB l o)) := by
  unfold gatP
  rw [if_neg h]
  cases o <;> rfl
section
variable {c : Cyc} {b : List UInt8} {n : Nat} (hb : b = encB c) (he : encE c = 0) (hn : 1 ≤ n) (hn2 : n ≤ 4096)
include hb he hn hn2
theorem parts_rng : 1 ≤ nPc b.length n ∧ nPc b.length n ≤ 65536 := by
  have h1 : b.length ≤ 65536 := hb ▸ encB_len c
  have h2 : 1 ≤ b.length := hb ▸ encB_pos he
  have h3 := nPc_le (len := b.length) hn
  refine ⟨?_, by omega⟩
  have := (nPc_lt (len := b.length) (i := 0) hn).2 (by omega)
  omega
theorem prs_part {i : Nat} (hi : i < nPc b.length n) {r : List UInt8} (r1 : 1 ≤ r.length) (r2 : r.length ≤ 4096) : prsP (encHd ⟨c.number, nPc b.length n, rn (crc b), i⟩ ++ r) = .ok (⟨c.number, nPc b.length n, rn (crc b), i⟩, r) := by
  have ok := chkC_ok (encE_0 he).1
  have q := parts_rng hb he hn hn2
  have q2 := rn_rng (crc b)
  have b0 := ok.b0; have b1 := ok.b1; have b2 := ok.n1
  exact prsP_put (by show 1 ≤ c.number; omega) (by show c.number ≤ _; omega) (by show (0 : Int) ≤ i; omega) (by show (i : Int) < nPc b.length n; omega) (by show ((nPc b.length n : Nat) : Int) ≤ _; omega) q2.1 q2.2 r1 r2
theorem asmS_chk (S : Nat → Bool) : chkA (asmS c b n S) = 0 := by
  have ok := chkC_ok (encE_0 he).1
  have q := parts_rng hb he hn hn2
  have q2 := rn_rng (crc b)
  have b0 := ok.b0; have b1 := ok.b1; have b2 := ok.n1
  refine chkA_ok ?_ ?_
  · rw [Bool.eq_false_iff, Ne, asmHd_iff]
    simp only [asmS, List.length_map, List.length_range]
    omega
  · rw [List.any_eq_false]
    rintro ⟨p, s⟩ hx
    obtain ⟨j, hj, e⟩ := List.getElem_of_mem hx
    have hj' : j < nPc b.length n := by simpa [asmS] using hj
    rw [List.getElem_zip] at e
    simp only [asmS, List.getElem_map, List.getElem_range, Prod.mk.injEq] at e
    obtain ⟨rfl, rfl⟩ := e
    have l := pcOf_len hn hj'
    dsimp only
    rw [Bool.not_eq_true]
    cases hs : S j
    · exact badPc0 (by simp) (by simp)
    · rw [if_pos rfl]
      exact badPc0 (decide_eq_true (by omega)) (by omega)
theorem beg_part {i : Nat} (hi : i < nPc b.length n) : begA (partB c b n i) = .ok (asmS c b n (fun j => decide (j = i))) := by
  have l := pcOf_len hn hi
  unfold begA partB
  rw [prs_part hb he hn hn2 hi l.1 (by omega)]
  dsimp only
  rw [show ((nPc b.length n : Nat) : Int).toNat = nPc b.length n from rfl, show ((i : Nat) : Int).toNat = i from rfl]
  unfold asmS
  congr 2
  · have := set_range (k := nPc b.length n) (i := i) (f := fun _ => ([] : List UInt8)) (g := fun j => if decide (j = i) = true then pcOf b n j else []) (fun j _ h => by simp [h])
    simp only [decide_true, if_true] at this
    rw [← this, List.map_const', List.length_range]
  · have := set_range (k := nPc b.length n) (i := i) (f := fun _ => false) (g := fun j => decide (j = i)) (fun j _ h => by simp [h])
    simp only [decide_true] at this
    rw [← this, List.map_const', List.length_range]
theorem add_part (S : Nat → Bool) {i : Nat} (hi : i < nPc b.length n) : addA (asmS c b n S) (partB c b n i) = .ok (asmS c b n (fun j => S j || decide (j = i))) := by
  have l := pcOf_len hn hi
  unfold partB
  rw [addA_ok (asmS_chk hb he hn hn2 S) (prs_part hb he hn hn2 hi l.1 (by omega))]
  rw [if_neg (by simp [asmS]), if_neg (by simp [asmS]), show ((i : Nat) : Int).toNat = i from rfl]
  rw [if_neg]
  · unfold asmS
    congr 2
    · have := set_range (k := nPc b.length n) (i := i) (f := fun j => if S j = true then pcOf b n j else []) (g := fun j => if (S j || decide (j = i)) = true then pcOf b n j else []) (fun j _ h => by simp [h])
      simp only [decide_true, Bool.or_true, if_true] at this
      exact this
    · have := set_range (k := nPc b.length n) (i := i) (f := S) (g := fun j => S j || decide (j = i)) (fun j _ h => by simp [h])
      simp only [decide_true, Bool.or_true] at this
      exact this
  · rintro ⟨h1, h2⟩
    apply h2
    rw [List.getD_eq_getElem?_getD] at h1 ⊢
    simp only [asmS, List.getElem?_map, List.getElem?_range hi, Option.map_some, Option.getD_some] at h1 ⊢
    rw [if_pos h1]
theorem fold_parts : ∀ (is : List Nat) (S : Nat → Bool), (∀ i ∈ is, i < nPc b.length n) → (is.map (partB c b n)).foldl stA (asmS c b n S, true) = (asmS c b n (fun j => S j || is.contains j), true)
  | [], S, _ => by simp
  | i :: is, S, h => by
    rw [List.map_cons, List.foldl_cons, stA_ok (x := (asmS c b n S, true)) rfl (add_part hb he hn hn2 S (h i (by simp))), fold_parts is _ fun j hj => h j (List.mem_cons_of_mem _ hj)]
    congr 1
    refine asmS_congr fun j _ => ?_
    rw [Bool.eq_iff_iff]
    simp [or_assoc]
/-- What is gathered of some of the parts. -/
theorem gat_parts (is : List Nat) (h0 : is ≠ []) (h : ∀ i ∈ is, i < nPc b.length n) (o : List UInt8) : gatP (is.map (partB c b n)) o = (asmS c b n (fun j => is.contains j), true) := by
  have hl : 0 < is.length := List.length_pos_iff.2 h0
  have pk : ∀ x : UInt8, pickP (is.map (partB c b n)) x = partB c b n (is[x.toNat % is.length]'(Nat.mod_lt _ hl)) := fun x => by
    unfold pickP
    rw [List.length_map, List.getD_eq_getElem?_getD, List.getElem?_map, List.getElem?_eq_getElem (Nat.mod_lt _ hl)]; rfl
  obtain ⟨k, hk, hfirst⟩ : ∃ k, k ∈ is ∧ firB (is.map (partB c b n)) o = partB c b n k := by
    cases o with
    | nil =>
      refine ⟨is[0], List.getElem_mem _, ?_⟩
      rw [firB, List.getD_eq_getElem?_getD, List.getElem?_map, List.getElem?_eq_getElem hl]; rfl
    | cons x o => exact ⟨_, List.getElem_mem _, pk x⟩
  obtain ⟨js, hjs, hj⟩ : ∃ js : List Nat, (∀ j ∈ js, j ∈ is) ∧ o.map (pickP (is.map (partB c b n))) = js.map (partB c b n) := by
    refine ⟨o.map fun x => is[x.toNat % is.length]'(Nat.mod_lt _ hl), fun j hj => ?_, ?_⟩
    · obtain ⟨x, _, rfl⟩ := List.mem_map.1 hj
      exact List.getElem_mem _
    · rw [List.map_map]
      exact List.map_congr_left fun x _ => pk x
  rw [gatP_eq (by simpa using h0), hfirst, hj, stB, beg_part hb he hn hn2 (h k hk)]
  dsimp only
  rw [← List.map_reverse, ← List.map_append, fold_parts hb he hn hn2 _ _ fun j hj => ?_]
  · congr 1
    refine asmS_congr fun j _ => ?_
    rw [Bool.eq_iff_iff]
    simp only [Bool.or_eq_true, decide_eq_true_eq, List.contains_iff_mem, List.mem_append, List.mem_reverse]
    constructor
    · rintro (rfl | q | q)
      · exact hk
      · exact hjs _ q
      · exact q
    · exact fun q => .inr (.inr q)
  · rcases List.mem_append.1 hj with q | q
    · exact h j (hjs j q)
    · exact h j (List.mem_reverse.1 q)
theorem cyc_all : cycA (asmS c b n (fun _ => true)) = .ok c := by
  have ok := chkC_ok (encE_0 he).1
  have h1 : b.length ≤ 65536 := hb ▸ encB_len c
  have hcat : catP (asmS c b n (fun _ => true)).pcs = b := by
    unfold catP asmS
    simp only [if_true]
    exact pcs_all hn
  rw [cycA_eq, if_neg (by rw [asmS_chk hb he hn hn2]; simp), if_neg, hcat, if_neg (by omega), if_neg (by simp [asmS]), hb, decC_enc he]
  · dsimp only
    rw [if_neg (by simp [asmS])]
  · unfold gapB asmS
    simp
theorem cyc_gap {S : Nat → Bool} {k : Nat} (hk : k < nPc b.length n) (hS : S k = false) : cycA (asmS c b n S) = .error 15 := by
  rw [cycA_eq, if_neg (by rw [asmS_chk hb he hn hn2]; simp), if_pos]
  unfold gapB asmS
  exact List.contains_iff_mem.2 (List.mem_map.2 ⟨k, List.mem_range.2 hk, hS⟩)
end
theorem missF_all : ∀ (k : Nat) (l : List Bool), (∀ x ∈ l, x = true) → missF k l = []
  | _, [], _ => rfl
  | k, x :: l, h => by
    rw [missF, if_pos (h x (by simp)), missF_all (k + 1) l fun y hy => h y (List.mem_cons_of_mem _ hy)]
theorem missF_one : ∀ (m k a : Nat), a ≤ k → k < a + m → missF a ((List.range' a m).map (fun j => decide (j ≠ k))) = [(k : Int)]
  | 0, k, a, h1, h2 => by omega
  | m + 1, k, a, h1, h2 => by
    rw [List.range'_succ, List.map_cons, missF]
    by_cases h : a = k
    · subst h
      rw [if_neg (by simp)]
      congr 1
      refine missF_all _ _ fun x hx => ?_
      obtain ⟨j, hj, rfl⟩ := List.mem_map.1 hx
      have := List.mem_range'_1.1 hj
      exact decide_eq_true (by omega)
    · rw [if_pos (decide_eq_true h)]
      exact missF_one m k (a + 1) (by omega) (by omega)
section
variable {c : Cyc} {b : List UInt8} {n : Nat} (hb : b = encB c) (he : encE c = 0) (hn : 1 ≤ n) (hn2 : n ≤ 4096)
include hb he hn hn2
theorem miss_all : missA (asmS c b n (fun _ => true)) = [] := by
  rw [missA, if_neg (by rw [asmS_chk hb he hn hn2]; simp)]
  exact missF_all _ _ fun x hx => by
    obtain ⟨j, _, rfl⟩ := List.mem_map.1 hx
    rfl
theorem miss_one {k : Nat} (hk : k < nPc b.length n) : missA (asmS c b n (fun j => decide (j ≠ k))) = [(k : Int)] := by
  rw [missA, if_neg (by rw [asmS_chk hb he hn hn2]; simp)]
  unfold asmS
  rw [List.range_eq_range']
  exact missF_one _ k 0 (by omega) (by omega)
/-- All parts, taken in any order. -/
theorem gat_all (o : List UInt8) : gatP (partsB c b n) o = (asmS c b n (fun _ => true), true) := by
  have q := parts_rng hb he hn hn2
  unfold partsB
  rw [gat_parts hb he hn hn2 _ (by simp; omega) (fun i hi => List.mem_range.1 hi)]
  congr 1
  refine asmS_congr fun i hi => ?_
  exact List.contains_iff_mem.2 (List.mem_range.2 hi)
/-- All parts but one. -/
theorem gat_but {k : Nat} (hk : k < nPc b.length n) (h2 : 2 ≤ nPc b.length n) (o : List UInt8) : gatP ((partsB c b n).take k ++ (partsB c b n).drop (k + 1)) o = (asmS c b n (fun j => decide (j ≠ k)), true) := by
  unfold partsB
  have hm : ∀ j, j ∈ (List.range (nPc b.length n)).take k ++ (List.range (nPc b.length n)).drop (k + 1) ↔ j < nPc b.length n ∧ j ≠ k := fun j => by
    rw [List.mem_append, List.mem_take_iff_getElem, List.mem_drop_iff_getElem]
    simp only [List.getElem_range, List.length_range]
    constructor
    · rintro (⟨i, hi, rfl⟩ | ⟨i, hi, rfl⟩)
      · omega
      · omega
    · rintro ⟨h1, h3⟩
      by_cases h : j < k
      · exact .inl ⟨j, by omega, rfl⟩
      · exact .inr ⟨j - (k + 1), by omega, by omega⟩
  rw [← List.map_take, ← List.map_drop, ← List.map_append, gat_parts hb he hn hn2 _ ?_ (fun i hi => ((hm i).1 hi).1)]
  · congr 1
    refine asmS_congr fun j hj => ?_
    rw [Bool.eq_iff_iff, List.contains_iff_mem, hm, decide_eq_true_eq]
    exact ⟨fun q => q.2, fun q => ⟨hj, q⟩⟩
  · intro e
    have h3 : ∀ j, ¬ (j < nPc b.length n ∧ j ≠ k) := fun j hj => by
      have := (hm j).2 hj
      rw [e] at this; cases this
    by_cases h : k = 0
    · exact h3 1 ⟨by omega, by omega⟩
    · exact h3 0 ⟨by omega, by omega⟩
end
end Go.Proofs.Ytfbjhkpdlihgeaa
namespace Go.Proofs.Ytfbjhkpdlihgeaa
/-- The last byte is another one. -/
def bumpL (l : List UInt8) : List UInt8 := l.set (l.length - 1) (l.getD (l.length - 1) 0 + 1)
theorem bump_ne {l : List UInt8} (h : 1 ≤ l.length) : l ≠ bumpL l := fun e => by
  have h1 : (l[l.length - 1]?) = (bumpL l)[l.length - 1]? := by rw [← e]
  unfold bumpL at h1
  rw [List.getElem?_set_self (by omega), List.getD_eq_getElem?_getD, List.getElem?_eq_getElem (by omega)] at h1
  have h2 := Option.some.inj h1
  rw [Option.getD_some] at h2
  have h3 := congrArg UInt8.toNat h2
  rw [UInt8.toNat_add] at h3
  have := (l[l.length - 1]).toNat_lt
  have e1 : (1 : UInt8).toNat = 1 := rfl
  rw [e1] at h3
  omega
theorem bump_len (l : List UInt8) : (bumpL l).length = l.length := by rw [bumpL, List.length_set]
theorem bump_app (a : List UInt8) {l : List UInt8} (h : 1 ≤ l.length) : bumpL (a ++ l) = a ++ bumpL l := by
  unfold bumpL
  rw [List.length_append, List.getD_eq_getElem?_getD, List.getElem?_append_right (by omega), List.set_append_right _ _ (by omega), show a.length + l.length - 1 - a.length = l.length - 1 by omega, List.getD_eq_getElem?_getD]
section
variable {c : Cyc} {b : List UInt8} {n : Nat} (hb : b = encB c) (he : encE c = 0) (hn : 1 ≤ n) (hn2 : n ≤ 4096)
include hb he hn hn2
theorem add_other {d : Cyc} {b' : List UInt8} (hb' : b' = encB d) (he' : encE d = 0) (hne : c.number ≠ d.number) (S : Nat → Bool) {i : Nat} (hi : i < nPc b'.length n) : addA (asmS c b n S) (partB d b' n i) = .error 7 := by
  have l := pcOf_len hn hi
  unfold partB
  rw [addA_ok (asmS_chk hb he hn hn2 S) (prs_part hb' he' hn hn2 hi l.1 (by omega)), if_pos (fun e => hne e.symm)]
theorem add_bump (S : Nat → Bool) {i : Nat} (hi : i < nPc b.length n) (hS : S i = true) : addA (asmS c b n S) (bumpL (partB c b n i)) = .error 22 := by
  have l := pcOf_len hn hi
  unfold partB
  rw [bump_app _ l.1]
  rw [addA_ok (asmS_chk hb he hn hn2 S) (prs_part hb he hn hn2 hi (by rw [bump_len]; exact l.1) (by rw [bump_len]; omega))]
  rw [if_neg (by simp [asmS]), if_neg (by simp [asmS]), show ((i : Nat) : Int).toNat = i from rfl, if_pos]
  rw [List.getD_eq_getElem?_getD, List.getD_eq_getElem?_getD]
  simp only [asmS, List.getElem?_map, List.getElem?_range hi, Option.map_some, Option.getD_some]
  exact ⟨hS, by rw [if_pos hS]; exact bump_ne l.1⟩
end
end Go.Proofs.Ytfbjhkpdlihgeaa
namespace Go.Proofs.Ytfbjhkpdlihgeaa
open Go.Proofs
structure FewC (c : Cyc) : Prop where
  wl : c.wrs.length ≤ 40
  ws : ∀ w ∈ c.wrs, w.data.length ≤ 24
  pl : c.poss.length ≤ 40
theorem few23_ok {c : Cyc} (h : few23 c = true) : FewC c := by
  unfold few23 few22 at h
  simp only [Bool.and_eq_true, decide_eq_true_eq, List.all_eq_true] at h
  refine ⟨h.2.2, fun w hw => ?_, h.1⟩
  have := h.2.1 w
  rw [List.take_of_length_le (by omega)] at this
  exact this hw
theorem flat_le2 {α : Type} {f : α → List UInt8} {k : Nat} : ∀ {l : List α}, (∀ a ∈ l, (f a).length ≤ k) → (l.flatMap f).length ≤ k * l.length
  | [], _ => Nat.zero_le _
  | a :: l, h => by
    rw [List.flatMap_cons, List.length_append, List.length_cons, Nat.mul_add, Nat.mul_one]
    have := h a (by simp)
    have := flat_le2 fun b hb => h b (List.mem_cons_of_mem a hb)
    omega
theorem FewC.wrS {c : Cyc} (h : FewC c) : WrS c.wrs := fun w hw => by have := h.ws w hw; omega
theorem FewC.enc {c : Cyc} (h : FewC c) : (encWrs c.wrs).length ≤ 800000000 := by
  have h1 := flat_le2 (f := encWr) (k := 216) (l := c.wrs) fun w hw => by
    have := h.ws w hw
    have a1 := enc_len w.volume
    have a2 := enc_len w.start
    have a3 := enc_len w.data.length
    unfold encWr
    rw [List.length_append, List.length_append, encSecs_len]
    omega
  have h2 := enc_len c.wrs.length
  have h3 := h.wl
  unfold encWrs
  rw [List.length_append]
  omega
theorem parts_len {c : Cyc} {b : List UInt8} {n : Nat} (hn : 1 ≤ n) (hn2 : n ≤ 4096) : ∀ p ∈ partsB c b n, p.length ≤ 800000000 := fun p hp => by
  obtain ⟨i, hi, rfl⟩ := List.mem_map.1 hp
  have h1 := pcOf_len (b := b) hn (List.mem_range.1 hi)
  have h2 := encHd_len ⟨c.number, nPc b.length n, rn (crc b), i⟩
  unfold partB
  rw [List.length_append]
  omega
theorem asmS_pl (c : Cyc) (b : List UInt8) (n : Nat) (S : Nat → Bool) : (asmS c b n S).pcs.length = nPc b.length n := by simp [asmS]
theorem Returns_cc (H : Hp) (V : List Nat) (tk : Tk) (c : Cyc) (u : UInt8) (o : List UInt8) : CC Try.prog 5 [.agg (cycC c), .v (.int .u8 (u.toNat : Int)), .sl tk 1 (bs o)] H V (Pu (cb true) H V) := by
  refine CC.of_swp Try.func5 rfl (by kernel_rfl) (by rw [Try.ntmps5]; exact len_le _ _ rfl) fun hok hokH => ?_
  clear hok
  refine SWp.seq (Wp.s ?_)
  simp -implicitDefEqProofs [go_sem, args0]
  refine SWp.seq (SWp.seq (Wp.s ?_))
  simp -implicitDefEqProofs [go_sem]
  refine CC.mono (few23_cc _ _ c) ?_
  rintro _ _ _ ⟨rfl, rfl, rfl⟩
  cases hf : few23 c with
  | false =>
    simp -implicitDefEqProofs [go_sem]
    refine Wp.s ?_
    simp -implicitDefEqProofs [go_sem]
    refine CC.mono (awake_cc _ _) ?_
    rintro _ _ _ ⟨rfl, rfl, rfl⟩
    simp -implicitDefEqProofs [go_sem]
    exact Fin.bool rfl hokH (by simp) (by simp)
  | true =>
  have fc := few23_ok hf
  have l1 := fc.wl
  have l2 := fc.pl
  by_cases ho : 40 < o.length
  · simp -implicitDefEqProofs [go_sem, show 40 < (o.length : Int) by omega]
    refine Wp.s ?_
    simp -implicitDefEqProofs [go_sem]
    refine CC.mono (awake_cc _ _) ?_
    rintro _ _ _ ⟨rfl, rfl, rfl⟩
    simp -implicitDefEqProofs [go_sem]
    exact Fin.bool rfl hokH (by simp) (by simp)
  simp -implicitDefEqProofs [go_sem, show ¬ 40 < (o.length : Int) by omega]
  refine Wp.s ?_
  simp -implicitDefEqProofs [go_sem]
  have hu := u.toNat_lt
  have w0 : IntKind.i64.wrap (u.toNat : Int) = (u.toNat : Int) := IntWalk.i64_in _ ⟨by omega, by omega⟩
  have w1 : IntKind.i64.wrap (1 + (u.toNat : Int)) = ((u.toNat + 1 : Nat) : Int) := by rw [IntWalk.i64_in _ ⟨by omega, by omega⟩]; omega
  refine SWp.seq (Wp.s ?_)
  simp -implicitDefEqProofs [go_sem, w0, w1]
  refine CC.mono (Split_cc _ _ c ((u.toNat : Int) + 1) (by omega) fc.wrS (by omega) fc.enc) ?_
  rintro _ _ _ ⟨rfl, rfl, rfl⟩
  by_cases he : encE c = 0
  case neg =>
    rw [splP_enc he]
    simp -implicitDefEqProofs [go_sem, dvS]
    refine SWp.seq (SWp.seq (Wp.s ?_))
    simp -implicitDefEqProofs [go_sem, he]
    refine Wp.s ?_
    simp -implicitDefEqProofs [go_sem, he]
    refine CC.mono (awake_cc _ _) ?_
    rintro _ _ _ ⟨rfl, rfl, rfl⟩
    simp -implicitDefEqProofs [go_sem]
    exact Fin.bool rfl hokH (by simp) (by simp)
  obtain ⟨n, hn⟩ : ∃ n, n = u.toNat + 1 := ⟨_, rfl⟩
  have hn1 : 1 ≤ n := by omega
  have hn2 : n ≤ 4096 := by omega
  rw [show ((u.toNat : Int) + 1) = (n : Int) by omega, splP_ok he (by omega), show (n : Int).toNat = n from rfl]
  obtain ⟨b, hb⟩ : ∃ b, b = encB c := ⟨_, rfl⟩
  have hbl : b.length ≤ 65536 := hb ▸ encB_len c
  rw [← hb]
  simp -implicitDefEqProofs [go_sem, dvS]
  refine SWp.seq (SWp.seq (Wp.s ?_))
  simp -implicitDefEqProofs [go_sem]
  refine Wp.s ?_
  simp -implicitDefEqProofs [go_sem]
  have hP := parts_rng hb he hn1 hn2
  refine SWp.seq (Wp.s ?_)
  simp -implicitDefEqProofs [go_sem]
  refine CC.mono (gather_cc _ _ _ _ (partsB c b n) o (by rw [partsB, List.length_map, List.length_range]; omega) (by omega) (parts_len hn1 hn2)) ?_
  rintro _ _ _ ⟨rfl, rfl, rfl⟩
  rw [gat_all hb he hn1 hn2]
  simp -implicitDefEqProofs [go_sem]
  refine SWp.seq (Wp.s ?_)
  simp -implicitDefEqProofs [go_sem]
  refine CC.mono (Cycle_cc _ _ (asmS c b n (fun _ => true)) (by rw [asmS_pl]; omega)) ?_
  rintro _ _ _ ⟨rfl, rfl, rfl⟩
  rw [cyc_all hb he hn1 hn2]
  simp -implicitDefEqProofs [go_sem, dvC]
  refine SWp.seq (Wp.s ?_)
  simp -implicitDefEqProofs [go_sem]
  refine CC.mono (awake_cc _ _) ?_
  rintro _ _ _ ⟨rfl, rfl, rfl⟩
  simp -implicitDefEqProofs [go_sem]
  refine CC.mono (SameCyc_cc _ _ c c (by omega) (by omega) fc.wrS) ?_
  rintro _ _ _ ⟨rfl, rfl, rfl⟩
  simp -implicitDefEqProofs [go_sem]
  refine CC.mono (Missing_cc _ _ (asmS c b n (fun _ => true)) (by rw [asmS_pl]; omega)) ?_
  rintro _ _ _ ⟨rfl, rfl, rfl⟩
  rw [miss_all hb he hn1 hn2]
  simp -implicitDefEqProofs [go_sem]
  refine Wp.s ?_
  simp -implicitDefEqProofs [go_sem]
  exact Fin.bool rfl hokH (by simp) (by simp)
end Go.Proofs.Ytfbjhkpdlihgeaa
namespace Go.Proofs.Ytfbjhkpdlihgeaa
open Go.Proofs
theorem Misses_cc (H : Hp) (V : List Nat) (c : Cyc) (u x : UInt8) : CC Try.prog 6 [.agg (cycC c), .v (.int .u8 (u.toNat : Int)), .v (.int .u8 (x.toNat : Int))] H V (Pu (cb true) H V) := by
  refine CC.of_swp Try.func6 rfl (by kernel_rfl) (by rw [Try.ntmps6]; exact len_le _ _ rfl) fun hok hokH => ?_
  clear hok
  refine SWp.seq (Wp.s ?_)
  simp -implicitDefEqProofs [go_sem, args0]
  refine SWp.seq (SWp.seq (Wp.s ?_))
  simp -implicitDefEqProofs [go_sem]
  refine CC.mono (few23_cc _ _ c) ?_
  rintro _ _ _ ⟨rfl, rfl, rfl⟩
  cases hf : few23 c with
  | false =>
    simp -implicitDefEqProofs [go_sem]
    refine Wp.s ?_
    simp -implicitDefEqProofs [go_sem]
    refine CC.mono (awake_cc _ _) ?_
    rintro _ _ _ ⟨rfl, rfl, rfl⟩
    simp -implicitDefEqProofs [go_sem]
    exact Fin.bool rfl hokH (by simp) (by simp)
  | true =>
  have fc := few23_ok hf
  have l1 := fc.wl
  have l2 := fc.pl
  simp -implicitDefEqProofs [go_sem]
  refine Wp.s ?_
  simp -implicitDefEqProofs [go_sem]
  obtain ⟨r, hr⟩ : ∃ r, r = u.toNat % 30 := ⟨_, rfl⟩
  have hr30 : r < 30 := hr ▸ Nat.mod_lt _ (by decide)
  have w0 : (IntKind.i64.wrap (u.toNat : Int)).tmod 30 = (r : Int) := by rw [hr]; exact rem8 u 30
  have w1 : IntKind.i64.wrap (1 + (r : Int)) = ((r + 1 : Nat) : Int) := by rw [IntWalk.i64_in _ ⟨by omega, by omega⟩]; omega
  refine SWp.seq (Wp.s ?_)
  simp -implicitDefEqProofs [go_sem, w0, w1]
  refine CC.mono (Split_cc _ _ c ((r : Int) + 1) (by omega) fc.wrS (by omega) fc.enc) ?_
  rintro _ _ _ ⟨rfl, rfl, rfl⟩
  by_cases he : encE c = 0
  case neg =>
    rw [splP_enc he]
    simp -implicitDefEqProofs [go_sem, dvS]
    refine SWp.seq (SWp.seq (Wp.s ?_))
    simp -implicitDefEqProofs [go_sem, he]
    refine Wp.s ?_
    simp -implicitDefEqProofs [go_sem]
    refine CC.mono (awake_cc _ _) ?_
    rintro _ _ _ ⟨rfl, rfl, rfl⟩
    simp -implicitDefEqProofs [go_sem]
    exact Fin.bool rfl hokH (by simp) (by simp)
  obtain ⟨n, hn⟩ : ∃ n, n = r + 1 := ⟨_, rfl⟩
  have hn1 : 1 ≤ n := by omega
  have hn2 : n ≤ 4096 := by omega
  rw [show ((r : Int) + 1) = (n : Int) by omega, splP_ok he (by omega), show (n : Int).toNat = n from rfl]
  obtain ⟨b, hb⟩ : ∃ b, b = encB c := ⟨_, rfl⟩
  have hbl : b.length ≤ 65536 := hb ▸ encB_len c
  rw [← hb]
  have hP := parts_rng hb he hn1 hn2
  obtain ⟨l, hl⟩ : ∃ l, l = partsB c b n := ⟨_, rfl⟩
  have hll : l.length = nPc b.length n := by rw [hl, partsB, List.length_map, List.length_range]
  rw [← hl]
  simp -implicitDefEqProofs [go_sem, dvS]
  refine SWp.seq (SWp.seq (Wp.s ?_))
  by_cases h2 : l.length < 2
  · simp -implicitDefEqProofs [go_sem, show (l.length : Int) < 2 by omega]
    refine Wp.s ?_
    simp -implicitDefEqProofs [go_sem]
    refine CC.mono (awake_cc _ _) ?_
    rintro _ _ _ ⟨rfl, rfl, rfl⟩
    simp -implicitDefEqProofs [go_sem]
    exact Fin.bool rfl hokH (by simp) (by simp)
  simp -implicitDefEqProofs [go_sem, show ¬ (l.length : Int) < 2 by omega]
  refine Wp.s ?_
  simp -implicitDefEqProofs [go_sem]
  obtain ⟨k, hk⟩ : ∃ k, k = x.toNat % l.length := ⟨_, rfl⟩
  have hkl : k < l.length := hk ▸ Nat.mod_lt _ (by omega)
  have hne : ¬ l = [] := fun q => by rw [q] at h2; simp at h2
  have w2 : (IntKind.i64.wrap (x.toNat : Int)).tmod (l.length : Int) = (k : Int) := by rw [hk]; exact rem8 x l.length
  refine SWp.seq (Wp.s ?_)
  simp -implicitDefEqProofs [go_sem, w2]
  refine ⟨hne, ?_⟩
  refine SWp.seq (SWp.drawnT [] [] (.s 0 .pl <| .s 1 .pl <| .s 2 .pl <| .s 3 .pl <| .s 5 .pl <| .s 6 .pl <| .s 7 .pl <| .s 8 .pl <| .s 4 .pl <| .s 9 .pl <| .s 10 .pl <| .n) (by kernel_rfl) (by kernel_rfl) ?_)
  have w3 : IntKind.i64.wrap ((k : Int) + 1) = ((k + 1 : Nat) : Int) := by rw [IntWalk.i64_in _ ⟨by omega, by omega⟩]; omega
  simp -implicitDefEqProofs [go_sem, w3]
  refine ⟨by omega, by omega, by omega, by omega, by omega, ?_⟩
  rw [← List.map_take, ← List.map_drop, ← List.map_append]
  obtain ⟨ot, hot⟩ : ∃ ot, ot = l.take k ++ l.drop (k + 1) := ⟨_, rfl⟩
  have hol : ot.length ≤ l.length := by rw [hot, List.length_append, List.length_take, List.length_drop]; omega
  have hpl : ∀ p ∈ ot, p.length ≤ 800000000 := fun p hp => by
    have : p ∈ l := by
      rw [hot] at hp
      rcases List.mem_append.1 hp with q | q
      · exact List.mem_of_mem_take q
      · exact List.mem_of_mem_drop q
    rw [hl] at this
    exact parts_len hn1 hn2 p this
  have hkP : k < nPc b.length n := by omega
  have hg := gat_but hb he hn1 hn2 hkP (by omega) []
  rw [← hl, ← hot] at hg
  obtain ⟨S, hS⟩ : ∃ S : Nat → Bool, S = fun j => decide (j ≠ k) := ⟨_, rfl⟩
  have hcy := cyc_gap hb he hn1 hn2 (S := S) hkP (by rw [hS]; simp)
  have hmi := miss_one hb he hn1 hn2 hkP
  rw [← hS] at hg hmi
  rw [← hot]
  refine SWp.seq (Wp.s ?_)
  simp -implicitDefEqProofs [go_sem]
  refine CC.mono (CC.le (.cons (.refl _) (.cons (.nil 1 (by decide)) .nil)) (gather_cc _ _ _ .sh ot [] (by omega) (by decide) hpl)) ?_
  rintro _ _ _ ⟨rfl, rfl, rfl⟩
  rw [hg]
  simp -implicitDefEqProofs [go_sem]
  refine SWp.seq (Wp.s ?_)
  simp -implicitDefEqProofs [go_sem]
  refine CC.mono (Cycle_cc _ _ (asmS c b n S) (by rw [asmS_pl]; omega)) ?_
  rintro _ _ _ ⟨rfl, rfl, rfl⟩
  rw [hcy]
  simp -implicitDefEqProofs [go_sem, dvC]
  refine SWp.seq (Wp.s ?_)
  simp -implicitDefEqProofs [go_sem]
  refine CC.mono (awake_cc _ _) ?_
  rintro _ _ _ ⟨rfl, rfl, rfl⟩
  simp -implicitDefEqProofs [go_sem]
  refine CC.mono (Missing_cc _ _ (asmS c b n S) (by rw [asmS_pl]; omega)) ?_
  rintro _ _ _ ⟨rfl, rfl, rfl⟩
  rw [hmi]
  simp -implicitDefEqProofs [go_sem]
  refine CC.mono (show CC Try.prog 20 [.sl .sh 1 ([(k : Int)].map ic), .sl .ti 1 ([(k : Int)].map ic)] _ _ (Pu (.v (.bool (decide (([(k : Int)] : List Int) = [(k : Int)])))) _ _) from SameInts_cc _ _ _ _ [(k : Int)] [(k : Int)] (by simp)) ?_
  rintro _ _ _ ⟨rfl, rfl, rfl⟩
  simp -implicitDefEqProofs [go_sem]
  refine Wp.s ?_
  simp -implicitDefEqProofs [go_sem]
  exact Fin.bool rfl hokH (by simp) (by simp)
end Go.Proofs.Ytfbjhkpdlihgeaa
namespace Go.Proofs.Ytfbjhkpdlihgeaa
open Go.Proofs
set_option maxRecDepth 8000 in
theorem Pieces_cc (H : Hp) (V : List Nat) (c : Cyc) (u : UInt8) : CC Try.prog 7 [.agg (cycC c), .v (.int .u8 (u.toNat : Int))] H V (Pu (cb true) H V) := by
  refine CC.of_swp Try.func7 rfl (by kernel_rfl) (by rw [Try.ntmps7]; exact len_le _ _ rfl) fun hok hokH => ?_
  clear hok
  refine SWp.seq (Wp.s ?_)
  simp -implicitDefEqProofs [go_sem, args0]
  refine SWp.seq (SWp.seq (Wp.s ?_))
  simp -implicitDefEqProofs [go_sem]
  refine CC.mono (few23_cc _ _ c) ?_
  rintro _ _ _ ⟨rfl, rfl, rfl⟩
  cases hf : few23 c with
  | false =>
    simp -implicitDefEqProofs [go_sem]
    refine Wp.s ?_
    simp -implicitDefEqProofs [go_sem]
    refine CC.mono (awake_cc _ _) ?_
    rintro _ _ _ ⟨rfl, rfl, rfl⟩
    simp -implicitDefEqProofs [go_sem]
    exact Fin.bool rfl hokH (by simp) (by simp)
  | true =>
  have fc := few23_ok hf
  have l1 := fc.wl
  have l2 := fc.pl
  simp -implicitDefEqProofs [go_sem]
  refine Wp.s ?_
  simp -implicitDefEqProofs [go_sem]
  have hu := u.toNat_lt
  obtain ⟨n, hn⟩ : ∃ n, n = u.toNat + 1 := ⟨_, rfl⟩
  have hn1 : 1 ≤ n := by omega
  have hn2 : n ≤ 4096 := by omega
  have w0 : IntKind.i64.wrap (u.toNat : Int) = (u.toNat : Int) := IntWalk.i64_in _ ⟨by omega, by omega⟩
  have w1 : IntKind.i64.wrap (1 + (u.toNat : Int)) = (n : Int) := by rw [IntWalk.i64_in _ ⟨by omega, by omega⟩]; omega
  refine SWp.seq (Wp.s ?_)
  simp -implicitDefEqProofs [go_sem, w0, w1]
  by_cases he : encE c = 0
  case neg =>
    refine SWp.seq (Wp.s ?_)
    simp -implicitDefEqProofs [go_sem]
    refine CC.mono (Encode_cc _ _ c (by omega) fc.wrS (by omega) fc.enc) ?_
    rintro _ _ _ ⟨rfl, rfl, rfl⟩
    simp -implicitDefEqProofs [go_sem]
    refine SWp.seq (Wp.s ?_)
    simp -implicitDefEqProofs [go_sem]
    refine CC.mono (Split_cc _ _ c (n : Int) (by omega) fc.wrS (by omega) fc.enc) ?_
    rintro _ _ _ ⟨rfl, rfl, rfl⟩
    rw [splP_enc he]
    simp -implicitDefEqProofs [go_sem, dvS]
    refine SWp.seq (SWp.seq (Wp.s ?_))
    simp -implicitDefEqProofs [go_sem, he]
    refine Wp.s ?_
    simp -implicitDefEqProofs [go_sem, he]
    refine CC.mono (awake_cc _ _) ?_
    rintro _ _ _ ⟨rfl, rfl, rfl⟩
    simp -implicitDefEqProofs [go_sem]
    exact Fin.bool rfl hokH (by simp) (by simp)
  refine SWp.seq (Wp.s ?_)
  simp -implicitDefEqProofs [go_sem]
  refine CC.mono (Encode_cc _ _ c (by omega) fc.wrS (by omega) fc.enc) ?_
  rintro _ _ _ ⟨rfl, rfl, rfl⟩
  simp -implicitDefEqProofs [go_sem, he]
  refine SWp.seq (Wp.s ?_)
  simp -implicitDefEqProofs [go_sem]
  refine CC.mono (Split_cc _ _ c (n : Int) (by omega) fc.wrS (by omega) fc.enc) ?_
  rintro _ _ _ ⟨rfl, rfl, rfl⟩
  rw [splP_ok he (by omega), show (n : Int).toNat = n from rfl]
  obtain ⟨b, hb⟩ : ∃ b, b = encB c := ⟨_, rfl⟩
  have hbl : b.length ≤ 65536 := hb ▸ encB_len c
  rw [← hb]
  have hP := parts_rng hb he hn1 hn2
  obtain ⟨P, hPe⟩ : ∃ P, P = nPc b.length n := ⟨_, rfl⟩
  obtain ⟨l, hl⟩ : ∃ l, l = partsB c b n := ⟨_, rfl⟩
  have hll : l.length = P := by rw [hl, partsB, List.length_map, List.length_range, hPe]
  have hli : ∀ i (h : i < l.length), l[i] = partB c b n i := fun i h => by subst hl; simp [partsB]
  rw [← hPe] at hP
  rw [← hl]
  simp -implicitDefEqProofs [go_sem, dvS]
  refine SWp.seq (SWp.seq (Wp.s ?_))
  simp -implicitDefEqProofs [go_sem]
  refine Wp.s ?_
  simp -implicitDefEqProofs [go_sem]
  refine SWp.seq (Wp.s ?_)
  simp -implicitDefEqProofs [go_sem]
  refine SWp.join (α := Nat) (fun v => ([(6, .sl .sh 1 (bs b)), (10, .sl (.own V.length v) 1 (bs b))], H ++ [some (cycC c)], V ++ [v])) (fun _ => True) ?_ ?_
  · refine SWp.seq (Wp.s ?_)
    simp -implicitDefEqProofs [go_sem]
    refine SWp.block ?_
    refine SWp.loop (α := Nat × CV × List Nat) (fun x => ([(2, .ptr H.length 0), (5, ci n), (6, .sl .sh 1 (bs b)), (8, .sl .sh 1 (l.map byE)), (10, x.2.1), (11, ci x.1)], H ++ [some (cycC c)], x.2.2)) (fun x => x.1 ≤ l.length ∧ ((x.1 = 0 ∧ x.2.1 = .v (.slice none 0 0) ∧ x.2.2 = V) ∨ ∃ v, x.2.1 = .sl (.own V.length v) 1 (bs (b.take (n * x.1))) ∧ x.2.2 = V ++ [v])) (fun x => l.length - x.1) (0, .v (.slice none 0 0), V) ⟨by simp, .inl ⟨rfl, rfl, rfl⟩⟩ (Sh.forget (by simp [go_sem]) rfl rfl) ?_
    rintro ⟨i, cv, V1⟩ ⟨hi, hcv⟩
    dsimp only at hi hcv ⊢
    refine SWp.seq (SWp.seq (Wp.s ?_))
    by_cases h : i < l.length
    case neg =>
      simp -implicitDefEqProofs [go_sem, show ¬ (i : Int) < (l.length : Int) by omega]
      refine Wp.s ?_
      simp -implicitDefEqProofs [go_sem]
      rcases hcv with ⟨rfl, _⟩ | ⟨v, rfl, rfl⟩
      · omega
      · refine ⟨v, Sh.forget ?_ rfl rfl⟩
        have : ¬ n * i < b.length := fun q => by have := (nPc_lt (len := b.length) (i := i) hn1).2 q; omega
        simp [go_sem, List.take_of_length_le (show b.length ≤ n * i by omega)]
    have hiP : i < nPc b.length n := by omega
    have hq := pcOf_len (b := b) (i := i) hn1 hiP
    have hqf : (pcOf b n i).length < n → ¬ i + 1 < P := fun q q2 => by have := pcOf_full (b := b) (i := i) hn1 (by omega); omega
    have hpre := prs_part hb he hn1 hn2 hiP hq.1 (by omega)
    have hbeg := beg_part hb he hn1 hn2 hiP
    obtain ⟨p, hp⟩ : ∃ p, p = partB c b n i := ⟨_, rfl⟩
    have hpp : prsP p = .ok (⟨c.number, nPc b.length n, rn (crc b), i⟩, pcOf b n i) := by rw [hp]; exact hpre
    have hpl : p.length ≤ 800000000 := parts_len hn1 hn2 p (by rw [← hli i h] at hp; rw [hp, ← hl]; exact List.getElem_mem h)
    rw [← hp] at hbeg
    obtain ⟨a, ha⟩ : ∃ a, a = asmS c b n (fun j => decide (j = i)) := ⟨_, rfl⟩
    rw [← ha] at hbeg
    have ha1 : a.pcs.length = P := by rw [ha, asmS_pl, hPe]
    have hiA : i < a.pcs.length := by omega
    have ha2 : a.pcs[i] = pcOf b n i := by subst ha; simp [asmS]
    obtain ⟨q, hqq⟩ : ∃ q, q = pcOf b n i := ⟨_, rfl⟩
    rw [← hqq] at hq hqf hpp ha2
    simp -implicitDefEqProofs [go_sem, show (i : Int) < (l.length : Int) by omega]
    refine Wp.s ?_
    simp -implicitDefEqProofs [go_sem]
    refine SWp.seq (SWp.block (SWp.seq (Wp.s ?_)))
    simp -implicitDefEqProofs [go_sem, h, hli, ← hp]
    refine CC.mono (Header_cc _ _ .sh p hpl) ?_
    rintro _ _ _ ⟨rfl, rfl, rfl⟩
    rw [hpp]
    simp -implicitDefEqProofs [go_sem, dvHdr]
    refine SWp.seq (Wp.s ?_)
    simp -implicitDefEqProofs [go_sem, h, hli, ← hp]
    refine CC.mono (Begin_cc _ _ .sh p hpl) ?_
    rintro _ _ _ ⟨rfl, rfl, rfl⟩
    rw [hbeg]
    simp -implicitDefEqProofs [go_sem, dvA]
    have hPn : nPc b.length n = l.length := by omega
    have hal : a.pcs.length = l.length := by omega
    refine SWp.join (α := Unit) (fun _ => ([(2, .ptr H.length 0), (5, ci n), (6, .sl .sh 1 (bs b)), (8, .sl .sh 1 (l.map byE)), (10, cv), (11, ci i), (16, .ptr (H.length + 1) 0)], H ++ [some (cycC c), some (asmC a)], V1)) (fun _ => True) ?_ ?_
    · refine SWp.seq (Wp.s ?_)
      by_cases c1 : q.length < n
      · have c2 : ¬ i + 1 < l.length := by have := hqf c1; omega
        simp -implicitDefEqProofs [go_sem, hPn, hal, ha2, h, show ¬ (l.length : Int) ≤ (i : Int) by omega, show ¬ (n : Int) < (q.length : Int) by omega, show (q.length : Int) < (n : Int) by omega, IntWalk.i64_in ((l.length : Int) - 1) ⟨by omega, by omega⟩, show ¬ (i : Int) < (l.length : Int) - 1 by omega]
        refine Wp.s ?_
        simp -implicitDefEqProofs [go_sem]
        exact Sh.forget (by simp [go_sem]) rfl rfl
      · simp -implicitDefEqProofs [go_sem, hPn, hal, ha2, h, show ¬ (l.length : Int) ≤ (i : Int) by omega, show ¬ (n : Int) < (q.length : Int) by omega, show ¬ (q.length : Int) < (n : Int) by omega]
        refine Wp.s ?_
        simp -implicitDefEqProofs [go_sem]
        exact Sh.forget (by simp [go_sem]) rfl rfl
    · rintro _ -
      dsimp only
      have htk : b.take (n * (i + 1)) = b.take (n * i) ++ q := by rw [Nat.mul_add, Nat.mul_one, List.take_add, hqq]; rfl
      have hbt : (b.take (n * i)).length ≤ 65536 := by rw [List.length_take]; omega
      refine Wp.s ?_
      have back : ∀ (v : Nat) (T : Tm) (W : Hp), TLe T [(2, .ptr H.length 0), (5, ci n), (6, .sl .sh 1 (bs b)), (8, .sl .sh 1 (l.map byE)), (10, .sl (.own V.length v) 1 (bs (b.take (n * (i + 1))))), (11, ci (i + 1 : Nat))] →
          Sh 143 H.length V.length T (H ++ some (cycC c) :: W) (V ++ [v]) ([(2, .ptr H.length 0), (5, ci n), (6, .sl .sh 1 (bs b)), (8, .sl .sh 1 (l.map byE)), (10, .sl (.own V.length v) 1 (bs (b.take (n * (i + 1))))), (11, ci (i + 1 : Nat))], H ++ [some (cycC c)], V ++ [v]) := fun v T W hT =>
        Sh.trim (L := [some (cycC c)]) hT (by simp [go_sem]) hokH (by simp [go_sem]) (by simp) (by simp) (List.take_of_length_le (Nat.le_refl _))
      rcases hcv with ⟨hi0, rfl, hV1⟩ | ⟨v, rfl, rfl⟩
      · obtain rfl := hV1.symm
        subst hi0
        have htk' : b.take (n * (0 + 1)) = q := by rw [htk]; simp
        simp -implicitDefEqProofs [go_sem, hal, ha2, h]
        refine ⟨by omega, ?_⟩
        refine Wp.s ?_
        simp -implicitDefEqProofs [go_sem]
        refine ⟨0 + 1, .sl (.own V.length 0) 1 (bs (b.take (n * (0 + 1)))), V ++ [0], ⟨by omega, .inr ⟨0, rfl, rfl⟩⟩, by omega, back 0 _ _ ?_⟩
        rw [htk']
        simp [go_sem]
        exact .refl _
      · simp -implicitDefEqProofs [go_sem, hal, ha2, h]
        refine ⟨by omega, ?_⟩
        refine Wp.s ?_
        simp -implicitDefEqProofs [go_sem]
        refine ⟨i + 1, .sl (.own V.length (v + 1)) 1 (bs (b.take (n * (i + 1)))), V ++ [v + 1], ⟨by omega, .inr ⟨v + 1, rfl, rfl⟩⟩, by omega, back (v + 1) _ _ ?_⟩
        rw [htk]
        simp [go_sem, wrap_succ (show i ≤ 1000000000 by omega)]
  · rintro v -
    dsimp only
    refine SWp.seq (Wp.s ?_)
    simp -implicitDefEqProofs [go_sem]
    refine CC.mono (awake_cc _ _) ?_
    rintro _ _ _ ⟨rfl, rfl, rfl⟩
    simp -implicitDefEqProofs [go_sem]
    refine CC.mono (equal_cc _ _ _ _ b b) ?_
    rintro _ _ _ ⟨rfl, rfl, rfl⟩
    simp -implicitDefEqProofs [go_sem]
    refine Wp.s ?_
    simp -implicitDefEqProofs [go_sem]
    exact Fin.bool rfl hokH (by simp) (by simp)
end Go.Proofs.Ytfbjhkpdlihgeaa
namespace Go.Proofs.Ytfbjhkpdlihgeaa
open Go.Proofs
/-- Bytes, one cell each. -/
def fbB (l : List UInt8) : List CV := l.map fun b => CV.v (.int .u8 (b.toNat : Int))
theorem fbB_flat : ∀ l : List UInt8, (bs l).flatten = fbB l
  | [] => rfl
  | b :: l => by rw [bs, List.map_cons, List.flatten_cons]; exact congrArg (_ :: ·) (fbB_flat l)
@[go_sem, simp] theorem fbB_len (l : List UInt8) : (fbB l).length = l.length := by rw [fbB, List.length_map]
@[go_sem] theorem fbB_get (l : List UInt8) (i : Nat) (h : i < (fbB l).length) : (fbB l)[i] = CV.v (.int .u8 ((l[i]'(by simpa using h)).toNat : Int)) := by simp [fbB]
theorem fbB_set (l : List UInt8) (i : Nat) (c : UInt8) (h : i < l.length) : (fbB l).take i ++ CV.v (.int .u8 (c.toNat : Int)) :: (fbB l).drop (i + 1) = fbB (l.set i c) := by
  rw [List.set_eq_take_append_cons_drop, if_pos h]
  simp [fbB]
theorem fbB_chunks : ∀ l : List UInt8, chunks 1 l.length (fbB l) = bs l
  | [] => rfl
  | b :: l => by
    rw [List.length_cons, chunks]
    exact congrArg (_ :: ·) (fbB_chunks l)
@[go_sem] theorem okL_fbB (i j : Nat) (l : List UInt8) : okL i j (fbB l) = True := eq_true (okL_iff.2 fun c hc => by
  obtain ⟨b, -, rfl⟩ := List.mem_map.1 hc
  rw [okV]; trivial)
theorem wrap_u8s (x : UInt8) : IntKind.u8.wrap ((x.toNat : Int) + 1) = (((x + 1 : UInt8).toNat : Nat) : Int) := by
  rw [IntKind.wrap_u8, UInt8.toNat_add]
  have := x.toNat_lt
  have e1 : (1 : UInt8).toNat = 1 := rfl
  rw [e1]; omega
set_option maxRecDepth 8000 in
theorem Refuses_cc (H : Hp) (V : List Nat) (c d : Cyc) (x : UInt8) : CC Try.prog 8 [.agg (cycC c), .agg (cycC d), .v (.int .u8 (x.toNat : Int))] H V (Pu (cb true) H V) := by
  refine CC.of_swp Try.func8 rfl (by kernel_rfl) (by rw [Try.ntmps8]; exact len_le _ _ rfl) fun hok hokH => ?_
  clear hok
  refine SWp.seq (Wp.s ?_)
  simp -implicitDefEqProofs [go_sem, args0]
  refine SWp.seq (SWp.seq (Wp.s ?_))
  simp -implicitDefEqProofs [go_sem]
  refine CC.mono (few23_cc _ _ c) ?_
  rintro _ _ _ ⟨rfl, rfl, rfl⟩
  cases hf : few23 c with
  | false =>
    simp -implicitDefEqProofs [go_sem]
    refine Wp.s ?_
    simp -implicitDefEqProofs [go_sem]
    refine CC.mono (awake_cc _ _) ?_
    rintro _ _ _ ⟨rfl, rfl, rfl⟩
    simp -implicitDefEqProofs [go_sem]
    exact Fin.bool rfl hokH (by simp) (by simp)
  | true =>
  simp -implicitDefEqProofs [go_sem]
  refine CC.mono (few23_cc _ _ d) ?_
  rintro _ _ _ ⟨rfl, rfl, rfl⟩
  cases hf' : few23 d with
  | false =>
    simp -implicitDefEqProofs [go_sem]
    refine Wp.s ?_
    simp -implicitDefEqProofs [go_sem]
    refine CC.mono (awake_cc _ _) ?_
    rintro _ _ _ ⟨rfl, rfl, rfl⟩
    simp -implicitDefEqProofs [go_sem]
    exact Fin.bool rfl hokH (by simp) (by simp)
  | true =>
  have fc := few23_ok hf
  have fd := few23_ok hf'
  have l1 := fc.wl; have l2 := fc.pl; have l3 := fd.wl; have l4 := fd.pl
  simp -implicitDefEqProofs [go_sem]
  refine Wp.s ?_
  simp -implicitDefEqProofs [go_sem]
  refine SWp.seq (Wp.s ?_)
  simp -implicitDefEqProofs [go_sem]
  refine CC.mono (Split_cc _ _ c 16 (by omega) fc.wrS (by omega) fc.enc) ?_
  rintro _ _ _ ⟨rfl, rfl, rfl⟩
  by_cases he : encE c = 0
  case neg =>
    rw [splP_enc he]
    simp -implicitDefEqProofs [go_sem, dvS]
    refine SWp.seq (Wp.s ?_)
    simp -implicitDefEqProofs [go_sem]
    refine CC.mono (Split_cc _ _ d 16 (by omega) fd.wrS (by omega) fd.enc) ?_
    rintro _ _ _ ⟨rfl, rfl, rfl⟩
    by_cases he' : encE d = 0
    case neg =>
      rw [splP_enc he']
      simp -implicitDefEqProofs [go_sem, dvS]
      refine SWp.seq (SWp.seq (Wp.s ?_))
      simp -implicitDefEqProofs [go_sem, he]
      refine Wp.s ?_
      simp -implicitDefEqProofs [go_sem]
      refine CC.mono (awake_cc _ _) ?_
      rintro _ _ _ ⟨rfl, rfl, rfl⟩
      simp -implicitDefEqProofs [go_sem]
      exact Fin.bool rfl hokH (by simp) (by simp)
    rw [splP_ok he' (by omega)]
    simp -implicitDefEqProofs [go_sem, dvS]
    refine SWp.seq (SWp.seq (Wp.s ?_))
    simp -implicitDefEqProofs [go_sem, he]
    refine Wp.s ?_
    simp -implicitDefEqProofs [go_sem]
    refine CC.mono (awake_cc _ _) ?_
    rintro _ _ _ ⟨rfl, rfl, rfl⟩
    simp -implicitDefEqProofs [go_sem]
    exact Fin.bool rfl hokH (by simp) (by simp)
  rw [splP_ok he (by omega), show (16 : Int).toNat = 16 from rfl]
  simp -implicitDefEqProofs [go_sem, dvS]
  refine SWp.seq (Wp.s ?_)
  simp -implicitDefEqProofs [go_sem]
  refine CC.mono (Split_cc _ _ d 16 (by omega) fd.wrS (by omega) fd.enc) ?_
  rintro _ _ _ ⟨rfl, rfl, rfl⟩
  by_cases he' : encE d = 0
  case neg =>
    rw [splP_enc he']
    simp -implicitDefEqProofs [go_sem, dvS]
    refine SWp.seq (SWp.seq (Wp.s ?_))
    simp -implicitDefEqProofs [go_sem, he']
    refine Wp.s ?_
    simp -implicitDefEqProofs [go_sem]
    refine CC.mono (awake_cc _ _) ?_
    rintro _ _ _ ⟨rfl, rfl, rfl⟩
    simp -implicitDefEqProofs [go_sem]
    exact Fin.bool rfl hokH (by simp) (by simp)
  rw [splP_ok he' (by omega), show (16 : Int).toNat = 16 from rfl]
  simp -implicitDefEqProofs [go_sem, dvS]
  obtain ⟨n, hn⟩ : ∃ n, n = 16 := ⟨_, rfl⟩
  have hn1 : 1 ≤ n := by omega
  have hn2 : n ≤ 4096 := by omega
  obtain ⟨b, hb⟩ : ∃ b, b = encB c := ⟨_, rfl⟩
  obtain ⟨b', hb'⟩ : ∃ b', b' = encB d := ⟨_, rfl⟩
  have hbl : b.length ≤ 65536 := hb ▸ encB_len c
  have hbl' : b'.length ≤ 65536 := hb' ▸ encB_len d
  have hP := parts_rng hb he hn1 hn2
  have hP' := parts_rng hb' he' hn1 hn2
  obtain ⟨l, hl⟩ : ∃ l, l = partsB c b n := ⟨_, rfl⟩
  obtain ⟨m, hm⟩ : ∃ m, m = partsB d b' n := ⟨_, rfl⟩
  have hll : l.length = nPc b.length n := by rw [hl, partsB, List.length_map, List.length_range]
  have hml : m.length = nPc b'.length n := by rw [hm, partsB, List.length_map, List.length_range]
  have hlp : ∀ p ∈ l, p.length ≤ 800000000 := fun p hp => parts_len hn1 hn2 p (hl ▸ hp)
  have hmp : ∀ p ∈ m, p.length ≤ 800000000 := fun p hp => parts_len hn1 hn2 p (hm ▸ hp)
  have hl0 : ¬ l = [] := fun q => by rw [q] at hll; simp at hll; omega
  have hm0 : ¬ m = [] := fun q => by rw [q] at hml; simp at hml; omega
  rw [show partsB c (encB c) 16 = l by rw [hl, hb, hn], show partsB d (encB d) 16 = m by rw [hm, hb', hn]]
  refine SWp.seq (SWp.seq (Wp.s ?_))
  by_cases hnum : c.number = d.number
  · simp -implicitDefEqProofs [go_sem, hnum]
    refine Wp.s ?_
    simp -implicitDefEqProofs [go_sem]
    refine CC.mono (awake_cc _ _) ?_
    rintro _ _ _ ⟨rfl, rfl, rfl⟩
    simp -implicitDefEqProofs [go_sem]
    exact Fin.bool rfl hokH (by simp) (by simp)
  simp -implicitDefEqProofs [go_sem, hnum, hl0, hm0]
  refine Wp.s ?_
  simp -implicitDefEqProofs [go_sem]
  have hg := gat_all hb he hn1 hn2 []
  rw [← hl] at hg
  obtain ⟨a, ha⟩ : ∃ a, a = asmS c b n (fun _ => true) := ⟨_, rfl⟩
  have hal : a.pcs.length ≤ 65536 := by rw [ha, asmS_pl]; omega
  rw [← ha] at hg
  refine SWp.seq (Wp.s ?_)
  simp -implicitDefEqProofs [go_sem]
  refine CC.mono (CC.le (.cons (.refl _) (.cons (.nil 1 (by decide)) .nil)) (gather_cc _ _ _ .sh l [] (by omega) (by decide) (by rw [hl]; exact parts_len hn1 hn2))) ?_
  rintro _ _ _ ⟨rfl, rfl, rfl⟩
  rw [hg]
  simp -implicitDefEqProofs [go_sem]
  obtain ⟨j', hj'⟩ : ∃ j, j = x.toNat % m.length := ⟨_, rfl⟩
  have hjl' : j' < m.length := hj' ▸ Nat.mod_lt _ (by omega)
  have w2 : (IntKind.i64.wrap (x.toNat : Int)).tmod (m.length : Int) = (j' : Int) := by rw [hj']; exact rem8 x m.length
  have hmj : m[j'] = partB d b' n j' := by subst hm; simp [partsB]
  have had := add_other hb he hn1 hn2 hb' he' hnum (fun _ => true) (i := j') (by omega)
  rw [← ha, ← hmj] at had
  refine SWp.seq (SWp.drawnT [] [14] (.s 0 .pl <| .s 1 .pl <| .s 2 .pl <| .s 3 .pl <| .s 4 .pl <| .s 5 .pl <| .s 6 .pl <| .s 7 .pl <| .s 8 .pl <| .c 9 <| .s 10 .pl <| .s 11 .pl <| .s 12 .pl <| .s 13 .pl <| .s 14 .st <| .s 15 .pl <| .n) (by kernel_rfl) (by kernel_rfl) ?_)
  simp -implicitDefEqProofs [go_sem, w2, hjl', hm0]
  have hadd : ∀ (H : Hp) (V : List Nat), CC Try.prog 16 [.agg (asmC a), .sl .sh 1 (bs m[j'])] H V (Pu (dvA (addA a m[j'])) H V) := fun H V => Add_cc H V .sh a m[j'] (by omega) (hmp _ (List.getElem_mem hjl'))
  refine ⟨_, fun H V => hadd H V, ?_⟩
  rw [had]
  simp -implicitDefEqProofs [go_sem, dvA]
  obtain ⟨j, hj⟩ : ∃ j, j = x.toNat % l.length := ⟨_, rfl⟩
  have hjl : j < l.length := hj ▸ Nat.mod_lt _ (by omega)
  have w3 : (IntKind.i64.wrap (x.toNat : Int)).tmod (l.length : Int) = (j : Int) := by rw [hj]; exact rem8 x l.length
  have hlj : l[j] = partB c b n j := by subst hl; simp [partsB]
  have hbu := add_bump hb he hn1 hn2 (fun _ => true) (i := j) (by omega) rfl
  obtain ⟨p, hp⟩ : ∃ p, p = partB c b n j := ⟨_, rfl⟩
  rw [← ha, ← hp] at hbu
  rw [← hp] at hlj
  have hp1 : 1 ≤ p.length := by
    have := pcOf_len (b := b) (i := j) hn1 (by omega)
    rw [hp, partB, List.length_append]; omega
  have hp2 : p.length ≤ 800000000 := hlj ▸ hlp _ (List.getElem_mem hjl)
  have hp0 : bs p ≠ [] := fun q => by have := congrArg List.length q; simp [bs] at this; rw [this] at hp1; simp at hp1
  refine SWp.join (α := Unit) (fun _ => ([(11, .ptr (H.length + 2) 0), (12, .v (.bool true)), (14, er 7), (15, .bsl (H.length + 4) 0 p.length 1)], H ++ [some (cycC c), some (cycC d), some (asmC a), some (asmC zasm), some (fbB p)], V)) (fun _ => True) ?_ ?_
  · refine SWp.opx (pre := [_, _, _, _, _, _, _, _, _]) (post := [_]) rfl (by intro c e; cases e) ?_
    simp -implicitDefEqProofs [go_sem, w3, hjl, hl0, hlj]
    refine ⟨_, _, _, appbox (sz := 1) (tk := .sh) (ys := bs p) slTy22 slTy22 rfl rfl hp0 (by rw [bs, List.length_map]; omega), ?_⟩
    rw [fbB_flat]
    simp -implicitDefEqProofs [go_sem]
    exact Sh.forget (by simp [go_sem]; exact .bsa _ _ _) rfl rfl
  · rintro _ -
    dsimp only
    refine SWp.seq (SWp.seq (Wp.s ?_))
    simp -implicitDefEqProofs [go_sem, show ¬ p.length = 0 by omega]
    refine Wp.s ?_
    simp -implicitDefEqProofs [go_sem]
    obtain ⟨k, hk⟩ : ∃ k, p.length = k + 1 := ⟨p.length - 1, by omega⟩
    have hkp : k < p.length := by omega
    have w4 : IntKind.i64.wrap ((p.length : Int) - 1) = (k : Int) := by rw [IntWalk.i64_in _ ⟨by omega, by omega⟩]; omega
    refine SWp.join (α := Unit) (fun _ => ([(11, .ptr (H.length + 2) 0), (12, .v (.bool true)), (14, er 7), (15, .bsl (H.length + 4) 0 p.length 1)], H ++ [some (cycC c), some (cycC d), some (asmC a), some (asmC zasm), some (fbB (bumpL p))], V)) (fun _ => True) ?_ ?_
    · obtain ⟨z, hz⟩ : ∃ z, z = p[k] + 1 := ⟨_, rfl⟩
      have hwr : IntKind.u8.wrap ((p[k].toNat : Int) + 1) = (z.toNat : Int) := by rw [hz]; exact wrap_u8s _
      refine Wp.s ?_
      simp -implicitDefEqProofs [go_sem, w4, hkp, hwr]
      refine ⟨by omega, Sh.forget (by simp [go_sem]) ?_ rfl⟩
      have e : bumpL p = p.set k (p[k] + 1) := by
        unfold bumpL
        rw [show p.length - 1 = k by omega, List.getD_eq_getElem?_getD, List.getElem?_eq_getElem hkp]; rfl
      rw [e, ← hz, ← fbB_set p k _ hkp]
    · rintro _ -
      dsimp only
      have hbl2 : (bumpL p).length = p.length := bump_len p
      have hch : chunks 1 p.length ((fbB (bumpL p)).drop 0) = bs (bumpL p) := by
        have := fbB_chunks (bumpL p)
        rwa [hbl2] at this
      refine SWp.ghost (T' := [(11, .ptr (H.length + 2) 0), (12, .v (.bool true)), (14, er 7), (15, .sl .sh 1 (bs (bumpL p)))]) (H' := H ++ [some (cycC c), some (cycC d), some (asmC a), some (asmC zasm), none]) (V' := V) ?_ ?_
      · have := Gst.freeze (n := 118) (nb := H.length) (nv := V.length) (T := [(11, .ptr (H.length + 2) 0), (12, .v (.bool true)), (14, er 7), (15, .bsl (H.length + 4) 0 p.length 1)]) (T' := [(11, .ptr (H.length + 2) 0), (12, .v (.bool true)), (14, er 7), (15, .sl .sh 1 (bs (bumpL p)))]) (V := V) (b := H.length + 4) (cs := fbB (bumpL p)) (H := H ++ [some (cycC c), some (cycC d), some (asmC a), some (asmC zasm), some (fbB (bumpL p))]) (by rw [at_len_add]; rfl) (fun q hq => by
          simp at hq
          rcases hq with rfl | rfl | rfl | rfl
          · exact .refl _
          · exact .refl _
          · exact .refl _
          · show Fz _ _ (.bsl (H.length + 4) 0 p.length 1) (.sl .sh 1 (bs (bumpL p)))
            rw [← hch]; exact .bsl _ _ _ (by simp [hbl2]))
        rwa [set_addj] at this
      · refine SWp.seq (Wp.s ?_)
        simp -implicitDefEqProofs [go_sem]
        refine CC.mono (Add_cc _ _ .sh a (bumpL p) (by omega) (by rw [hbl2]; omega)) ?_
        rintro _ _ _ ⟨rfl, rfl, rfl⟩
        rw [hbu]
        simp -implicitDefEqProofs [go_sem, dvA]
        refine SWp.seq (Wp.s ?_)
        simp -implicitDefEqProofs [go_sem]
        refine CC.mono (awake_cc _ _) ?_
        rintro _ _ _ ⟨rfl, rfl, rfl⟩
        simp -implicitDefEqProofs [go_sem]
        refine Wp.s ?_
        simp -implicitDefEqProofs [go_sem]
        exact Fin.bool rfl hokH (by simp) (by simp)
end Go.Proofs.Ytfbjhkpdlihgeaa
