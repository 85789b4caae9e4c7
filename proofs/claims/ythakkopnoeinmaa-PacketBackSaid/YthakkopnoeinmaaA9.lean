import Derived.Test.YthakkopnoeinmaaA8
set_option linter.unusedSimpArgs false
set_option linter.unusedVariables false
namespace Go.Proofs.Ythakkopnoeinmaa
open Go.Proofs
/-! ### Plain: the encoding of numbers -/
theorem encN_pos : ∀ n, 0 < (encN n).length := fun n => by
  by_cases h : n < 128
  · rw [encN_lt h]; simp
  · rw [encN_ge (by omega)]; simp
theorem encN_mono : ∀ a b : Nat, a ≤ b → (encN a).length ≤ (encN b).length := by
  intro a
  induction a using Nat.strongRecOn with
  | ind a ih =>
    intro b hab
    by_cases ha : a < 128
    · rw [encN_lt ha]
      exact encN_pos b
    · rw [encN_ge (n := a) (by omega), encN_ge (n := b) (by omega), List.length_cons, List.length_cons]
      have := ih (a / 128) (by omega) (b / 128) (Nat.div_le_div_right hab)
      omega
theorem ofNat_inj {a b : Nat} (ha : a < 256) (hb : b < 256) (h : UInt8.ofNat a = UInt8.ofNat b) : a = b := by
  have := congrArg UInt8.toNat h
  rw [UInt8.toNat_ofNat', UInt8.toNat_ofNat'] at this
  omega
/-- No encoding is the beginning of another. -/
theorem encN_pre : ∀ (a b : Nat) (r s : List UInt8), encN a ++ r = encN b ++ s → a = b ∧ r = s := by
  intro a
  induction a using Nat.strongRecOn with
  | ind a ih =>
    intro b r s h
    by_cases ha : a < 128
    · rw [encN_lt ha] at h
      by_cases hb : b < 128
      · rw [encN_lt hb] at h
        simp only [List.cons_append, List.nil_append, List.cons.injEq] at h
        exact ⟨ofNat_inj (by omega) (by omega) h.1, h.2⟩
      · rw [encN_ge (n := b) (by omega)] at h
        simp only [List.cons_append, List.nil_append, List.cons.injEq] at h
        have := ofNat_inj (by omega) (by omega) h.1
        omega
    · rw [encN_ge (n := a) (by omega)] at h
      by_cases hb : b < 128
      · rw [encN_lt hb] at h
        simp only [List.cons_append, List.nil_append, List.cons.injEq] at h
        have := ofNat_inj (by omega) (by omega) h.1
        omega
      · rw [encN_ge (n := b) (by omega)] at h
        simp only [List.cons_append, List.cons.injEq] at h
        have h1 := ofNat_inj (by omega) (by omega) h.1
        obtain ⟨h2, h3⟩ := ih (a / 128) (by omega) (b / 128) r s h.2
        exact ⟨by omega, h3⟩
theorem encN_inj {a b : Nat} (h : encN a = encN b) : a = b := (encN_pre a b [] [] (by rw [h])).1
theorem norm_in {n : Int} (h : inR n = true) : (norm n : Int) = n := by
  simp [inR] at h
  unfold norm
  rw [if_neg (by omega)]; omega
theorem norm_out {n : Int} (h : inR n = false) : norm n = 0 := by
  simp [inR] at h
  unfold norm
  rw [if_pos (by omega)]
theorem enc_out {n : Int} (h : inR n = false) : enc n = [0] := by rw [enc, norm_out h]; exact encN_lt (by decide)
theorem enc_mono {n m : Int} (hn : inR n = true) (hm : inR m = true) (h : n ≤ m) : (enc n).length ≤ (enc m).length :=
  encN_mono _ _ (by have := norm_in hn; have := norm_in hm; omega)
theorem enc_eq {n m : Int} (hn : inR n = true) (hm : inR m = true) : enc n = enc m ↔ n = m :=
  ⟨fun h => by rw [← norm_in hn, ← norm_in hm, encN_inj h], fun h => by rw [h]⟩
theorem enc_m1 : enc (-1) = [0] := enc_out rfl
theorem shr7 (n : Int) : shr .i64 n 7 = n / 128 := by
  unfold shr
  rw [Int.fdiv_eq_ediv_of_nonneg _ (by decide)]; rfl
end Go.Proofs.Ythakkopnoeinmaa
namespace Go.Proofs.Ythakkopnoeinmaa
open Go.Proofs
theorem few_true {x : Vals} (h : few x = true) : x.ints.length ≤ 40 ∧ x.secs.length ≤ 40 ∧ x.exts.length ≤ 40 ∧ x.wrs.length ≤ 20 ∧ ∀ w ∈ x.wrs, w.data.length ≤ 20 := by
  simp only [few, Bool.and_eq_true, decide_eq_true_eq, Bool.not_eq_true', List.any_eq_false] at h
  obtain ⟨⟨⟨⟨h1, h2⟩, h3⟩, h4⟩, h5⟩ := h
  exact ⟨h1, h2, h3, h4, fun w hw => by have := h5 w hw; omega⟩
theorem encExts_len (l : List Ext2) : (encExts l).length ≤ 8 + 16 * l.length := by
  rw [encExts, List.length_append]
  have h1 := enc_len l.length
  have h2 := flat_len (f := encExt) (c := 16) (fun e => by
    rw [encExt, List.length_append]
    have := enc_len e.start
    have := enc_len e.count
    omega) l
  omega
theorem encWr_len (w : Wr) : (encWr w).length ≤ 24 + 8 * w.data.length := by
  rw [encWr, List.length_append, List.length_append]
  have := enc_len w.volume
  have := enc_len w.start
  have := enc_len w.data.length
  rw [encSecs_len]
  omega
theorem flat_lenm {α : Type} {f : α → List UInt8} {c : Nat} : ∀ {xs : List α}, (∀ x ∈ xs, (f x).length ≤ c) → (xs.flatMap f).length ≤ c * xs.length
  | [], _ => by simp
  | x :: xs, h => by
    rw [List.flatMap_cons, List.length_append, List.length_cons, Nat.mul_succ]
    have := flat_lenm fun y hy => h y (List.mem_cons_of_mem _ hy)
    have := h x (by simp)
    omega
theorem encWrs_len {l : List Wr} (h : ∀ w ∈ l, w.data.length ≤ 20) : (encWrs l).length ≤ 8 + 184 * l.length := by
  rw [encWrs, List.length_append]
  have h1 := enc_len l.length
  have h2 := flat_lenm (f := encWr) (c := 184) (xs := l) (fun w hw => by
    have := encWr_len w
    have := h w hw
    omega)
  omega
end Go.Proofs.Ythakkopnoeinmaa
