import Derived.Test.YtffjhibomipemaaX3
namespace Go.Proofs.Ytffjhibomipemaa
/-! ### Plain: reading -/
abbrev Pr (α : Type) := List UInt8 → Except Nat (α × List UInt8)
def lengthP : Pr Nat := fun s =>
  match number s with
  | .error e => .error e
  | .ok (n, r) => if 65536 < n then .error 5 else .ok (n, r)
def takeP (n : Nat) : Pr (List UInt8) := fun s => if s.length < n then .error 10 else .ok (s.take n, s.drop n)
def textP : Pr (List UInt8) := fun s =>
  match lengthP s with
  | .error e => .error e
  | .ok (n, r) => takeP n r
def secP : Pr Sec := fun s => if h : s.length < 8 then .error 10 else .ok (⟨s.take 8, by rw [List.length_take]; omega⟩, s.drop 8)
def pairP : Pr (Nat × Nat) := fun s =>
  match number s with
  | .error e => .error e
  | .ok (a, r) =>
    match number r with
    | .error e => .error e
    | .ok (b, r') => .ok ((a, b), r')
def extP : Pr Ext2 := fun s =>
  match pairP s with
  | .error e => .error e
  | .ok ((a, b), r) => .ok (⟨a, b⟩, r)
def repP {α : Type} (p : Pr α) : Nat → Pr (List α)
  | 0, s => .ok ([], s)
  | n + 1, s =>
    match p s with
    | .error e => .error e
    | .ok (a, r) =>
      match repP p n r with
      | .error e => .error e
      | .ok (l, r') => .ok (a :: l, r')
def listP {α : Type} (p : Pr α) : Pr (List α) := fun s =>
  match lengthP s with
  | .error e => .error e
  | .ok (n, r) => repP p n r
def intP : Pr Int := fun s =>
  match number s with
  | .error e => .error e
  | .ok (n, r) => .ok ((n : Int), r)
def wrP : Pr Wr := fun s =>
  match pairP s with
  | .error e => .error e
  | .ok ((a, b), r) =>
    match listP secP r with
    | .error e => .error e
    | .ok (l, r') => .ok (⟨a, b, l⟩, r')
/-- What was read already, ahead. -/
def ahead {α : Type} (xs : List α) : Except Nat (List α × List UInt8) → Except Nat (List α × List UInt8)
  | .error e => .error e
  | .ok (l, r) => .ok (xs ++ l, r)
theorem ahead_nil {α : Type} (x : Except Nat (List α × List UInt8)) : ahead [] x = x := by cases x <;> rfl
theorem rep_ok {α : Type} {p : Pr α} {n : Nat} {s r : List UInt8} {a : α} {xs : List α} (h : p s = .ok (a, r)) : ahead xs (repP p (n + 1) s) = ahead (xs ++ [a]) (repP p n r) := by
  rw [repP, h]
  dsimp only
  cases repP p n r with
  | error e => rfl
  | ok q => simp [ahead]
theorem rep_err {α : Type} {p : Pr α} {n e : Nat} {s : List UInt8} {xs : List α} (h : p s = .error e) : ahead xs (repP p (n + 1) s) = .error e := by
  rw [repP, h]; rfl
/-- A reader never gives error 0. -/
def Ne0 {α : Type} (p : Pr α) : Prop := ∀ s e, p s = .error e → e ≠ 0
theorem ne0_number : Ne0 number := fun s e h => by rcases number_err _ _ _ _ h with rfl | rfl <;> decide
theorem ne0_length : Ne0 lengthP := fun s e h => by
  unfold lengthP at h
  split at h
  · rename_i h1; cases h; exact ne0_number _ _ h1
  · split at h
    · cases h; decide
    · cases h
theorem ne0_int : Ne0 intP := fun s e h => by
  unfold intP at h
  split at h
  · rename_i h1; cases h; exact ne0_number _ _ h1
  · cases h
theorem ne0_take (n : Nat) : Ne0 (takeP n) := fun s e h => by
  unfold takeP at h
  split at h
  · cases h; decide
  · cases h
theorem ne0_text : Ne0 textP := fun s e h => by
  unfold textP at h
  split at h
  · rename_i h1; cases h; exact ne0_length _ _ h1
  · exact ne0_take _ _ _ h
theorem ne0_sec : Ne0 secP := fun s e h => by
  unfold secP at h
  split at h
  · cases h; decide
  · cases h
theorem ne0_pair : Ne0 pairP := fun s e h => by
  unfold pairP at h
  split at h
  · rename_i h1; cases h; exact ne0_number _ _ h1
  · split at h
    · rename_i h1; cases h; exact ne0_number _ _ h1
    · cases h
theorem ne0_ext : Ne0 extP := fun s e h => by
  unfold extP at h
  split at h
  · rename_i h1; cases h; exact ne0_pair _ _ h1
  · cases h
theorem ne0_rep {α : Type} {p : Pr α} (hp : Ne0 p) : ∀ n, Ne0 (repP p n)
  | 0, s, e, h => by rw [repP] at h; cases h
  | n + 1, s, e, h => by
    rw [repP] at h
    split at h
    · rename_i h1; cases h; exact hp _ _ h1
    · split at h
      · rename_i h1; cases h; exact ne0_rep hp n _ _ h1
      · cases h
theorem ne0_list {α : Type} {p : Pr α} (hp : Ne0 p) : Ne0 (listP p) := fun s e h => by
  unfold listP at h
  split at h
  · rename_i h1; cases h; exact ne0_length _ _ h1
  · exact ne0_rep hp _ _ _ h
theorem ne0_wr : Ne0 wrP := fun s e h => by
  unfold wrP at h
  split at h
  · rename_i h1; cases h; exact ne0_pair _ _ h1
  · split at h
    · rename_i h1; cases h; exact ne0_list ne0_sec _ _ h1
    · cases h
/-- What is left is not longer. -/
def Shr {α : Type} (p : Pr α) : Prop := ∀ s a r, p s = .ok (a, r) → r.length ≤ s.length
theorem shr_number : Shr number := fun _ _ _ h => number_len _ _ _ _ h
theorem shr_length : Shr lengthP := fun s a r h => by
  unfold lengthP at h
  split at h
  · cases h
  · rename_i h1
    split at h
    · cases h
    · cases h; exact shr_number _ _ _ h1
theorem length_le {s r : List UInt8} {n : Nat} (h : lengthP s = .ok (n, r)) : n ≤ 65536 := by
  unfold lengthP at h
  split at h
  · cases h
  · split at h
    · cases h
    · cases h; omega
theorem shr_int : Shr intP := fun s a r h => by
  unfold intP at h
  split at h
  · cases h
  · rename_i h1; cases h; exact shr_number _ _ _ h1
theorem shr_take (n : Nat) : Shr (takeP n) := fun s a r h => by
  unfold takeP at h
  split at h
  · cases h
  · cases h; rw [List.length_drop]; omega
theorem shr_text : Shr textP := fun s a r h => by
  unfold textP at h
  split at h
  · cases h
  · rename_i h1; exact Nat.le_trans (shr_take _ _ _ _ h) (shr_length _ _ _ h1)
theorem shr_sec : Shr secP := fun s a r h => by
  unfold secP at h
  split at h
  · cases h
  · cases h; rw [List.length_drop]; omega
theorem shr_pair : Shr pairP := fun s a r h => by
  unfold pairP at h
  split at h
  · cases h
  · rename_i h1
    split at h
    · cases h
    · rename_i h2; cases h; exact Nat.le_trans (shr_number _ _ _ h2) (shr_number _ _ _ h1)
theorem shr_ext : Shr extP := fun s a r h => by
  unfold extP at h
  split at h
  · cases h
  · rename_i h1; cases h; exact shr_pair _ _ _ h1
theorem shr_rep {α : Type} {p : Pr α} (hp : Shr p) : ∀ n, Shr (repP p n)
  | 0, s, a, r, h => by rw [repP] at h; cases h; exact Nat.le_refl _
  | n + 1, s, a, r, h => by
    rw [repP] at h
    split at h
    · cases h
    · rename_i h1
      split at h
      · cases h
      · rename_i h2; cases h; exact Nat.le_trans (shr_rep hp n _ _ _ h2) (hp _ _ _ h1)
theorem shr_list {α : Type} {p : Pr α} (hp : Shr p) : Shr (listP p) := fun s a r h => by
  unfold listP at h
  split at h
  · cases h
  · rename_i h1; exact Nat.le_trans (shr_rep hp _ _ _ _ h) (shr_length _ _ _ h1)
theorem shr_wr : Shr wrP := fun s a r h => by
  unfold wrP at h
  split at h
  · cases h
  · rename_i h1
    split at h
    · cases h
    · rename_i h2; cases h; exact Nat.le_trans (shr_list shr_sec _ _ _ h2) (shr_pair _ _ _ h1)
end Go.Proofs.Ytffjhibomipemaa
